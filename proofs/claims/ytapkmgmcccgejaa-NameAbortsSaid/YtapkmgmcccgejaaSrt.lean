/- slices.SortFunc over a row of our own: behind it the row holds a sorted permutation, and nothing else has turned. -/
import Derived.Shelf.SlSortCmp.WholeK
import Derived.Shelf.SlSortCmp.NoneTotal
import Derived.Test.YtapkmgmcccgejaaClone
namespace Go.Proofs.Ytapkmgmcccgejaa
open Go.RowKit Go.Sort Go.Shelf

/-! ### strings in order -/
theorem bl_lt : ∀ x y : List UInt8, Op.bytesLess x y = decide (x < y)
  | [], [] => by simp [Op.bytesLess]
  | _ :: _, [] => by simp [Op.bytesLess]
  | [], _ :: _ => by simp [Op.bytesLess]
  | a :: x, b :: y => by
    rw [Op.bytesLess, bl_lt x y]
    simp only [List.cons_lt_cons_iff]
    by_cases h1 : a < b <;> by_cases h2 : a = b <;> by_cases h3 : x < y <;> simp [h1, h2, h3]

/-- What cmp.Compare says of two strings. -/
def cmpS (x y : ByteArray) : Int := if Op.bytesLess x.toList y.toList = true then -1 else if (!(Op.bytesLess x.toList y.toList || x.toList == y.toList)) = true then 1 else 0

theorem cmpS_neg (x y : ByteArray) : decide (cmpS x y < 0) = decide (x.toList < y.toList) := by
  unfold cmpS
  rw [bl_lt]
  by_cases h : x.toList < y.toList
  · simp [h]
  · simp only [h, decide_false, Bool.false_eq_true, if_false]
    split <;> simp

theorem bytes_ext {x y : ByteArray} (h : x.toList = y.toList) : x = y := by
  have h2 : x.data.toList = y.data.toList := by rwa [Lib.toList_data, Lib.toList_data] at h
  cases x; cases y; simpa using h2

theorem lt_total {x y : ByteArray} (h1 : ¬ x.toList < y.toList) (h2 : ¬ y.toList < x.toList) : x = y :=
  bytes_ext (List.le_antisymm (List.not_lt.1 h2) (List.not_lt.1 h1))

/-! ### the row -/
section
variable {P : Program} {ρ : Ren} {α : Type} [Inhabited α]

theorem flatK_list (enc : α → List Value) (k : Nat) (hk : ∀ x, (enc x).length = k) (l : List α) : (flatK enc k l.toArray).toList = l.flatMap enc := by
  apply List.ext_getElem?
  intro t
  by_cases ht : t < l.length * k
  · have k0 : 0 < k := by
      rcases Nat.eq_zero_or_pos k with h | h
      · subst h; simp at ht
      · exact h
    have hq : t / k < l.length := Nat.div_lt_of_lt_mul (by rwa [Nat.mul_comm] at ht)
    have hr : t % k < k := Nat.mod_lt _ k0
    have h1 := get_flatK enc k l.toArray t (by simpa using ht)
    have h2 := flat_get (f := enc) (s := k) hk l (t / k) (t % k) l[t / k] (List.getElem?_eq_getElem hq) hr
    rw [show t / k * k + t % k = t from by rw [Nat.mul_comm]; exact Nat.div_add_mod t k] at h2
    rw [h2]
    have hsz : t < (flatK enc k l.toArray).size := by simpa using ht
    rw [getElem!_pos _ t hsz] at h1
    rw [show (flatK enc k l.toArray).toList[t]? = some (flatK enc k l.toArray)[t] from by simp [hsz], h1]
    have e1 : (l.toArray)[t / k]! = l[t / k]'hq := by simp [hq]
    rw [e1]
    have hl : t % k < (enc l[t / k]).length := by rw [hk]; exact hr
    rw [List.getElem?_eq_getElem hl]
    exact congrArg some (getElem!_pos (enc l[t / k]) (t % k) hl)
  · rw [List.getElem?_eq_none (by simp; omega), List.getElem?_eq_none (by rw [flat_len hk]; omega)]

theorem holdsK_own {enc : α → List Value} {k : Nat} (hk : ∀ x, (enc x).length = k) {w : World} {B : Nat} {E : TypeId} {g cap : Nat} {l : List α} (h : w.ownsRow B E k (.slice (some ⟨g, 0, none⟩) l.length cap) l.length (l.flatMap enc)) :
    HoldsK enc k w g 0 l.toArray := by
  intro j hj
  have hj' : j < l.length * k := by simpa using hj
  have hl : j < (l.flatMap enc).length := by rw [flat_len hk]; exact hj'
  rw [Nat.zero_add]
  have hc := ownsRow_cell h (g := g) rfl (List.getElem?_eq_getElem hl)
  refine ⟨?_, ?_⟩
  · rw [hc]
    have e := flatK_list enc k hk l
    have : (flatK enc k l.toArray)[j]! = (l.flatMap enc)[j] := by
      have h3 : (flatK enc k l.toArray).toList[j]? = some (l.flatMap enc)[j] := by rw [e, List.getElem?_eq_getElem hl]
      rw [Array.getElem?_toList] at h3
      rw [Array.getElem!_eq_getD, Array.getD_eq_getD_getElem?, h3]; rfl
    rw [this]; rfl
  · obtain ⟨_, h2⟩ := h
    rcases h2 with ⟨h2, _⟩ | ⟨g', cap', cur, hv, hb, hh, _⟩
    · cases h2
    · cases hv
      simp [World.frozen?, hh]

theorem ownsRow_sorted {enc : α → List Value} {k : Nat} (hk : ∀ x, (enc x).length = k) {w : World} {B : Nat} {E : TypeId} {g cap : Nat} {l l' : List α} (h : w.ownsRow B E k (.slice (some ⟨g, 0, none⟩) l.length cap) l.length (l.flatMap enc)) (hl : l'.length = l.length) (n : Nat) (os : Array Obj) :
    (sortWorldK enc k w g 0 n l'.toArray os).ownsRow B E k (.slice (some ⟨g, 0, none⟩) l'.length cap) l'.length (l'.flatMap enc) ∧ Tur (· = g) w (sortWorldK enc k w g 0 n l'.toArray os) := by
  obtain ⟨_, h2⟩ := h
  rcases h2 with ⟨h2, _⟩ | ⟨g', cap', cur, hv, hb, hh, hn, hc, hs, ht⟩
  · cases h2
  cases hv
  have hg : g < w.heap.size := (Array.getElem?_eq_some_iff.1 hh).1
  have hheap : ∀ b, b < w.heap.size → (sortWorldK enc k w g 0 n l'.toArray os).heap[b]? = if b = g then some (.cells (putCells id 0 (flatK enc k l'.toArray) cur) E (0, 0)) else w.heap[b]? := by
    intro b hbl
    unfold sortWorldK putRowK putRow
    rw [heap_grow_old _ _ (by simpa [mapBlock] using hbl)]
    simp only [mapBlock, heap_ahead, Array.getElem?_modify]
    by_cases e : b = g
    · subst e; simp [hh, onCells]
    · rw [if_neg (fun h => e h.symm), if_neg e]
  refine ⟨⟨by rw [flat_len hk], .inr ⟨g, cap, putCells id 0 (flatK enc k l'.toArray) cur, by rw [hl], hb, by rw [hheap g hg, if_pos rfl], by rw [hl]; exact hn, hc, by simpa [putCells] using hs, ?_⟩⟩, ⟨rfl, rfl, rfl, ?_, fun b hbl hne => by rw [hheap b hbl, if_neg hne]⟩⟩
  · have hle : l'.length * k ≤ cur.size := by rw [hs, hl]; exact Nat.mul_le_mul_right _ hn
    rw [← flatK_list enc k hk l']
    apply List.ext_getElem?
    intro t
    rw [List.getElem?_take]
    by_cases h4 : t < l'.length * k
    · rw [if_pos h4]
      have hsz : t < (flatK enc k l'.toArray).size := by simpa using h4
      have hcur : t < cur.size := by omega
      simp only [putCells, Array.getElem?_toList, Array.getElem?_mapIdx, Array.getElem?_eq_getElem hcur, Option.map_some]
      rw [if_pos ⟨Nat.zero_le _, by simpa using h4⟩, Nat.sub_zero, getElem!_pos _ t hsz, Array.getElem?_eq_getElem hsz]; rfl
    · rw [if_neg h4, List.getElem?_eq_none (by simp; omega)]
  · unfold sortWorldK putRowK
    rw [size_grow, size_putRow]; simp

/-- slices.SortFunc. -/
theorem sortOwn (L : SlLaysF0.n6 P ρ) (k : Nat) (aE : ∀ w, (isAgg (ρ.t 24)).run P w = .ok true w) (zE : ∀ w, (Go.sizeOf (ρ.t 24)).run P w = .ok k w) (enc : α → List Value) (hk : ∀ x, (enc x).length = k) (h1 : ∀ x, ∀ v ∈ enc x, v.oneCell' = true)
    (cf : α → α → Int) (hO : SWO (ltOf cf)) (g : Nat) (eg : ∀ args w, (callFunc g args).run P w = .ok (.enter g args) w)
    (hc : ∀ x y W, Calls P g #[.agg (enc x).toArray, .agg (enc y).toArray] W fun e w' => e = .returned (.int .i64 (cf x y)) ∧ ∃ q os', w' = grow (W.drewN q) os')
    {w : World} {B : Nat} {E : TypeId} {v : Value} (l : List α) (h : w.ownsRow B E k v l.length (l.flatMap enc)) (hn : l.length < 4611686018427387904) :
    Calls P (ρ.f 6) #[v, .func (.func g) #[] #[]] w fun e w' => e = .returned (.tuple #[]) ∧ ∃ l' : List α, l'.Perm l ∧ l'.Pairwise (fun x y => ltOf cf y x = false) ∧ w'.ownsRow B E k v l'.length (l'.flatMap enc) ∧ Tur (fun b => v.ownBlock = some b) w w' := by
  rcases ownsRow_shape h with ⟨rfl, h0⟩ | ⟨gb, cap, rfl, _⟩
  · refine (AnyF.slices_SortFunc_none L none 0 _ w).mono ?_
    rintro e w' ⟨rfl, rfl⟩
    have hnil : l = [] := List.length_eq_zero_iff.1 h0
    subst hnil
    exact ⟨rfl, [], List.Perm.refl _, List.Pairwise.nil, h, Tur.refl _ _⟩
  · have hlt : gb < w.heap.size := by
      obtain ⟨_, h2⟩ := h
      rcases h2 with ⟨h2, _⟩ | ⟨g', cap', cur, hv, hb, hh, _⟩
      · cases h2
      · cases hv; exact (Array.getElem?_eq_some_iff.1 hh).1
    have hcon := AnyQ.slices_SortFunc L k aE zE enc hk h1 cf hO g #[] gb 0 cap l.toArray w eg (fun m os dk _ x y => hc x y _) (holdsK_own hk h) hlt (by simpa using hn)
    rw [List.size_toArray] at hcon
    refine hcon.mono ?_
    rintro e w' ⟨rfl, d', n, os, hp, hs, rfl⟩
    obtain ⟨hp1, _, hp3⟩ := hp
    have hp1 : d'.size = l.length := by simpa using hp1
    have hperm : d'.toList.Perm l := by
      have e1 : d'.extract 0 l.length = d' := by rw [← hp1, Array.extract_size]
      have e2 : (l.toArray).extract 0 l.length = l.toArray := by
        have := Array.extract_size (xs := l.toArray); rwa [List.size_toArray] at this
      rw [e1, e2] at hp3; exact hp3
    have hlen : d'.toList.length = l.length := hperm.length_eq
    obtain ⟨r1, r2⟩ := ownsRow_sorted hk h hlen n os
    rw [Array.toArray_toList] at r1 r2
    refine ⟨rfl, d'.toList, hperm, ?_, ?_, r2.mono (fun j _ e => ?_)⟩
    · rw [List.pairwise_iff_getElem]
      intro i j hi hj hij
      have hj' : j < d'.size := by simpa using hj
      have hi' : i < d'.size := by omega
      have := hs i j (Nat.zero_le _) hij (by omega)
      rw [getElem!_pos d' i hi', getElem!_pos d' j hj'] at this
      simpa using this
    · rw [hlen] at r1 ⊢; exact r1
    · subst e; rfl

end
end Go.Proofs.Ytapkmgmcccgejaa
