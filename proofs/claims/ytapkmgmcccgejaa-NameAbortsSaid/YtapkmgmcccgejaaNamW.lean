/- What stores, appends and a new entry make of names in memory. -/
import Derived.Test.YtapkmgmcccgejaaOthersW
namespace Go.Proofs.Ytapkmgmcccgejaa
open Go.RowKit Go.Shelf

def NM.has (N : NM) (s : ByteArray) : Bool := N.keys.any (fun k => decide (k = s))
theorem NM.has_iff {N : NM} {s : ByteArray} : N.has s = true ↔ s ∈ N.keys := by
  unfold NM.has
  rw [List.any_eq_true]
  constructor
  · rintro ⟨k, hk, e⟩; have := of_decide_eq_true e; rw [← this]; exact hk
  · intro h; exact ⟨s, h, by simp⟩

/-- The versions of one name are these now. -/
def NM.set (N : NM) (s : ByteArray) (vs : List Ver) : NM := { f := fun k => if k = s then vs else N.f k, keys := if N.has s = true then N.keys else N.keys ++ [s] }

/-- Version k is ended by x. -/
def endAt (vs : List Ver) (k : Nat) (x : Int) : List Ver := vs.modify k (fun v => { v with xmax := x })

/-- What may have turned: maps and rows of versions from B on. -/
def PutS (w : World) (B : Nat) : Nat → Prop := fun k => B ≤ k ∧ (KindAt w k 1 ∨ KindAt w k 2)

theorem LogAt.putS {w w' : World} {b B : Nat} {L : LogM} (h : LogAt w b L) (t : Tur (PutS w B) w w') : LogAt w' b L :=
  h.tur t (fun e => by rcases e.2 with k | k <;> (have := k.fn h.kind; omega))

theorem Tur.putS_below {w w' : World} {B : Nat} (t : Tur (PutS w B) w w') (hB : B ≤ w.heap.size) : Below B w w' := t.below hB (fun _ e => e.1)

theorem flatMap_modify {α : Type} (f : α → List Value) (g : α → α) : ∀ (l : List α) (k : Nat) (x : α), l[k]? = some x →
    (l.modify k g).flatMap f = (l.take k).flatMap f ++ f (g x) ++ (l.drop (k + 1)).flatMap f
  | [], _, _, h => by simp at h
  | a :: l, 0, x, h => by simp at h; subst h; simp
  | a :: l, k + 1, x, h => by
    simp at h
    simp only [List.modify_succ_cons, List.flatMap_cons, flatMap_modify f g l k x h, List.take_succ_cons, List.drop_succ_cons, List.append_assoc]

theorem split_at {α : Type} {l : List α} {k : Nat} {x : α} (h : l[k]? = some x) : l = l.take k ++ x :: l.drop (k + 1) := by
  have hk : k < l.length := (List.getElem?_eq_some_iff.1 h).1
  have hx := (List.getElem?_eq_some_iff.1 h).2
  rw [← hx, List.getElem_cons_drop hk, List.take_append_drop]

theorem verCells_end (p : Ver × Value) (x : Int) : verCells ({ p.1 with xmax := x }, p.2) = (verCells p).set 1 (.int .i64 x) := rfl

/-- The cells behind a store of an xmax. -/
theorem cells_end (l : List (Ver × Value)) (k : Nat) (p : Ver × Value) (h : l[k]? = some p) (x : Int) :
    (l.flatMap verCells).set (k * 5 + 1) (.int .i64 x) = (l.modify k (fun p => ({ p.1 with xmax := x }, p.2))).flatMap verCells := by
  rw [flatMap_modify verCells _ l k p h]
  have hk : k < l.length := (List.getElem?_eq_some_iff.1 h).1
  have e := split_at h
  have e2 : l.flatMap verCells = (l.take k).flatMap verCells ++ verCells p ++ (l.drop (k + 1)).flatMap verCells := by
    conv => lhs; rw [e]
    simp [List.flatMap_append]
  have hl : ((l.take k).flatMap verCells).length = k * 5 := by rw [flat_len verCells_len, List.length_take]; congr 1; omega
  rw [e2, show verCells ({ p.1 with xmax := x }, p.2) = (verCells p).set 1 (.int .i64 x) from rfl, List.append_assoc, List.append_assoc, List.set_append_right _ _ (by omega), hl]
  rw [show k * 5 + 1 - k * 5 = 1 from by omega, List.set_append_left _ _ (by rw [verCells_len]; omega)]

theorem zip_modify (vs : List Ver) (cvs : List Value) (k : Nat) (x : Int) : (vs.modify k (fun v => { v with xmax := x })).zip cvs = (vs.zip cvs).modify k (fun p => ({ p.1 with xmax := x }, p.2)) := by
  induction vs generalizing cvs k with
  | nil => simp
  | cons v l ih =>
    cases cvs with
    | nil => simp
    | cons c cs =>
      cases k with
      | zero => simp
      | succ k => simp [ih]

theorem ownsRow_setCell {w : World} {base : Nat} {e : TypeId} {size : Nat} {g n cap : Nat} {xs : List Value} (h : w.ownsRow base e size (.slice (some ⟨g, 0, none⟩) n cap) n xs) {j : Nat} (hj : j < n * size) (u : Value) :
    (w.setCell ⟨g, j, none⟩ u).ownsRow base e size (.slice (some ⟨g, 0, none⟩) n cap) n (xs.set j u) := by
  obtain ⟨hl, h2⟩ := h
  refine ⟨by simpa using hl, ?_⟩
  rcases h2 with ⟨h2, _⟩ | ⟨g', cap', cur, hv, hb, hh, hn, hc, hs, ht⟩
  · cases h2
  · cases hv
    refine .inr ⟨g, cap, cur.setIfInBounds j u, rfl, hb, heap_setCell_self hh u, hn, hc, by simpa using hs, ?_⟩
    have hle : n * size ≤ cap * size := Nat.mul_le_mul_right _ hn
    rw [Array.toList_setIfInBounds, List.take_set, ht]

theorem VersAt.store {w : World} {B g n cap : Nat} {vs : List Ver} {cvs : List Value} (h : VersAt w B (.slice (some ⟨g, 0, none⟩) n cap) vs cvs) (hn : n = vs.length) {k : Nat} (hk : k < vs.length) (x : Int) :
    VersAt (w.setCell ⟨g, k * 5 + 1, none⟩ (.int .i64 x)) B (.slice (some ⟨g, 0, none⟩) n cap) (endAt vs k x) cvs := by
  subst hn
  have hz : (vs.zip cvs)[k]? = some ((vs.zip cvs)[k]'(by simp [h.len, hk])) := List.getElem?_eq_getElem _
  have hle : (endAt vs k x).length = vs.length := by simp [endAt]
  have hown := ownsRow_setCell h.own (j := k * 5 + 1) (by omega) (.int .i64 x)
  rw [cells_end _ _ _ hz, ← zip_modify] at hown
  refine ⟨?_, by rw [hle]; exact h.len, ?_⟩
  · rw [hle]; exact hown
  · intro i y cv hy hcv
    have hkg := h.kind (g := g) rfl
    have hc : ∃ y0, vs[i]? = some y0 ∧ y0.t = y.t := by
      unfold endAt at hy
      rw [List.getElem?_modify] at hy
      cases hvi : vs[i]? with
      | none => rw [hvi] at hy; simp at hy
      | some y0 =>
        rw [hvi] at hy
        refine ⟨y0, rfl, ?_⟩
        by_cases e : k = i
        · simp [e] at hy; rw [← hy]
        · simp [e] at hy; rw [← hy]
    obtain ⟨y0, h0, et⟩ := hc
    rw [← et]
    have ho := h.cols i y0 cv h0 hcv
    refine ho.tur ((Tur.refl (· = g) _).setCell (p := ⟨g, k * 5 + 1, none⟩) (fun _ => rfl) _) (fun b hb e => ?_)
    subst e
    have := (ho.kind hb).fn hkg
    omega

/-- A version of a name is ended. -/
theorem NamesAt.store {w : World} {b B : Nat} {N : NM} {mb ck : Nat} {m : List (Ent ByteArray)} (h : NamesAt w b B N mb ck m) {s : ByteArray} {g cap : Nat} (hs : look s m = some (.slice (some ⟨g, 0, none⟩) (N.f s).length cap))
    {k : Nat} (hk : k < (N.f s).length) (x : Int) : NamesAt (w.setCell ⟨g, k * 5 + 1, none⟩ (.int .i64 x)) b B (N.set s (endAt (N.f s) k x)) mb ck m := by
  obtain ⟨hne, cvs, hv⟩ := h.vers s _ hs
  have hkg : KindAt w g 2 := hv.kind rfl
  have t : Tur (· = g) w (w.setCell ⟨g, k * 5 + 1, none⟩ (.int .i64 x)) := (Tur.refl (· = g) _).setCell (p := ⟨g, k * 5 + 1, none⟩) (fun _ => rfl) _
  have hmem : s ∈ N.keys := by
    rw [← h.keys]
    obtain ⟨y, hy, hyk, _⟩ := look_mem hs
    rw [← hyk]; exact List.mem_map_of_mem hy
  refine ⟨?_, h.map.tur t (fun e => ?_), h.hb, h.hmb, ?_, ?_, ?_, h.apart⟩
  · rw [t.block b h.kind_box.lt (fun e => ?_)]
    · exact h.box
    · subst e; have := h.kind_box.fn hkg; omega
  · subst e; have := h.kind_map.fn hkg; omega
  · simp only [NM.set, if_pos (NM.has_iff.2 hmem)]; exact h.keys
  · intro s' hs'
    simp only [NM.set]
    have : s' ≠ s := by rintro rfl; rw [hs] at hs'; cases hs'
    rw [if_neg this]; exact h.nokey s' hs'
  · intro s' v' hs'
    simp only [NM.set]
    by_cases e : s' = s
    · subst e
      rw [hs] at hs'; cases hs'
      rw [if_pos rfl]
      refine ⟨by intro e2; apply hne; have := congrArg List.length e2; simp [endAt] at this; exact this, cvs, hv.store rfl hk x⟩
    · rw [if_neg e]
      obtain ⟨hne', cvs', hv'⟩ := h.vers s' v' hs'
      refine ⟨hne', cvs', hv'.tur t (fun g' hg' e2 => ?_) (fun cv hcv g' hg' e2 => ?_)⟩
      · subst e2; exact e (h.apart s' s _ _ g' hs' hs hg' rfl)
      · subst e2
        obtain ⟨i, hi⟩ := List.getElem?_of_mem hcv
        have hil : i < (N.f s').length := by rw [← hv'.len]; exact (List.getElem?_eq_some_iff.1 hi).1
        have := (hv'.cols i _ cv (List.getElem?_eq_getElem hil) hi).kind hg'
        have := this.fn hkg
        omega

/-- What a name's slice owns, also where there is none. -/
theorem NamesAt.owns {w : World} {b B : Nat} {N : NM} {mb ck : Nat} {m : List (Ent ByteArray)} (h : NamesAt w b B N mb ck m) (s : ByteArray) :
    ∃ cvs, VersAt w B ((look s m).getD (.slice none 0 0)) (N.f s) cvs := by
  cases hk : look s m with
  | none =>
    have e := h.nokey s hk
    rw [e]
    exact ⟨[], ⟨⟨rfl, .inl ⟨rfl, rfl⟩⟩, rfl, fun i x cv hx => by simp at hx⟩⟩
  | some v => exact (h.vers s v hk).2

theorem VersAt.append {w1 w2 : World} {B : Nat} {v v' : Value} {vs : List Ver} {cvs : List Value} (h : VersAt w1 B v vs cvs) (x : Ver) (cv : Value) (hcv : OwnCols w1 B cv x.t.cols)
    (hown : w2.ownsRow B 66 5 v' (vs.length + 1) ((vs.zip cvs).flatMap verCells ++ verCells (x, cv))) (hg : w1.grownBy w2 v.ownBlock) : VersAt w2 B v' (vs ++ [x]) (cvs ++ [cv]) := by
  have t : Tur (fun k => v.ownBlock = some k) w1 w2 := ⟨hg.os, hg.tape, hg.output, hg.size, fun k hk hn => hg.block k hk (fun e => hn e.symm)⟩
  have hcols : ∀ c cols, OwnCols w1 B c cols → OwnCols w2 B c cols := by
    intro c cols ho
    refine ho.tur t (fun g hg' e => ?_)
    have := (h.kind e).fn (ho.kind hg')
    omega
  refine ⟨?_, by simp [h.len], ?_⟩
  · rw [List.zip_append h.len.symm, List.flatMap_append]
    simpa using hown
  · intro i y c hy hc
    by_cases e : i < vs.length
    · rw [List.getElem?_append_left e] at hy
      rw [List.getElem?_append_left (by rw [h.len]; exact e)] at hc
      exact hcols _ _ (h.cols i y c hy hc)
    · have e1 : i = vs.length := by
        have := (List.getElem?_eq_some_iff.1 hy).1
        simp at this; omega
      subst e1
      rw [List.getElem?_append_right (by omega)] at hy
      rw [List.getElem?_append_right (by rw [h.len]; omega)] at hc
      simp at hy
      rw [h.len] at hc
      simp at hc
      subst hy; subst hc
      exact hcols _ _ hcv

/-- A version more of a name, old or new. -/
theorem NamesAt.append {w1 w2 w3 : World} {b B : Nat} {N : NM} {mb ck : Nat} {m : List (Ent ByteArray)} (h : NamesAt w1 b B N mb ck m) (s : ByteArray) (x : Ver) (cv : Value) (hcv : OwnCols w1 B cv x.t.cols) {cvs : List Value}
    (hvs : VersAt w1 B ((look s m).getD (.slice none 0 0)) (N.f s) cvs) {gg cap : Nat}
    (hown : w2.ownsRow B 66 5 (.slice (some ⟨gg, 0, none⟩) ((N.f s).length + 1) cap) ((N.f s).length + 1) (((N.f s).zip cvs).flatMap verCells ++ verCells (x, cv)))
    (hg : w1.grownBy w2 ((look s m).getD (.slice none 0 0)).ownBlock) (hgg : ((look s m).getD (.slice none 0 0)).ownBlock = some gg ∨ w1.heap.size ≤ gg)
    (hm3 : MapAt w3 mb Value.string (putE s (.slice (some ⟨gg, 0, none⟩) ((N.f s).length + 1) cap) ck m) (putC s ck m)) (t3 : Tur (· = mb) w2 w3) :
    NamesAt w3 b B (N.set s (N.f s ++ [x])) mb (putC s ck m) (putE s (.slice (some ⟨gg, 0, none⟩) ((N.f s).length + 1) cap) ck m) := by
  have t : Tur (fun k => ((look s m).getD (.slice none 0 0)).ownBlock = some k) w1 w2 := ⟨hg.os, hg.tape, hg.output, hg.size, fun k hk hn => hg.block k hk (fun e => hn e.symm)⟩
  have kind2 : ∀ k n, KindAt w1 k n → n ≠ 2 → KindAt w2 k n := by
    intro k n hk hn
    obtain ⟨o, ho, e⟩ := hk
    refine ⟨o, (t.block k (Array.getElem?_eq_some_iff.1 ho).1 (fun e2 => ?_)).trans ho, e⟩
    have : KindAt w1 k 2 := hvs.kind e2
    exact hn (KindAt.fn ⟨o, ho, e⟩ this)
  have kmb : KindAt w2 mb 1 := kind2 mb 1 h.kind_map (by decide)
  have hnew := hvs.append x cv hcv hown hg
  have hver3 : ∀ v vs cvs, VersAt w2 B v vs cvs → VersAt w3 B v vs cvs := by
    intro v vs cvs' hv
    refine hv.tur t3 (fun g hg' e => ?_) (fun c hc g hg' e => ?_)
    · subst e; have := (hv.kind hg').fn kmb; omega
    · subst e
      obtain ⟨i, hi⟩ := List.getElem?_of_mem hc
      have hil : i < vs.length := by rw [← hv.len]; exact (List.getElem?_eq_some_iff.1 hi).1
      have := ((hv.cols i _ c (List.getElem?_eq_getElem hil) hi).kind hg').fn kmb
      omega
  have hlook : ∀ s', look s' (putE s (.slice (some ⟨gg, 0, none⟩) ((N.f s).length + 1) cap) ck m) = if s' = s then some (.slice (some ⟨gg, 0, none⟩) ((N.f s).length + 1) cap) else look s' m := fun s' => look_putE s s' _ ck m
  have hother : ∀ s' v', s' ≠ s → look s' m = some v' → ∀ g', v'.ownBlock = some g' → ((look s m).getD (.slice none 0 0)).ownBlock ≠ some g' := by
    intro s' v' hne hs' g' hg' e
    cases hk : look s m with
    | none => rw [hk] at e; cases e
    | some v => rw [hk] at e; exact hne (h.apart s' s v' v g' hs' hk hg' e)
  refine ⟨?_, hm3, h.hb, h.hmb, ?_, ?_, ?_, ?_⟩
  · rw [t3.block b (kind2 b 4 h.kind_box (by decide)).lt (fun e => by subst e; have := (kind2 _ 4 h.kind_box (by decide)).fn kmb; omega)]
    rw [t.block b h.kind_box.lt (fun e => by have := (hvs.kind e).fn h.kind_box; omega)]
    exact h.box
  · rw [putE_keys]
    simp only [NM.set]
    by_cases hs : (look s m).isSome = true
    · rw [if_pos hs, if_pos, h.keys]
      rw [NM.has_iff, ← h.keys]
      obtain ⟨v, hv⟩ := Option.isSome_iff_exists.1 hs
      obtain ⟨y, hy, hyk, _⟩ := look_mem hv
      rw [← hyk]; exact List.mem_map_of_mem hy
    · rw [if_neg hs, if_neg, h.keys]
      rw [NM.has_iff, ← h.keys]
      intro hmem
      obtain ⟨y, hy, e⟩ := List.mem_map.1 hmem
      have hn : look s m = none := by simpa using hs
      exact look_none_iff.1 hn y hy e.symm
  · intro s' hs'
    rw [hlook] at hs'
    simp only [NM.set]
    by_cases e : s' = s
    · rw [if_pos e] at hs'; cases hs'
    · rw [if_neg e] at hs' ⊢; exact h.nokey s' hs'
  · intro s' v' hs'
    rw [hlook] at hs'
    simp only [NM.set]
    by_cases e : s' = s
    · rw [if_pos e] at hs' ⊢
      cases hs'
      exact ⟨by simp, _, hver3 _ _ _ hnew⟩
    · rw [if_neg e] at hs' ⊢
      obtain ⟨hne', cvs', hv'⟩ := h.vers s' v' hs'
      refine ⟨hne', cvs', hver3 _ _ _ (hv'.tur t (fun g' hg' e2 => hother s' v' e hs' g' hg' e2) (fun c hc g' hg' e2 => ?_))⟩
      obtain ⟨i, hi⟩ := List.getElem?_of_mem hc
      have hil : i < (N.f s').length := by rw [← hv'.len]; exact (List.getElem?_eq_some_iff.1 hi).1
      have := ((hv'.cols i _ c (List.getElem?_eq_getElem hil) hi).kind hg').fn (hvs.kind e2)
      omega
  · intro s1 s2 v1 v2 g h1 h2 g1 g2
    rw [hlook] at h1 h2
    by_cases e1 : s1 = s
    · by_cases e2 : s2 = s
      · rw [e1, e2]
      · rw [if_pos e1] at h1; rw [if_neg e2] at h2
        cases h1
        simp only [Value.ownBlock, Option.some.injEq] at g1
        subst g1
        obtain ⟨_, cvs', hv'⟩ := h.vers s2 v2 h2
        rcases hgg with hgg | hgg
        · exact absurd hgg (hother s2 v2 e2 h2 _ g2)
        · have := (hv'.kind g2).lt; omega
    · by_cases e2 : s2 = s
      · rw [if_neg e1] at h1; rw [if_pos e2] at h2
        cases h2
        simp only [Value.ownBlock, Option.some.injEq] at g2
        subst g2
        obtain ⟨_, cvs', hv'⟩ := h.vers s1 v1 h1
        rcases hgg with hgg | hgg
        · exact absurd hgg (hother s1 v1 e1 h1 _ g1)
        · have := (hv'.kind g1).lt; omega
      · rw [if_neg e1] at h1; rw [if_neg e2] at h2
        exact h.apart s1 s2 v1 v2 g h1 h2 g1 g2

end Go.Proofs.Ytapkmgmcccgejaa
