/- Columns in memory; which are good. -/
import Derived.Test.YtapkmgmcccgejaaGood
namespace Go.Proofs.Ytapkmgmcccgejaa
open Go.RowKit Go.Shelf

/-- Seven cells are a column. -/
structure ColAt (w : World) (b o : Nat) (c : Col) : Prop where
  c0 : w.cell? ⟨b, o, none⟩ = some (.string c.name)
  c1 : w.cell? ⟨b, o + 1, none⟩ = some (.int .i64 c.kind)
  c2 : w.cell? ⟨b, o + 2, none⟩ = some (.bool c.nn)
  c3 : w.cell? ⟨b, o + 3, none⟩ = some (.int .i64 c.d.kind)
  c4 : w.cell? ⟨b, o + 4, none⟩ = some (.int .i64 c.d.n)
  c5 : w.cell? ⟨b, o + 5, none⟩ = some (.float .f64 c.d.f)
  c6 : w.cell? ⟨b, o + 6, none⟩ = some (.string c.d.s)

theorem ColAt.tur {S : Nat → Prop} {w w' : World} {b o : Nat} {c : Col} (h : ColAt w b o c) (t : Tur S w w') (hn : ¬ S b) : ColAt w' b o c :=
  ⟨t.cell' h.c0 hn, t.cell' h.c1 hn, t.cell' h.c2 hn, t.cell' h.c3 hn, t.cell' h.c4 hn, t.cell' h.c5 hn, t.cell' h.c6 hn⟩

/-- What may be asked of a column that came from somewhere: no text is longer than a text can be. -/
def Col.Ok (c : Col) : Prop := c.name.size ≤ maxLen ∧ c.d.s.size ≤ maxLen

/-- A slice of columns that lies in block blk (if there are any). -/
structure ColsAt (w : World) (v : Value) (cols : List Col) (blk : Nat) : Prop where
  ex : ∃ a cap off, v = .slice a cols.length cap ∧ (cols ≠ [] → a = some ⟨blk, off, none⟩) ∧ ∀ i c, cols[i]? = some c → ColAt w blk (off + i * 7) c
  ok : ∀ c ∈ cols, c.Ok
  len : cols.length ≤ maxLen

theorem ColsAt.tur {S : Nat → Prop} {w w' : World} {v : Value} {cols : List Col} {blk : Nat} (h : ColsAt w v cols blk) (t : Tur S w w') (hn : cols ≠ [] → ¬ S blk) : ColsAt w' v cols blk := by
  obtain ⟨⟨a, cap, off, hv, ha, hc⟩, hok, hl⟩ := h
  refine ⟨⟨a, cap, off, hv, ha, fun i c hi => (hc i c hi).tur t (hn ?_)⟩, hok, hl⟩
  rintro rfl; simp at hi

/-- Where the first one stands of which p holds; -1. -/
def idxOf {α : Type} (p : α → Bool) (l : List α) : Int := match l.findIdx? p with | some i => i | none => -1

theorem idxOf_none {α : Type} {p : α → Bool} {l : List α} (h : ∀ x ∈ l, p x = false) : idxOf p l = -1 := by
  unfold idxOf
  rw [List.findIdx?_eq_none_iff.2 h]

theorem idxOf_at {α : Type} {p : α → Bool} {l : List α} {k : Nat} {x : α} (hx : l[k]? = some x) (hp : p x = true) (hno : ∀ j y, j < k → l[j]? = some y → p y = false) : idxOf p l = k := by
  unfold idxOf
  have hk : k < l.length := (List.getElem?_eq_some_iff.1 hx).1
  have : l.findIdx? p = some k := by
    rw [List.findIdx?_eq_some_iff_getElem]
    refine ⟨hk, ?_, ?_⟩
    · have := (List.getElem?_eq_some_iff.1 hx).2; rw [this]; exact hp
    · intro j hj
      have := hno j l[j] hj (List.getElem?_eq_getElem _)
      rw [this]; decide
  rw [this]

/-- The closure of 'Find': is that the column's name? -/
theorem findFn_any (c : Col) (B : Nat) (s : ByteArray) (w : World) (hB : w.cell? ⟨B, 0, none⟩ = some (.string s)) :
    Calls Try.prog 58 #[c.agg, .pointer (some ⟨B, 0, none⟩)] w fun e w' => e = .returned (.bool (c.name.toList == s.toList)) ∧ Tur None' w w' := by
  have hl : B < w.heap.size := cell_lt hB
  unfold Col.agg
  go_enter Try.func58, Try.ntmps58
  go_wp2
  go_ret
  exact ⟨rfl, (Tur.refl _ _).alloc _⟩

set_option maxRecDepth 100000 in
set_option maxHeartbeats 1000000 in
theorem indexFuncCol {w : World} {v : Value} {cols : List Col} {blk : Nat} (h : ColsAt w v cols blk) (B : Nat) (s : ByteArray) (hB : w.cell? ⟨B, 0, none⟩ = some (.string s)) :
    Calls Try.prog 57 #[v, .func (.func 58) #[] #[.pointer (some ⟨B, 0, none⟩)]] w
      fun e w' => e = .returned (.int .i64 (idxOf (fun c => c.name.toList == s.toList) cols)) ∧ Tur None' w w' := by
  have hlen := h.len
  unfold maxLen at hlen
  have H := Lib.hid h
  obtain ⟨⟨a, cap, off, rfl, ha, hc⟩, hok, _⟩ := h
  have Ha := Lib.hid ha
  have Hc := Lib.hid hc
  have HB := Lib.hid hB
  clear ha hc hok hB
  go_enter Try.func57, Try.ntmps57
  go_wp2
  go_loopw [5, 8] (fun _ i wr => ∃ k : Nat, k ≤ cols.length ∧ i = .int .i64 k ∧ (∀ j y, j < k → cols[j]? = some y → (y.name.toList == s.toList) = false) ∧ Tur None' w wr) (fun _ i _ => cols.length - (intOf i).toNat)
  case atStart => exact ⟨0, Nat.zero_le _, rfl, fun j y hj => absurd hj (by omega), Tur.refl _ _⟩
  case round =>
    obtain ⟨k, hk, rfl, hno, ht⟩ := hrel
    have Hno := Lib.hid hno
    clear hno
    by_cases hlt : k < cols.length
    · obtain ⟨c, hcc⟩ : ∃ c, cols[k]? = some c := ⟨cols[k], List.getElem?_eq_getElem hlt⟩
      have ea := Ha.out (by rintro rfl; simp at hlt)
      subst ea
      have g := (Hc.out k c hcc).tur ht (fun h => h)
      obtain ⟨g0, g1, g2, g3, g4, g5, g6⟩ := g
      have hb := Lib.hid (ht.cell' HB.out (fun h => h))
      have Hcc := Lib.hid hcc
      clear hcc
      cases hp : (c.name.toList == s.toList)
      all_goals
        have Hp := Lib.hid hp
        clear hp
        go_wp2_with (refine (findFn_any c B s _ hb.out).mono ?_; rintro e w2 ⟨rfl, ht2⟩; rw [Hp.out])
      · go_roundw
        case rel =>
          refine ⟨k + 1, by omega, by go_num, ?_, ht.trans ‹_› (fun _ _ h => h)⟩
          intro j y hj hy
          by_cases e : j = k
          · subst e; rw [Hcc.out] at hy; cases hy; exact Hp.out
          · exact Hno.out j y (by omega) hy
        case measure => simp [intOf]; omega
      · go_ret
        exact ⟨ret_int (idxOf_at Hcc.out Hp.out Hno.out).symm, ht.trans ‹_› (fun _ _ h => h)⟩
    · go_wp2
      go_ret
      refine ⟨?_, ht⟩
      rw [idxOf_none]
      · rfl
      · intro x hx
        obtain ⟨j, hj⟩ := List.getElem?_of_mem hx
        have hjl : j < cols.length := (List.getElem?_eq_some_iff.1 hj).1
        exact Hno.out j x (by omega) hj

end Go.Proofs.Ytapkmgmcccgejaa
