/- What a slice of steps, handed in, looks like in memory. -/
import Derived.Test.YtapkmgmcccgejaaPost
import Derived.Deep.Slices
import Derived.Laws.Cover2
import Derived.Carry
namespace Go.Proofs.Ytapkmgmcccgejaa
open Go.RowKit Go.Shelf Go.ChangeShapes Go.WideShapes

section
variable {H : Type} {enc : TypeId × Value → H} {w : World} {base : Nat} {sp : Nat → Bool} {hd : Bool}

theorem cells7 : Try.prog.cellsOf 73 = 7 := by kernel_rfl
theorem cells4 : Try.prog.cellsOf 71 = 4 := by kernel_rfl
theorem cells3 : Try.prog.cellsOf 32 = 3 := by kernel_rfl
theorem cells1i : Try.prog.cellsOf 3 = 1 := by kernel_rfl
theorem cells1l : Try.prog.cellsOf 2 = 1 := by kernel_rfl
theorem cells1s : Try.prog.cellsOf 9 = 1 := by kernel_rfl
theorem cells1b : Try.prog.cellsOf 4 = 1 := by kernel_rfl
theorem cells1f : Try.prog.cellsOf 69 = 1 := by kernel_rfl
theorem cells1c : Try.prog.cellsOf 30 = 1 := by kernel_rfl

theorem trodFloat {P : Program} {k : FloatKind} {t : TypeId} {n : Nat} {cs : List Value} {x : DataW H × List MemPlace} (ht : P.underlying t = some (.float k)) (h : DataW.trod enc P w base sp hd n t cs = some x) : ∃ b, cs = [.float k b] := by
  cases n with
  | zero => simp [DataW.trod] at h
  | succ n =>
    unfold DataW.trod at h
    rw [ht] at h
    split at h <;> simp_all

theorem trodStr {P : Program} {t : TypeId} {n : Nat} {c : Value} {x : DataW H × List MemPlace} (ht : P.underlying t = some .string) (h : DataW.trod enc P w base sp hd n t [c] = some x) : ∃ s : ByteArray, c = .string s ∧ s.size ≤ maxLen := by
  obtain ⟨s, h1, _, h2⟩ := DataW.trod_string ht h
  exact ⟨s, by simpa using h1, h2⟩
theorem trodInt {P : Program} {t : TypeId} {k : IntKind} {n : Nat} {c : Value} {x : DataW H × List MemPlace} (ht : P.underlying t = some (.int k)) (h : DataW.trod enc P w base sp hd n t [c] = some x) : ∃ i : Int, c = .int k i ∧ (Lit.int k i).wf = true := by
  obtain ⟨s, h1, _, h2⟩ := DataW.trod_int ht h
  exact ⟨s, by simpa using h1, h2⟩
theorem trodBool {P : Program} {t : TypeId} {n : Nat} {c : Value} {x : DataW H × List MemPlace} (ht : P.underlying t = some .bool) (h : DataW.trod enc P w base sp hd n t [c] = some x) : ∃ b : Bool, c = .bool b := by
  obtain ⟨s, h1, _⟩ := DataW.trod_bool ht h
  exact ⟨s, by simpa using h1⟩

theorem list4 {α : Type} {l : List α} (h : l.length = 4) : ∃ a b c d, l = [a, b, c, d] := by
  match l, h with
  | [a, b, c, d], _ => exact ⟨a, b, c, d, rfl⟩
theorem list5 {α : Type} {l : List α} (h : l.length = 5) : ∃ a b c d e, l = [a, b, c, d, e] := by
  match l, h with
  | [a, b, c, d, e], _ => exact ⟨a, b, c, d, e, rfl⟩
theorem list7 {α : Type} {l : List α} (h : l.length = 7) : ∃ a b c d e f g, l = [a, b, c, d, e, f, g] := by
  match l, h with
  | [a, b, c, d, e, f, g], _ => exact ⟨a, b, c, d, e, f, g, rfl⟩

theorem some_of_idx {α : Type} {l : List α} {i : Nat} (h : i < l.length) : ∃ y, l[i]? = some y := ⟨l[i], List.getElem?_eq_getElem h⟩

theorem open_val {n : Nat} {cs : List Value} {x : DataW H × List MemPlace} (h : DataW.trod enc Try.prog w base sp hd n 71 cs = some x) :
    ∃ v : Val, cs = [.int .i64 v.kind, .int .i64 v.n, .float .f64 v.f, .string v.s] ∧ v.s.size ≤ maxLen := by
  obtain ⟨xs, k, _, _, hcl, hxl, hf⟩ := DataW.trod_struct Try.underlying71 h
  rw [cells4] at hcl
  obtain ⟨c0, c1, c2, c3, rfl⟩ := list4 hcl
  have hxl' : xs.length = 4 := hxl
  obtain ⟨y0, e0⟩ := some_of_idx (l := xs) (i := 0) (by omega)
  obtain ⟨y1, e1⟩ := some_of_idx (l := xs) (i := 1) (by omega)
  obtain ⟨y2, e2⟩ := some_of_idx (l := xs) (i := 2) (by omega)
  obtain ⟨y3, e3⟩ := some_of_idx (l := xs) (i := 3) (by omega)
  have h0 := hf 0 _ rfl
  have h1 := hf 1 _ rfl
  have h2 := hf 2 _ rfl
  have h3 := hf 3 _ rfl
  rw [e0] at h0; rw [e1] at h1; rw [e2] at h2; rw [e3] at h3
  simp only [cells1i, cells1l, cells1f, cells1s, List.drop_zero, List.drop_succ_cons, List.take_succ_cons, List.take_zero, List.getElem_toArray, List.getElem_cons_zero, List.getElem_cons_succ] at h0 h1 h2 h3
  obtain ⟨i0, rfl, _⟩ := trodInt Try.underlying3 h0
  obtain ⟨i1, rfl, _⟩ := trodInt Try.underlying2 h1
  obtain ⟨f, ef⟩ := trodFloat Try.underlying69 h2
  obtain ⟨s, rfl, hs⟩ := trodStr Try.underlying9 h3
  simp only [List.cons.injEq, and_true] at ef
  subst ef
  exact ⟨⟨i0, i1, f, s⟩, rfl, hs⟩

theorem open_col {n : Nat} {cs : List Value} {x : DataW H × List MemPlace} (h : DataW.trod enc Try.prog w base sp hd n 73 cs = some x) :
    ∃ c : Col, cs = c.cells ∧ c.Ok := by
  obtain ⟨xs, k, _, _, hcl, hxl, hf⟩ := DataW.trod_struct Try.underlying73 h
  rw [cells7] at hcl
  obtain ⟨c0, c1, c2, c3, c4, c5, c6, rfl⟩ := list7 hcl
  have hxl' : xs.length = 4 := hxl
  obtain ⟨y0, e0⟩ := some_of_idx (l := xs) (i := 0) (by omega)
  obtain ⟨y1, e1⟩ := some_of_idx (l := xs) (i := 1) (by omega)
  obtain ⟨y2, e2⟩ := some_of_idx (l := xs) (i := 2) (by omega)
  obtain ⟨y3, e3⟩ := some_of_idx (l := xs) (i := 3) (by omega)
  have h0 := hf 0 _ rfl
  have h1 := hf 1 _ rfl
  have h2 := hf 2 _ rfl
  have h3 := hf 3 _ rfl
  rw [e0] at h0; rw [e1] at h1; rw [e2] at h2; rw [e3] at h3
  simp only [cells1i, cells1b, cells4, cells1s, List.drop_zero, List.drop_succ_cons, List.take_succ_cons, List.take_zero, List.getElem_toArray, List.getElem_cons_zero, List.getElem_cons_succ] at h0 h1 h2 h3
  obtain ⟨s, rfl, hs⟩ := trodStr Try.underlying9 h0
  obtain ⟨i0, rfl, _⟩ := trodInt Try.underlying3 h1
  obtain ⟨b, rfl⟩ := trodBool Try.underlying4 h2
  obtain ⟨v, ev, hv⟩ := open_val h3
  simp only [List.cons.injEq, and_true] at ev
  obtain ⟨rfl, rfl, rfl, rfl⟩ := ev
  exact ⟨⟨s, i0, b, v⟩, rfl, hs, hv⟩

instance : Inhabited Col := ⟨colA⟩

theorem addr_none {w : World} {a : Addr} {v : Value} (h : w.cell? a = some v) : ∃ b o, a = ⟨b, o, none⟩ := by
  obtain ⟨b, o, s⟩ := a
  have : s = none := by
    cases s with
    | none => rfl
    | some k =>
      simp only [World.cell?] at h
      split at h
      · simp at h
      · cases h
  subst this
  exact ⟨b, o, rfl⟩

theorem add0 (a : Addr) : a.add 0 = a := rfl

theorem add_lit (b o j : Nat) : (⟨b, o, none⟩ : Addr).add j = ⟨b, o + j, none⟩ := by
  unfold Addr.add
  split
  · rename_i h; subst h; rfl
  · rfl

theorem open_cols {n : Nat} {cv : Value} {x : DataW H × List MemPlace} (h : DataW.trod enc Try.prog w base sp hd n 30 [cv] = some x) :
    ∃ cols blk, ColsAt w cv cols blk ∧ (cols ≠ [] → blk < w.heap.size) := by
  rcases Deep.open_slice Try.underlying30 h with ⟨e, _⟩ | ⟨a, len, cap, m, n', D, Pl, e, _, hl, hm, hmm, _, hx⟩
  · simp only [List.cons.injEq, and_true] at e
    subst e
    exact ⟨[], 0, ⟨⟨none, 0, 0, rfl, fun h => absurd rfl h, fun i c hi => by simp at hi⟩, by simp, by simp⟩, fun h => absurd rfl h⟩
  · simp only [List.cons.injEq, and_true] at e
    subst e
    have hlm : len ≤ m := by rw [hmm]; split <;> omega
    rw [cells7] at hx
    have each : ∀ i, i < len → ∃ c : Col, c.Ok ∧ ∀ j u, c.cells[j]? = some u → w.cell? ((a.add (i * 7)).add j) = some u := by
      intro i hi
      obtain ⟨cs', h1, h2⟩ := hx i (by omega)
      obtain ⟨_, hlen, hcell⟩ := World.cells?_some h1
      obtain ⟨c, rfl, hok⟩ := open_col h2
      exact ⟨c, hok, fun j u hu => by
        have hj : j < 7 := by have := (List.getElem?_eq_some_iff.1 hu).1; rwa [Col.cells_len] at this
        rw [hcell j hj, hu]⟩
    obtain ⟨f, hf⟩ := Deep.choose_lt each
    by_cases h0 : len = 0
    · subst h0
      exact ⟨[], 0, ⟨⟨some a, cap, 0, rfl, fun h => absurd rfl h, fun i c hi => by simp at hi⟩, by simp, by simp⟩, fun h => absurd rfl h⟩
    · obtain ⟨b, o, ea⟩ := addr_none ((hf 0 (by omega)).2 0 _ rfl)
      simp only [Nat.zero_mul, add0] at ea
      subst ea
      refine ⟨(List.range len).map f, b, ⟨⟨_, cap, o, by simp, fun _ => rfl, fun i c hi => ColAt.mk' fun j u hu => ?_⟩, ?_, by simp; omega⟩, fun _ => ?_⟩
      · have hi' : i < len := by have := (List.getElem?_eq_some_iff.1 hi).1; simpa using this
        have ec : f i = c := by simpa [hi'] using hi
        have := (hf i hi').2 j u (by rw [ec]; exact hu)
        rw [add_lit, add_lit] at this
        exact this
      · intro c hc
        obtain ⟨i, hi, rfl⟩ := List.mem_map.1 hc
        exact (hf i (List.mem_range.1 hi)).1
      · have := (hf 0 (by omega)).2 0 _ rfl
        rw [add_lit, add_lit] at this
        exact cell_lt this

end

/-- One step. -/
structure Stp where
  kind : Int
  xid : Int
  t : Tab

instance : Inhabited Stp := ⟨⟨0, 0, tabA ByteArray.empty 0⟩⟩

def Stp.cells (s : Stp) (cv : Value) : List Value := [.int .i64 s.kind, .int .i64 s.xid, .string s.t.name, cv, .int .i64 s.t.rel]

/-- A slice of steps, as it lies in memory. -/
structure StepsAt (w : World) (v : Value) (l : List Stp) : Prop where
  ex : ∃ a cap, v = .slice a l.length cap ∧ ∀ i s, l[i]? = some s → ∃ b o cv blk, a = some ⟨b, o, none⟩ ∧ (∀ j u, (s.cells cv)[j]? = some u → w.cell? ⟨b, o + i * 5 + j, none⟩ = some u) ∧
    ColsAt w cv s.t.cols blk ∧ (s.t.cols ≠ [] → blk < w.heap.size) ∧ s.t.name.size ≤ maxLen
  len : l.length ≤ maxLen

section
variable {H : Type} {enc : TypeId × Value → H} {w : World} {base : Nat} {sp : Nat → Bool} {hd : Bool}

theorem cells5s : Try.prog.cellsOf 41 = 5 := by kernel_rfl

theorem open_tab {n : Nat} {c0 c1 c2 : Value} {x : DataW H × List MemPlace} (h : DataW.trod enc Try.prog w base sp hd n 32 [c0, c1, c2] = some x) :
    ∃ (t : Tab) (blk : Nat), c0 = .string t.name ∧ c2 = .int .i64 t.rel ∧ ColsAt w c1 t.cols blk ∧ (t.cols ≠ [] → blk < w.heap.size) ∧ t.name.size ≤ maxLen := by
  obtain ⟨xs, k, _, _, hcl, hxl, hf⟩ := DataW.trod_struct Try.underlying32 h
  have hxl' : xs.length = 3 := hxl
  obtain ⟨y0, e0⟩ := some_of_idx (l := xs) (i := 0) (by omega)
  obtain ⟨y1, e1⟩ := some_of_idx (l := xs) (i := 1) (by omega)
  obtain ⟨y2, e2⟩ := some_of_idx (l := xs) (i := 2) (by omega)
  have h0 := hf 0 _ rfl
  have h1 := hf 1 _ rfl
  have h2 := hf 2 _ rfl
  rw [e0] at h0; rw [e1] at h1; rw [e2] at h2
  simp only [cells1i, cells1s, cells1c, List.drop_zero, List.drop_succ_cons, List.take_succ_cons, List.take_zero, List.getElem_toArray, List.getElem_cons_zero, List.getElem_cons_succ] at h0 h1 h2
  obtain ⟨s, rfl, hs⟩ := trodStr Try.underlying9 h0
  obtain ⟨i0, rfl, _⟩ := trodInt Try.underlying3 h2
  obtain ⟨cols, blk, hc, hb⟩ := open_cols h1
  exact ⟨⟨s, cols, i0⟩, blk, rfl, rfl, hc, hb, hs⟩

theorem open_step {n : Nat} {cs : List Value} {x : DataW H × List MemPlace} (h : DataW.trod enc Try.prog w base sp hd n 41 cs = some x) :
    ∃ (s : Stp) (cv : Value) (blk : Nat), cs = s.cells cv ∧ ColsAt w cv s.t.cols blk ∧ (s.t.cols ≠ [] → blk < w.heap.size) ∧ s.t.name.size ≤ maxLen := by
  obtain ⟨xs, k, _, _, hcl, hxl, hf⟩ := DataW.trod_struct Try.underlying41 h
  rw [cells5s] at hcl
  obtain ⟨c0, c1, c2, c3, c4, rfl⟩ := list5 hcl
  have hxl' : xs.length = 3 := hxl
  obtain ⟨y0, e0⟩ := some_of_idx (l := xs) (i := 0) (by omega)
  obtain ⟨y1, e1⟩ := some_of_idx (l := xs) (i := 1) (by omega)
  obtain ⟨y2, e2⟩ := some_of_idx (l := xs) (i := 2) (by omega)
  have h0 := hf 0 _ rfl
  have h1 := hf 1 _ rfl
  have h2 := hf 2 _ rfl
  rw [e0] at h0; rw [e1] at h1; rw [e2] at h2
  simp only [cells1i, cells3, List.drop_zero, List.drop_succ_cons, List.take_succ_cons, List.take_zero, List.getElem_toArray, List.getElem_cons_zero, List.getElem_cons_succ] at h0 h1 h2
  obtain ⟨i0, rfl, _⟩ := trodInt Try.underlying3 h0
  obtain ⟨i1, rfl, _⟩ := trodInt Try.underlying3 h1
  obtain ⟨t, blk, rfl, rfl, hc, hb, hs⟩ := open_tab h2
  exact ⟨⟨i0, i1, t⟩, c3, blk, rfl, hc, hb, hs⟩

theorem open_steps {v : Value} {d : DataW H} {ps : List MemPlace} (ho : ∃ a n c, v = .slice a n c) (h : DataW.Trod enc Try.prog w base sp hd 38 v d ps) : ∃ l, StepsAt w v l := by
  obtain ⟨a0, n0, c0, rfl⟩ := ho
  obtain ⟨fuel, h⟩ := h
  rcases Deep.open_slice Try.underlying38 h with ⟨e, _⟩ | ⟨a, len, cap, m, n', D, Pl, e, _, hl, hm, hmm, _, hx⟩
  · simp only [Value.cells, List.cons.injEq, and_true] at e
    rw [e]
    exact ⟨[], ⟨none, 0, rfl, fun i s hi => by simp at hi⟩, by simp⟩
  · simp only [Value.cells, List.cons.injEq, and_true] at e
    rw [e]
    have hlm : len ≤ m := by rw [hmm]; split <;> omega
    rw [cells5s] at hx
    have each : ∀ i, i < len → ∃ s : Stp, ∃ cv blk, (∀ j u, (s.cells cv)[j]? = some u → w.cell? ((a.add (i * 5)).add j) = some u) ∧ ColsAt w cv s.t.cols blk ∧ (s.t.cols ≠ [] → blk < w.heap.size) ∧ s.t.name.size ≤ maxLen := by
      intro i hi
      obtain ⟨cs', h1, h2⟩ := hx i (by omega)
      obtain ⟨_, hlen, hcell⟩ := World.cells?_some h1
      obtain ⟨s, cv, blk, rfl, hc, hb, hs⟩ := open_step h2
      exact ⟨s, cv, blk, fun j u hu => by
        have hj : j < 5 := (List.getElem?_eq_some_iff.1 hu).1
        rw [hcell j hj, hu], hc, hb, hs⟩
    obtain ⟨f, hf⟩ := Deep.choose_lt each
    refine ⟨(List.range len).map f, ⟨some a, cap, by simp, fun i s hi => ?_⟩, by simp; omega⟩
    have hi' : i < len := by have := (List.getElem?_eq_some_iff.1 hi).1; simpa using this
    have ec : f i = s := by simpa [hi'] using hi
    obtain ⟨cv0, blk0, h0, _⟩ := hf 0 (by omega)
    obtain ⟨b, o, ea⟩ := addr_none (h0 0 _ rfl)
    simp only [Nat.zero_mul, add0] at ea
    subst ea
    obtain ⟨cv, blk, h1, hc, hb, hs⟩ := hf i hi'
    rw [ec] at h1 hc hb hs
    refine ⟨b, o, cv, blk, rfl, fun j u hu => ?_, hc, hb, hs⟩
    have := h1 j u hu
    rw [add_lit, add_lit] at this
    exact this

end

end Go.Proofs.Ytapkmgmcccgejaa
