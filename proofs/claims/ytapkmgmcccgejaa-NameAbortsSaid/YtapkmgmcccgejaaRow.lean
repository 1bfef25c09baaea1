/- Which columns are good. -/
import Derived.Test.YtapkmgmcccgejaaCols
namespace Go.Proofs.Ytapkmgmcccgejaa
open Go.RowKit Go.Shelf

/-- The place of a column. -/
def colIdx (cols : List Col) (s : ByteArray) : Int := idxOf (fun c => c.name.toList == s.toList) cols

set_option maxRecDepth 100000 in
set_option maxHeartbeats 1000000 in
theorem find_any {w : World} {v : Value} {cols : List Col} {blk : Nat} (h : ColsAt w v cols blk) (s : ByteArray) :
    Calls Try.prog 43 #[v, .string s] w fun e w' => e = .returned (.int .i64 (colIdx cols s)) ∧ Tur None' w w' := by
  have h' : ∀ o, ColsAt (w.alloc o) v cols blk := fun o => h.tur ((Tur.refl None' _).alloc _) (fun _ h => h)
  go_enter Try.func43, Try.ntmps43
  go_wp2_with (refine (indexFuncCol (h' _) _ s (by simp)).mono ?_; rintro e w1 ⟨rfl, ht⟩)
  go_ret
  exact ⟨rfl, ((Tur.refl None' _).alloc _).trans ‹_› (fun _ _ h => h)⟩

/-- Is a column alone good? -/
def oneCol (c : Col) : Bool := nameOk c.name && decide (1 ≤ c.kind) && decide (c.kind ≤ 4) && goodVal c.d && (c.d.kind == 0 || c.d.kind == c.kind)

set_option maxRecDepth 100000 in
set_option maxHeartbeats 2000000 in
theorem oneCol_any (c : Col) (hc : c.Ok) (w : World) :
    Calls Try.prog 42 #[c.agg] w fun e w' => e = .returned (.bool (oneCol c)) ∧ Tur None' w w' := by
  obtain ⟨nm, kd, nn, d⟩ := c
  obtain ⟨ho1, ho2⟩ := hc
  simp only at ho1 ho2
  have H1 := Lib.hid ho1
  have H2 := Lib.hid ho2
  clear ho1 ho2
  unfold Col.agg oneCol
  simp only
  cases hn : nameOk nm
  · have Hn := Lib.hid hn
    clear hn
    go_enter Try.func42, Try.ntmps42
    go_wp2_with (go_at_call 23; refine (valueName nm _ H1.out).mono ?_; rintro e w1 ⟨rfl, rfl⟩; rw [Hn.out])
    go_ret
    exact ⟨ret_bool (by simp), (Tur.refl None' _).alloc _⟩
  · have Hn := Lib.hid hn
    clear hn
    cases hg : goodVal d
    all_goals
      have Hg := Lib.hid hg
      clear hg
      go_enter Try.func42, Try.ntmps42
      go_wp2_with (first | (go_at_call 23; refine (valueName nm _ H1.out).mono ?_; rintro e w1 ⟨rfl, rfl⟩; rw [Hn.out]) | (go_at_call 56; refine (goodVal_any d _ H2.out).mono ?_; rintro e w1 ⟨rfl, ht⟩; rw [Hg.out]; have hc := fun o => ht.cell (p := ⟨w.heap.size, o, none⟩) (by simp) (fun h => h)))
    all_goals (go_ret; refine ⟨ret_bool ?_, by first | exact (Tur.refl None' _).alloc _ | exact ((Tur.refl None' _).alloc _).trans ‹_› (fun _ _ h => h)⟩; simp [*]; try omega)

/-- Are columns good? -/
def goodCols (cols : List Col) : Bool :=
  decide (1 ≤ cols.length ∧ cols.length ≤ 6 ∧ ∀ i, (h : i < cols.length) → oneCol cols[i] = true ∧ colIdx cols cols[i].name = i)

theorem goodCols_no {cols : List Col} {k : Nat} {c : Col} (hk : cols[k]? = some c) (h : ¬ (oneCol c = true ∧ colIdx cols c.name = k)) : goodCols cols = false := by
  unfold goodCols
  rw [decide_eq_false_iff_not]
  rintro ⟨_, _, h3⟩
  obtain ⟨hl, rfl⟩ := List.getElem?_eq_some_iff.1 hk
  exact h (h3 k hl)

set_option maxRecDepth 100000 in
set_option maxHeartbeats 2000000 in
theorem goodCols_any {w : World} {v : Value} {cols : List Col} {blk : Nat} (h : ColsAt w v cols blk) :
    Calls Try.prog 24 #[v] w fun e w' => e = .returned (.bool (goodCols cols)) ∧ Tur None' w w' := by
  have hlen := h.len
  unfold maxLen at hlen
  have H := Lib.hid h
  obtain ⟨⟨a, cap, off, rfl, ha, hc⟩, hok, _⟩ := h
  have Ha := Lib.hid ha
  have Hc := Lib.hid hc
  have Hok := Lib.hid hok
  clear ha hc hok
  by_cases h1 : cols.length < 1
  · have e1 : goodCols cols = false := by unfold goodCols; rw [decide_eq_false_iff_not]; omega
    rw [e1]
    clear e1
    go_enter Try.func24, Try.ntmps24
    go_wp2
    go_step3
    go_wp2
    try rw [Exit.noGoto_ret]
    go_ret
    exact ⟨rfl, Tur.refl _ _⟩
  · by_cases h2 : 6 < cols.length
    · have e1 : goodCols cols = false := by unfold goodCols; rw [decide_eq_false_iff_not]; omega
      rw [e1]
      clear e1
      go_enter Try.func24, Try.ntmps24
      go_wp2
      go_step3
      go_wp2
      try rw [Exit.noGoto_ret]
      go_ret
      exact ⟨rfl, Tur.refl _ _⟩
    · go_enter Try.func24, Try.ntmps24
      go_wp2
      go_step3
      go_wp2
      go_step3
      go_wp2
      go_loopw [3, 4, 15] (fun _ _ i wr => ∃ k : Nat, k ≤ cols.length ∧ i = .int .i64 k ∧ (∀ j c, j < k → cols[j]? = some c → oneCol c = true ∧ colIdx cols c.name = j) ∧ Tur None' w wr) (fun _ _ i _ => cols.length - (intOf i).toNat)
      case atStart => exact ⟨0, Nat.zero_le _, rfl, fun j y hj => absurd hj (by omega), Tur.refl _ _⟩
      case round =>
        obtain ⟨k, hk, rfl, hno, ht⟩ := hrel
        have Hno := Lib.hid hno
        clear hno
        by_cases hlt : k < cols.length
        · obtain ⟨c, hcc⟩ : ∃ c, cols[k]? = some c := ⟨cols[k], List.getElem?_eq_getElem hlt⟩
          have ea := Ha.out (by rintro rfl; simp at hlt)
          subst ea
          obtain ⟨g0, g1, g2, g3, g4, g5, g6⟩ := (Hc.out k c hcc).tur ht (fun h => h)
          have Hcc := Lib.hid hcc
          have hco : c.Ok := Hok.out c (List.mem_of_getElem? hcc)
          have Hco := Lib.hid hco
          have hw : ∀ w2, Tur None' wr w2 → ColsAt w2 (.slice (some ⟨blk, off, none⟩) cols.length cap) cols blk := fun w2 t2 => H.out.tur (ht.trans t2 (fun _ _ h => h)) (fun _ h => h)
          have Hw := Lib.hid hw
          have Hyes := Lib.hid (fun (a : oneCol c = true) (b : colIdx cols c.name = k) (j : Nat) (y : Col) (hj : j < k + 1) (hy : cols[j]? = some y) => (by
            by_cases e : j = k
            · subst e; rw [hcc] at hy; cases hy; exact ⟨a, b⟩
            · exact Hno.out j y (by omega) hy : oneCol y = true ∧ colIdx cols y.name = j))
          clear hcc hco hw
          cases hp : oneCol c
          · have Hp := Lib.hid hp
            clear hp
            go_wp2_with (go_at_call 42; refine (oneCol_any c Hco.out _).mono ?_; rintro e w2 ⟨rfl, ht2⟩; rw [Hp.out])
            try rw [Exit.noGoto_ret]
            go_ret
            exact ⟨ret_bool (goodCols_no Hcc.out (by rw [Hp.out]; simp)).symm, (ht.trans ((Tur.refl _ _).alloc _) (fun _ _ h => h)).trans ‹_› (fun _ _ h => h)⟩
          · have Hp := Lib.hid hp
            clear hp
            cases hq : (colIdx cols c.name == (k : Int))
            all_goals
              go_wp2_with (first | (go_at_call 42; refine (oneCol_any c Hco.out _).mono ?_; rintro e w2 ⟨rfl, ht2⟩; rw [Hp.out]; have hcell := fun o => ht2.cell (p := ⟨wr.heap.size, o, none⟩) (by simp) (fun h => h)) | (go_at_call 43; refine (find_any (Hw.out _ (((Tur.refl None' _).alloc _).trans ht2 (fun _ _ h => h))) _).mono ?_; rintro e w3 ⟨rfl, ht3⟩))
            · rw [Exit.noGoto_ret]
              go_ret
              exact ⟨ret_bool (goodCols_no Hcc.out (by rw [beq_eq_false_iff_ne] at hq; exact fun h => hq h.2)).symm, ((ht.trans ((Tur.refl _ _).alloc _) (fun _ _ h => h)).trans ht2 (fun _ _ h => h)).trans ht3 (fun _ _ h => h)⟩
            · refine ⟨⟨k + 1, by omega, by go_num, Hyes.out Hp.out (by rw [beq_iff_eq] at hq; exact hq), ((ht.trans ((Tur.refl _ _).alloc _) (fun _ _ h => h)).trans ht2 (fun _ _ h => h)).trans ht3 (fun _ _ h => h)⟩, by simp [intOf]; omega⟩
        · go_wp2
          rw [Exit.noGoto_ret]
          go_ret
          refine ⟨ret_bool ?_, ht⟩
          show true = goodCols cols
          unfold goodCols
          symm; rw [decide_eq_true_eq]
          exact ⟨by omega, by omega, fun i h => Hno.out i _ (by omega) (List.getElem?_eq_getElem h)⟩

end Go.Proofs.Ytapkmgmcccgejaa
