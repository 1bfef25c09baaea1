/- The walks of package clog. -/
import Derived.Test.YtapkmgmcccgejaaLog
import Derived.Test.YtapkmgmcccgejaaRows
import Derived.BigQuiet
import Derived.Lib.Hide
import Derived.Deep.QuietTactic
namespace Go.Proofs.Ytapkmgmcccgejaa
open Go.RowKit

set_option maxRecDepth 100000 in
set_option maxHeartbeats 400000 in
theorem get_yes {b : Nat} {L : LogM} {w : World} (h : LogAt w b L) (x : Int) (hx : L.isTx x = true) :
    Calls Try.prog 33 #[.pointer (some ⟨b, 0, none⟩), .int .i64 x] w fun e w' => e = .returned (.pointer (some ⟨b, x.toNat * 4, none⟩)) ∧ w = w' := by
  have hn := h.cn
  have hn2 := h.ok.n
  simp only [LogM.isTx, decide_eq_true_eq] at hx
  obtain ⟨h1, h2⟩ := hx
  go_enter Try.func33, Try.ntmps33
  go_wp2
  go_ret
  exact ⟨rfl, rfl⟩

set_option maxRecDepth 100000 in
set_option maxHeartbeats 400000 in
theorem get_no {b : Nat} {L : LogM} {w : World} (h : LogAt w b L) (x : Int) (hx : L.isTx x = false) :
    Calls Try.prog 33 #[.pointer (some ⟨b, 0, none⟩), .int .i64 x] w fun e w' => e = .returned (.pointer none) ∧ w = w' := by
  have hn := h.cn
  simp only [LogM.isTx, decide_eq_false_iff_not] at hx
  by_cases h1 : x < 1
  · go_enter Try.func33, Try.ntmps33
    go_wp2
    go_ret
    exact ⟨rfl, rfl⟩
  · have h2 : (L.n : Int) < x := by omega
    go_enter Try.func33, Try.ntmps33
    go_wp2
    go_ret
    exact ⟨rfl, rfl⟩

theorem run_field_tx0 (a b c : Int) (r : Bool) (w : World) : (Instr.field 55 (.agg #[.int .i64 a, .int .i64 b, .int .i64 c, .bool r]) 0).run Try.prog w = .ok (.int .i64 a) w := by kernel_rfl
theorem run_field_tx1 (a b c : Int) (r : Bool) (w : World) : (Instr.field 55 (.agg #[.int .i64 a, .int .i64 b, .int .i64 c, .bool r]) 1).run Try.prog w = .ok (.int .i64 b) w := by kernel_rfl
theorem run_field_tx2 (a b c : Int) (r : Bool) (w : World) : (Instr.field 55 (.agg #[.int .i64 a, .int .i64 b, .int .i64 c, .bool r]) 2).run Try.prog w = .ok (.int .i64 c) w := by kernel_rfl
theorem run_field_tx3 (a b c : Int) (r : Bool) (w : World) : (Instr.field 55 (.agg #[.int .i64 a, .int .i64 b, .int .i64 c, .bool r]) 3).run Try.prog w = .ok (.bool r) w := by kernel_rfl
attribute [go_sem] run_field_tx0 run_field_tx1 run_field_tx2 run_field_tx3

def Tx.val (t : Tx) : Value := .agg #[.int .i64 t.state, .int .i64 t.csn, .int .i64 t.snap, .bool t.reads]

set_option maxHeartbeats 400000 in
theorem one_any {b : Nat} {L : LogM} {w : World} (h : LogAt w b L) (x : Int) :
    Calls Try.prog 32 #[.pointer (some ⟨b, 0, none⟩), .int .i64 x] w fun e w' =>
      e = .returned (.agg #[.int .i64 (L.state x), .int .i64 (L.csn x), .int .i64 (L.snapshot x), .bool (L.reads x)]) ∧ Tur None' w w' := by
  have hb : b < w.heap.size := h.blk.lt
  have h' : ∀ o, LogAt (w.alloc o) b L := fun o => h.tur (S := None') ((Tur.refl _ _).alloc _) (fun h => h)
  cases hx : L.isTx x with
  | true =>
    obtain ⟨c0, c1, c2, c3⟩ := h.tx hx
    go_enter Try.func32, Try.ntmps32
    go_wp2_with fail
    refine (get_yes (h' _) x hx).mono ?_
    rintro e w1 ⟨rfl, rfl⟩
    go_wp2
    exact bodyPost_ret (v := .agg #[.int .i64 (L.state x), .int .i64 (L.csn x), .int .i64 (L.snapshot x), .bool (L.reads x)]) (by simp [results, Try.results32, go_sem]) rfl ⟨rfl, (Tur.refl _ _).alloc _⟩
  | false =>
    have e0 : L.one x = Tx.zero := LogM.one_none hx
    have e1 : L.state x = 0 := by rw [LogM.state, e0]; rfl
    have e2 : L.csn x = 0 := by rw [LogM.csn, e0]; rfl
    have e3 : L.snapshot x = 0 := by rw [LogM.snapshot, e0]; rfl
    have e4 : L.reads x = false := by rw [LogM.reads, e0]; rfl
    rw [e1, e2, e3, e4]
    clear e0 e1 e2 e3 e4
    go_enter Try.func32, Try.ntmps32
    go_wp2_with fail
    refine (get_no (h' _) x hx).mono ?_
    rintro e w1 ⟨rfl, rfl⟩
    go_wp2
    exact bodyPost_ret (v := .agg #[.int .i64 0, .int .i64 0, .int .i64 0, .bool false]) (by simp [results, Try.results32, go_sem]) rfl ⟨rfl, (Tur.refl _ _).alloc _⟩

set_option maxHeartbeats 400000 in
theorem state_any {b : Nat} {L : LogM} {w : World} (h : LogAt w b L) (x : Int) :
    Calls Try.prog 16 #[.pointer (some ⟨b, 0, none⟩), .int .i64 x] w fun e w' => e = .returned (.int .i64 (L.state x)) ∧ Tur None' w w' := by
  go_enter Try.func16, Try.ntmps16
  go_wp2_with (go_at_call 32; refine (one_any h x).mono ?_; rintro e w1 ⟨rfl, ht⟩)
  go_ret
  exact ⟨rfl, by assumption⟩

/-- Nobody is nobody's: a nil log. -/
theorem get_nil (x : Int) (w : World) : Calls Try.prog 33 #[.pointer none, .int .i64 x] w fun e w' => e = .returned (.pointer none) ∧ w = w' := by
  go_enter Try.func33, Try.ntmps33
  go_wp2
  go_ret
  exact ⟨rfl, rfl⟩

set_option maxHeartbeats 1000000 in
theorem sees_any {b : Nat} {L : LogM} {w : World} (h : LogAt w b L) (x y : Int) :
    Calls Try.prog 17 #[.pointer (some ⟨b, 0, none⟩), .int .i64 x, .int .i64 y] w fun e w' => e = .returned (.bool (L.sees x y)) ∧ Tur None' w w' := by
  have hb : b < w.heap.size := h.blk.lt
  cases hx : L.isTx x with
  | false =>
    have e1 : L.sees x y = false := by simp [LogM.sees, hx]
    rw [e1]; clear e1
    cases hy : L.isTx y with
    | false =>
      go_enter Try.func17, Try.ntmps17
      go_wp2_with fail
      refine (get_no h x hx).mono ?_
      rintro e w1 ⟨rfl, rfl⟩
      go_wp2_with fail
      refine (get_no h y hy).mono ?_
      rintro e w1 ⟨rfl, rfl⟩
      go_wp2
      go_ret
      exact ⟨rfl, Tur.refl _ _⟩
    | true =>
      go_enter Try.func17, Try.ntmps17
      go_wp2_with fail
      refine (get_no h x hx).mono ?_
      rintro e w1 ⟨rfl, rfl⟩
      go_wp2_with fail
      refine (get_yes h y hy).mono ?_
      rintro e w1 ⟨rfl, rfl⟩
      go_wp2
      go_ret
      exact ⟨rfl, Tur.refl _ _⟩
  | true =>
    cases hy : L.isTx y with
    | false =>
      have e1 : L.sees x y = false := by simp [LogM.sees, hy]
      rw [e1]; clear e1
      go_enter Try.func17, Try.ntmps17
      go_wp2_with fail
      refine (get_yes h x hx).mono ?_
      rintro e w1 ⟨rfl, rfl⟩
      go_wp2_with fail
      refine (get_no h y hy).mono ?_
      rintro e w1 ⟨rfl, rfl⟩
      go_wp2
      go_ret
      exact ⟨rfl, Tur.refl _ _⟩
    | true =>
      obtain ⟨a0, a1, a2, a3⟩ := h.tx hx
      obtain ⟨c0, c1, c2, c3⟩ := h.tx hy
      have e1 : L.sees x y = (decide (x = y) || (decide (L.state y = 2) && decide (L.csn y ≤ L.snapshot x))) := by simp [LogM.sees, hx, hy]
      rw [e1]; clear e1
      by_cases hxy : x = y
      · subst hxy
        go_enter Try.func17, Try.ntmps17
        go_wp2_with fail
        refine (get_yes h x hx).mono ?_
        rintro e w1 ⟨rfl, rfl⟩
        go_wp2_with fail
        refine (get_yes h x hx).mono ?_
        rintro e w1 ⟨rfl, rfl⟩
        go_wp2
        go_quiet (fail)
        go_wp2
        go_ret
        exact ⟨by simp, by first | exact Tur.refl _ _ | exact (Tur.refl _ _).drewN _⟩
      · have d0 : (x == y) = false := by simp [hxy]
        by_cases hs : L.state y = 2
        · have d1 : (L.state y == 2) = true := by simp [hs]
          generalize L.state y = sy at *
          generalize L.csn y = cy at *
          generalize L.snapshot x = sx at *
          have e2 : (decide (x = y) || (decide (sy = 2) && decide (cy ≤ sx))) = decide (cy ≤ sx) := by simp [hxy, hs]
          rw [e2]; clear e2 hs hxy
          by_cases hq : cy ≤ sx
          · have d2 : decide (cy ≤ sx) = true := by simp [hq]
            rw [d2]
            go_enter Try.func17, Try.ntmps17
            go_wp2_with fail
            refine (get_yes h x hx).mono ?_
            rintro e w1 ⟨rfl, rfl⟩
            go_wp2_with fail
            refine (get_yes h y hy).mono ?_
            rintro e w1 ⟨rfl, rfl⟩
            go_wp2
            go_quiet (fail)
            go_wp2
            go_ret
            exact ⟨by simp, by first | exact Tur.refl _ _ | exact (Tur.refl _ _).drewN _⟩
          · have d2 : decide (cy ≤ sx) = false := by simp; omega
            rw [d2]
            go_enter Try.func17, Try.ntmps17
            go_wp2_with fail
            refine (get_yes h x hx).mono ?_
            rintro e w1 ⟨rfl, rfl⟩
            go_wp2_with fail
            refine (get_yes h y hy).mono ?_
            rintro e w1 ⟨rfl, rfl⟩
            go_wp2
            go_quiet (fail)
            go_wp2
            go_ret
            exact ⟨by simp, by first | exact Tur.refl _ _ | exact (Tur.refl _ _).drewN _⟩
        · have d1 : (L.state y == 2) = false := by simp [hs]
          generalize L.state y = sy at *
          generalize L.csn y = cy at *
          generalize L.snapshot x = sx at *
          have e2 : (decide (x = y) || (decide (sy = 2) && decide (cy ≤ sx))) = false := by simp [hxy, hs]
          rw [e2]; clear e2 hs hxy
          go_enter Try.func17, Try.ntmps17
          go_wp2_with fail
          refine (get_yes h x hx).mono ?_
          rintro e w1 ⟨rfl, rfl⟩
          go_wp2_with fail
          refine (get_yes h y hy).mono ?_
          rintro e w1 ⟨rfl, rfl⟩
          go_wp2
          go_quiet (fail)
          go_wp2
          go_ret
          exact ⟨by simp, by first | exact Tur.refl _ _ | exact (Tur.refl _ _).drewN _⟩

end Go.Proofs.Ytapkmgmcccgejaa
