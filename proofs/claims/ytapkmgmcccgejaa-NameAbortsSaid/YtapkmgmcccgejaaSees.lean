/- Which version a transaction sees. -/
import Derived.Test.YtapkmgmcccgejaaNam
import Derived.Test.YtapkmgmcccgejaaClog
namespace Go.Proofs.Ytapkmgmcccgejaa
open Go.RowKit Go.Shelf

set_option maxRecDepth 100000 in
set_option maxHeartbeats 2000000 in
theorem verSees {w : World} {lb : Nat} {L : LogM} (h : LogAt w lb L) (x : Int) (v : Ver) (cv : Value) (hcv : ∃ a n c, cv = .slice a n c) :
    Calls Try.prog 44 #[.agg #[.int .i64 v.xmin, .int .i64 v.xmax, .string v.t.name, cv, .int .i64 v.t.rel], .pointer (some ⟨lb, 0, none⟩), .int .i64 x] w
      fun e w' => e = .returned (.bool (v.seen L x)) ∧ Tur None' w w' := by
  obtain ⟨a, n, c, rfl⟩ := hcv
  obtain ⟨xmin, xmax, nm, cols, rel⟩ := v
  have hl : ∀ w2, Tur None' w w2 → LogAt w2 lb L := fun w2 t => h.tur t (fun h => h)
  have Hl := Lib.hid hl
  clear hl h
  unfold Ver.seen
  simp only
  have hr := Run.start w (Obj.cells #[.int .i64 xmin, .int .i64 xmax, .string nm, .slice a n c, .int .i64 rel] 66)
  cases h1 : L.sees x xmin
  all_goals
    cases h2 : L.sees x xmax
    all_goals
      cases h3 : (L.state xmax != 3)
      all_goals
        cases h0 : (xmax != 0)
        all_goals
          have H1 := Lib.hid h1
          have H2 := Lib.hid h2
          have H3 := Lib.hid h3
          clear h1 h2 h3
          go_enter Try.func44, Try.ntmps44
          go_wp2_with (first | (go_at_call 16; refine (state_any (Hl.out _ hr.tur) _).mono ?_; rintro e w1 ⟨rfl, t1⟩; have h3' := H3.out; have hr' := hr.step t1; clear hr t1; have hr := hr'; clear hr'; have hc := hr.cell) | (go_at_call 17; refine (sees_any (Hl.out _ hr.tur) _ _).mono ?_; rintro e w1 ⟨rfl, t1⟩; (first | rw [H1.out] | rw [H2.out]); have hr' := hr.step t1; clear hr t1; have hr := hr'; clear hr'; have hc := hr.cell))
          all_goals (go_ret; exact ⟨ret_bool (by simp), hr.tur⟩)

end Go.Proofs.Ytapkmgmcccgejaa
