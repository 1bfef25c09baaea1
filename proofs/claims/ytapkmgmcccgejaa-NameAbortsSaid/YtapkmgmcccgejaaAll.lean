/- All, where a transaction sees one table at most. -/
import Derived.Test.YtapkmgmcccgejaaPutAll
namespace Go.Proofs.Ytapkmgmcccgejaa
open Go.RowKit Go.Shelf

set_option maxRecDepth 100000 in
set_option maxHeartbeats 2000000 in
theorem len64_any (w : World) (n : Nat) (hn : n ≤ 1) :
    Calls Try.prog 69 #[.int .u64 n] w fun e w' => (∃ k : Int, e = .returned (.int .i64 k)) ∧ w' = w := by
  rcases (by omega : n = 0 ∨ n = 1) with rfl | rfl
  all_goals
    go_enter Try.func69, Try.ntmps69
    go_wp2
    go_ret
    exact ⟨⟨_, rfl⟩, rfl⟩

set_option maxRecDepth 100000 in
set_option maxHeartbeats 2000000 in
theorem len_any (w : World) (n : Nat) (hn : n ≤ 1) :
    Calls Try.prog 50 #[.int .u64 n] w fun e w' => (∃ k : Int, e = .returned (.int .i64 k)) ∧ w' = w := by
  have h := fun w => len64_any w n hn
  rcases (by omega : n = 0 ∨ n = 1) with rfl | rfl
  all_goals
    go_enter Try.func50, Try.ntmps50
    go_wp2_with (refine (h _).mono ?_; rintro e w1 ⟨⟨k, rfl⟩, rfl⟩)
    all_goals (go_ret; exact ⟨⟨_, rfl⟩, rfl⟩)

set_option maxRecDepth 100000 in
set_option maxHeartbeats 2000000 in
theorem insertion_small (w : World) (v fv : Value) (n : Nat) (hn : n ≤ 1) :
    Calls Try.prog 60 #[v, .int .i64 0, .int .i64 n, fv] w fun e w' => e = .returned (.tuple #[]) ∧ w' = w := by
  rcases (by omega : n = 0 ∨ n = 1) with rfl | rfl
  all_goals
    go_enter Try.func60, Try.ntmps60
    go_wp2
    go_loopw [8] (fun i wr => i = .int .i64 1 ∧ wr = w) (fun _ _ => 0)
    case atStart => exact ⟨rfl, rfl⟩
    case round =>
      obtain ⟨rfl, rfl⟩ := hrel
      go_wp2
      first | exact bodyPost_ret (results_none rfl _ _ _) rfl ⟨rfl, rfl⟩ | exact bodyPost_end (results_none rfl _ _ _) rfl ⟨rfl, rfl⟩

set_option maxRecDepth 100000 in
set_option maxHeartbeats 2000000 in
theorem pdq_small (w : World) (v fv : Value) (n : Nat) (hn : n ≤ 1) (k : Int) :
    Calls Try.prog 49 #[v, .int .i64 0, .int .i64 n, .int .i64 k, fv] w fun e w' => e = .returned (.tuple #[]) ∧ w' = w := by
  have h := fun w => insertion_small w v fv n hn
  rcases (by omega : n = 0 ∨ n = 1) with rfl | rfl
  all_goals
    go_enter Try.func49, Try.ntmps49
    go_wp2
    go_loopw [1, 2, 3] (fun a b c wr => a = .int .i64 0 ∧ b = .int .i64 _ ∧ c = .int .i64 k ∧ wr = w) (fun _ _ _ _ => 0)
    case atStart => exact ⟨rfl, rfl, rfl, rfl⟩
    case round =>
      obtain ⟨rfl, rfl, rfl, rfl⟩ := hrel
      go_wp2_with (refine (h _).mono ?_; rintro e w1 ⟨rfl, rfl⟩)
      first | exact bodyPost_ret (results_none rfl _ _ _) rfl ⟨rfl, rfl⟩ | exact bodyPost_end (results_none rfl _ _ _) rfl ⟨rfl, rfl⟩

set_option maxRecDepth 100000 in
set_option maxHeartbeats 2000000 in
theorem sort_small (w : World) (a : Option Addr) (cap : Nat) (fv : Value) (n : Nat) (hn : n ≤ 1) :
    Calls Try.prog 34 #[.slice a n cap, fv] w fun e w' => e = .returned (.tuple #[]) ∧ w' = w := by
  have h := fun w k => pdq_small w (.slice a n cap) fv n hn k
  have h1 := fun w => len_any w n hn
  rcases (by omega : n = 0 ∨ n = 1) with rfl | rfl
  all_goals
    go_enter Try.func34, Try.ntmps34
    go_wp2_with (first | (refine (h1 _).mono ?_; rintro e w1 ⟨⟨k, rfl⟩, rfl⟩) | (refine (h _ _).mono ?_; rintro e w1 ⟨rfl, rfl⟩))
    first | exact bodyPost_ret (results_none rfl _ _ _) rfl ⟨rfl, rfl⟩ | exact bodyPost_end (results_none rfl _ _ _) rfl ⟨rfl, rfl⟩

end Go.Proofs.Ytapkmgmcccgejaa
