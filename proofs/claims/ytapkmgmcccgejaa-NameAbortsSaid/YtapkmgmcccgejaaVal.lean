/- Names and values: what package value tells. -/
import Derived.Test.YtapkmgmcccgejaaLv
import Derived.Test.YtapkmgmcccgejaaRows
import Derived.LoopTactic
import Derived.Lib.Hide
namespace Go.Proofs.Ytapkmgmcccgejaa
open Go.RowKit

theorem ret_bool {a b : Bool} (h : a = b) : Ending.returned (.bool a) = .returned (.bool b) := by rw [h]
theorem ret_int {k : IntKind} {a b : Int} (h : a = b) : Ending.returned (.int k a) = .returned (.int k b) := by rw [h]

/-- May a byte stand at a place of a name? -/
def nameByte (i c : Nat) : Bool := decide ((97 ≤ c ∧ c ≤ 122) ∨ (((48 ≤ c ∧ c ≤ 57) ∨ c = 95) ∧ i ≠ 0))
def nameOk (s : ByteArray) : Bool := decide (1 ≤ s.size ∧ s.size ≤ 8 ∧ ∀ i, (h : i < s.size) → nameByte i s[i].toNat = true)

theorem nameOk_no {s : ByteArray} {k : Nat} (hk : k < s.size) (h : nameByte k s[k].toNat = false) : nameOk s = false := by
  unfold nameOk
  rw [decide_eq_false_iff_not]
  rintro ⟨_, _, h3⟩
  have := h3 k hk
  rw [h] at this; cases this

set_option maxHeartbeats 1000000 in
theorem valueName (s : ByteArray) (w : World) (hs : s.size ≤ maxLen) :
    Calls Try.prog 23 #[.string s] w fun e w' => e = .returned (.bool (nameOk s)) ∧ w = w' := by
  unfold maxLen at hs
  by_cases h1 : s.size < 1
  · have e1 : nameOk s = false := by unfold nameOk; rw [decide_eq_false_iff_not]; omega
    rw [e1]
    clear e1
    go_enter Try.func23, Try.ntmps23
    go_wp2
    go_ret
    exact ⟨rfl, rfl⟩
  · by_cases h2 : 8 < s.size
    · have e1 : nameOk s = false := by unfold nameOk; rw [decide_eq_false_iff_not]; omega
      rw [e1]
      clear e1
      go_enter Try.func23, Try.ntmps23
      go_wp2
      go_ret
      exact ⟨rfl, rfl⟩
    · go_enter Try.func23, Try.ntmps23
      go_wp2
      go_loop [3, 4, 5, 16] (fun _ _ _ i => ∃ k : Nat, k ≤ s.size ∧ i = .int .i64 k ∧ ∀ j, (h : j < s.size) → j < k → nameByte j s[j].toNat = true) (fun _ _ _ i => s.size - (intOf i).toNat)
      case atStart => exact ⟨0, Nat.zero_le _, rfl, fun _ _ h => absurd h (by omega)⟩
      case round =>
        obtain ⟨k, hk, rfl, hall⟩ := hrel
        have Hall := Lib.hid hall
        clear hall
        by_cases hlt : k < s.size
        · have hno := fun h => Lib.hid (nameOk_no hlt h)
          have hok : nameByte k s[k].toNat = true → ∀ j, (h : j < s.size) → j < k + 1 → nameByte j s[j].toNat = true := by
            intro hb j hj hjk
            by_cases e : j = k
            · subst e; exact hb
            · exact Hall.out j hj (by omega)
          have Hno := Lib.hid hno
          have Hok := Lib.hid hok
          clear hno hok
          go_wp2
          all_goals (try simp only [Bool.not_eq_true', decide_eq_false_iff_not, beq_eq_false_iff_ne, beq_iff_eq, ne_eq, Bool.or_eq_true, Bool.and_eq_true, decide_eq_true_eq] at *)
          all_goals first
            | (go_ret; refine ⟨ret_bool (Hno.out ?_).out.symm, rfl⟩; unfold nameByte; rw [decide_eq_false_iff_not]; omega)
            | (refine ⟨⟨k + 1, by omega, by go_num, Hok.out ?_⟩, by simp [intOf]; omega⟩; unfold nameByte; rw [decide_eq_true_eq]; omega)
        · go_wp2
          go_ret
          refine ⟨ret_bool ?_, rfl⟩
          show true = nameOk s
          unfold nameOk
          symm; rw [decide_eq_true_eq]
          exact ⟨by omega, by omega, fun i h => Hall.out i h (by omega)⟩

/-! ### values -/
structure Val where
  kind : Int
  n : Int
  f : Nat
  s : ByteArray

def Val.zero : Val := ⟨0, 0, 0, ByteArray.empty⟩
/-- The cells of a value. -/
def Val.agg (v : Val) : Value := .agg #[.int .i64 v.kind, .int .i64 v.n, .float .f64 v.f, .string v.s]

structure Col where
  name : ByteArray
  kind : Int
  nn : Bool
  d : Val
def Col.agg (c : Col) : Value := .agg #[.string c.name, .int .i64 c.kind, .bool c.nn, .int .i64 c.d.kind, .int .i64 c.d.n, .float .f64 c.d.f, .string c.d.s]

/-- Are the fields that a kind has not zero? -/
def bare (v : Val) (n f s : Bool) : Bool := (n || v.n == 0) && (f || v.f == 0) && (s || v.s.toList.isEmpty)

theorem run_float64bits (b : Nat) (w : World) : (callFunc 83 #[.float .f64 b]).run Try.prog w = .ok (.value (.int .u64 b)) w := by
  rw [run_callFunc_extern (e := Extern.MathFloatBits.float64bits) Try.func83 (by kernel_rfl) (by kernel_rfl) (by kernel_rfl) (by kernel_rfl)]; rfl
theorem run_float64frombits (n : Int) (w : World) : (callFunc 102 #[.int .u64 n]).run Try.prog w = .ok (.value (.float .f64 n.toNat)) w := by
  rw [run_callFunc_extern (e := Extern.MathFloatBits.float64frombits) Try.func102 (by kernel_rfl) (by kernel_rfl) (by kernel_rfl) (by kernel_rfl)]; rfl
attribute [go_sem] run_float64bits run_float64frombits

set_option maxRecDepth 100000 in
set_option maxHeartbeats 1000000 in
theorem bare_any (v : Val) (n f s : Bool) (w : World)  :
    Calls Try.prog 93 #[.agg #[.int .i64 v.kind, .int .i64 v.n, .float .f64 v.f, .string v.s], .bool n, .bool f, .bool s] w fun e w' => e = .returned (.bool (bare v n f s)) ∧ Tur None' w w' := by
  obtain ⟨k, m, b, t⟩ := v
  have e1 : bare ⟨k, m, b, t⟩ n f s = ((n || m == 0) && (f || b == 0) && (s || t.toList.isEmpty)) := rfl
  rw [e1]; clear e1
  cases n <;> cases f <;> cases s
  all_goals
    go_enter Try.func93, Try.ntmps93
    go_wp2
  all_goals refine bodyPost_ret (v := .bool _) (by simp [results, Try.results93, go_sem]; rfl) rfl ⟨?_, ?_⟩
  all_goals first | exact (Tur.refl _ _).alloc _ | exact ret_bool (by simp [*])

end Go.Proofs.Ytapkmgmcccgejaa
