/- Which values are good. -/
import Derived.Test.YtapkmgmcccgejaaVal
import Derived.Test.YtapkmgmcccgejaaMap
import Derived.Shelf.Abstract
namespace Go.Proofs.Ytapkmgmcccgejaa
open Go.RowKit Go.Shelf

def isNoNum (b : Nat) : Bool := FloatKind.f64.format.order b b != some Ordering.eq
def isNought (b : Nat) : Bool := FloatKind.f64.format.order b 0 == some Ordering.eq
/-- The canonical bits of a number. -/
def canonB (b : Nat) : Nat := if isNoNum b = true then 9221120237041090560 else if isNought b = true then 0 else b

theorem ret_float {a b : Nat} (h : a = b) : Ending.returned (.float .f64 a) = .returned (.float .f64 b) := by rw [h]

set_option maxRecDepth 100000 in
set_option maxHeartbeats 1000000 in
theorem canon_any (b : Nat) (w : World) :
    Calls Try.prog 100 #[.float .f64 b] w fun e w' => e = .returned (.float .f64 (canonB b)) ∧ w = w' := by
  have H1 : isNoNum b = true → canonB b = 9221120237041090560 := fun h => by unfold canonB; rw [if_pos h]
  have H2 : isNoNum b = false → isNought b = true → canonB b = 0 := fun h k => by unfold canonB; rw [if_neg (by rw [h]; decide), if_pos k]
  have H3 : isNoNum b = false → isNought b = false → canonB b = b := fun h k => by unfold canonB; rw [if_neg (by rw [h]; decide), if_neg (by rw [k]; decide)]
  have K1 := Lib.hid H1
  have K2 := Lib.hid H2
  have K3 := Lib.hid H3
  clear H1 H2 H3
  go_enter Try.func100, Try.ntmps100
  go_wp2
  all_goals go_ret
  · exact ⟨ret_float (K1.out ‹_›).symm, rfl⟩
  · exact ⟨ret_float (K2.out ‹_› ‹_›).symm, rfl⟩
  · exact ⟨ret_float (K3.out ‹_› ‹_›).symm, rfl⟩

theorem isCanon_any (b : Nat) (w : World) :
    Calls Try.prog 94 #[.float .f64 b] w fun e w' => e = .returned (.bool (b == canonB b)) ∧ w = w' := by
  go_enter Try.func94, Try.ntmps94
  go_wp2_with (first | (go_at_call 100; refine (canon_any _ _).mono ?_; rintro e w1 ⟨rfl, rfl⟩) | go_in)
  go_ret
  refine ⟨ret_bool ?_, rfl⟩
  rw [Bool.eq_iff_iff]; simp; omega

/-- Is a value good? -/
def goodVal (v : Val) : Bool :=
  if v.kind = 0 then bare v false false false
  else if v.kind = 1 then bare v true false false && (v.n == 0 || v.n == 1)
  else if v.kind = 2 then bare v true false false
  else if v.kind = 3 then bare v false true false && (v.f == canonB v.f)
  else if v.kind = 4 then bare v false false true && decide (v.s.size ≤ 256)
  else false

abbrev Val.own (v : Val) : Value := .agg #[.int .i64 v.kind, .int .i64 v.n, .float .f64 v.f, .string v.s]

set_option maxRecDepth 100000 in
set_option maxHeartbeats 1000000 in
theorem null_any (v : Val) (w : World) :
    Calls Try.prog 73 #[v.own] w fun e w' => e = .returned (.bool (bare v false false false)) ∧ Tur None' w w' := by
  go_enter Try.func73, Try.ntmps73
  go_wp2_with (go_at_call 93; refine (bare_any v false false false _).mono ?_; rintro e w1 ⟨rfl, ht⟩)
  go_ret
  exact ⟨rfl, ((Tur.refl None' _).alloc _).trans ‹_› (fun _ _ h => h)⟩

set_option maxRecDepth 100000 in
set_option maxHeartbeats 1000000 in
theorem int_any (v : Val) (w : World) :
    Calls Try.prog 75 #[v.own] w fun e w' => e = .returned (.bool (bare v true false false)) ∧ Tur None' w w' := by
  go_enter Try.func75, Try.ntmps75
  go_wp2_with (go_at_call 93; refine (bare_any v true false false _).mono ?_; rintro e w1 ⟨rfl, ht⟩)
  go_ret
  exact ⟨rfl, ((Tur.refl None' _).alloc _).trans ‹_› (fun _ _ h => h)⟩

set_option maxRecDepth 100000 in
set_option maxHeartbeats 1000000 in
theorem bool_any (v : Val) (w : World) :
    Calls Try.prog 74 #[v.own] w fun e w' => e = .returned (.bool (bare v true false false && (v.n == 0 || v.n == 1))) ∧ Tur None' w w' := by
  cases hb : bare v true false false
  all_goals
    have Hb := Lib.hid hb
    clear hb
    go_enter Try.func74, Try.ntmps74
    go_wp2_with (go_at_call 93; refine (bare_any v true false false _).mono ?_; rintro e w1 ⟨rfl, ht⟩; rw [Hb.out]; have hc := fun o => ht.cell (p := ⟨w.heap.size, o, none⟩) (by simp) (fun h => h))
  all_goals (go_ret; exact ⟨ret_bool (by simp [*]), ((Tur.refl None' _).alloc _).trans ‹_› (fun _ _ h => h)⟩)

set_option maxRecDepth 100000 in
set_option maxHeartbeats 1000000 in
theorem float_any (v : Val) (w : World) :
    Calls Try.prog 76 #[v.own] w fun e w' => e = .returned (.bool (bare v false true false && (v.f == canonB v.f))) ∧ Tur None' w w' := by
  cases hb : bare v false true false
  all_goals
    have Hb := Lib.hid hb
    clear hb
    go_enter Try.func76, Try.ntmps76
    go_wp2_with (first | (go_at_call 93; refine (bare_any v false true false _).mono ?_; rintro e w1 ⟨rfl, ht⟩; rw [Hb.out]; have hc := fun o => ht.cell (p := ⟨w.heap.size, o, none⟩) (by simp) (fun h => h)) | (go_at_call 94; refine (isCanon_any _ _).mono ?_; rintro e w1 ⟨rfl, rfl⟩))
  all_goals (go_ret; exact ⟨ret_bool (by simp [*]), ((Tur.refl None' _).alloc _).trans ‹_› (fun _ _ h => h)⟩)

set_option maxRecDepth 100000 in
set_option maxHeartbeats 1000000 in
theorem text_any (v : Val) (w : World) (hs : v.s.size ≤ maxLen) :
    Calls Try.prog 77 #[v.own] w fun e w' => e = .returned (.bool (bare v false false true && decide (v.s.size ≤ 256))) ∧ Tur None' w w' := by
  unfold maxLen at hs
  cases hb : bare v false false true
  all_goals
    have Hb := Lib.hid hb
    clear hb
    go_enter Try.func77, Try.ntmps77
    go_wp2_with (go_at_call 93; refine (bare_any v false false true _).mono ?_; rintro e w1 ⟨rfl, ht⟩; rw [Hb.out]; have hc := fun o => ht.cell (p := ⟨w.heap.size, o, none⟩) (by simp) (fun h => h))
  all_goals (go_ret; refine ⟨ret_bool ?_, ((Tur.refl None' _).alloc _).trans ‹_› (fun _ _ h => h)⟩; simp [*]; try omega)

/-- The literal that 'Good' makes: which function tells of a kind. -/
def goodFn (k : Int) : Value :=
  if k = 4 then .func (.func 77) #[] #[] else if k = 3 then .func (.func 76) #[] #[] else if k = 2 then .func (.func 75) #[] #[]
  else if k = 1 then .func (.func 74) #[] #[] else if k = 0 then .func (.func 73) #[] #[] else .nilFunc

theorem neq_fn (g : FuncId) (w : World) : (binOp .neq 123 (.func (.func g) #[] #[]) .nilFunc).run Try.prog w = .ok (.bool true) w := by kernel_rfl
theorem neq_nil (w : World) : (binOp .neq 123 .nilFunc .nilFunc).run Try.prog w = .ok (.bool false) w := by kernel_rfl
attribute [local go_sem] neq_fn neq_nil

theorem zeroFn (w : World) : (zeroValue 123).run Try.prog w = .ok .nilFunc w := by kernel_rfl

theorem good_lookup {w : World} {b ck : Nat} {c0 c1 c2 c3 c4 : Nat} (h : MapAt w b (Value.int .i64)
    (putE 4 (.func (.func 77) #[] #[]) c4 (putE 3 (.func (.func 76) #[] #[]) c3 (putE 2 (.func (.func 75) #[] #[]) c2
      (putE 1 (.func (.func 74) #[] #[]) c1 (putE 0 (.func (.func 73) #[] #[]) c0 []))))) ck) (k : Int) :
    (Instr.lookup 125 (.map (some b)) (.int .i64 k) false).run Try.prog w = .ok (goodFn k) w := by
  rw [run_lookup_at (klaw_int Try.underlying3) Try.underlying125 (zeroFn w) h k]
  simp only [look_putE, goodFn]
  repeat (split; rfl)
  rfl

set_option maxRecDepth 100000 in
set_option maxHeartbeats 2000000 in
theorem good_case (v : Val) (w : World) (g : FuncId) (r : Bool) (hg : goodFn v.kind = .func (.func g) #[] #[])
    (he : ∀ args w, (callFunc g args).run Try.prog w = .ok (.enter g args) w)
    (hr : ∀ W, Calls Try.prog g #[v.own] W fun e w' => e = .returned (.bool r) ∧ Tur None' W w') :
    Calls Try.prog 56 #[v.own] w fun e w' => e = .returned (.bool r) ∧ Tur None' w w' := by
  have hmm := @run_makeMap Try.prog
  have K := klaw_int (P := Try.prog) Try.underlying3
  have Hg := Lib.hid hg
  have Hr := Lib.hid hr
  clear hg hr
  have hm : MapAt ((w.alloc (Obj.cells #[.int .i64 v.kind, .int .i64 v.n, .float .f64 v.f, .string v.s] 71)).alloc (.map #[] 0)) (w.heap.size + 1) (Value.int .i64) ([] : List (Ent Int)) 0 := by
    have := MapAt.made (w.alloc (Obj.cells #[.int .i64 v.kind, .int .i64 v.n, .float .f64 v.f, .string v.s] 71)) (Value.int .i64)
    simpa using this
  have ht : Tur (· = w.heap.size + 1) (w.alloc (Obj.cells #[.int .i64 v.kind, .int .i64 v.n, .float .f64 v.f, .string v.s] 71)) ((w.alloc (Obj.cells #[.int .i64 v.kind, .int .i64 v.n, .float .f64 v.f, .string v.s] 71)).alloc (.map #[] 0)) := (Tur.refl _ _).alloc _
  go_enter Try.func56, Try.ntmps56
  go_wp2_with (first | (refine wpList_insert_at rfl _ _ _ rfl K Try.underlying125 rfl hm 0 (.func (.func 73) #[] #[]) rfl rfl ?_; intro w1 hm' t s; have ht' := ht.trans t (fun _ _ h => h); clear hm ht t s; have hm := hm'; clear hm'; have ht := ht'; clear ht') | (refine wpList_insert_at rfl _ _ _ rfl K Try.underlying125 rfl hm 1 (.func (.func 74) #[] #[]) rfl rfl ?_; intro w1 hm' t s; have ht' := ht.trans t (fun _ _ h => h); clear hm ht t s; have hm := hm'; clear hm'; have ht := ht'; clear ht') | (refine wpList_insert_at rfl _ _ _ rfl K Try.underlying125 rfl hm 2 (.func (.func 75) #[] #[]) rfl rfl ?_; intro w1 hm' t s; have ht' := ht.trans t (fun _ _ h => h); clear hm ht t s; have hm := hm'; clear hm'; have ht := ht'; clear ht') | (refine wpList_insert_at rfl _ _ _ rfl K Try.underlying125 rfl hm 3 (.func (.func 76) #[] #[]) rfl rfl ?_; intro w1 hm' t s; have ht' := ht.trans t (fun _ _ h => h); clear hm ht t s; have hm := hm'; clear hm'; have ht := ht'; clear ht') | (refine wpList_insert_at rfl _ _ _ rfl K Try.underlying125 rfl hm 4 (.func (.func 77) #[] #[]) rfl rfl ?_; intro w1 hm' t s; have ht' := ht.trans t (fun _ _ h => h); clear hm ht t s; have hm := hm'; clear hm'; have ht := ht'; clear ht'; have hl := good_lookup hm v.kind; rw [Hg.out] at hl; clear hm; have hc := fun o => ht.cell (p := ⟨w.heap.size, o, none⟩) (by simp) (by simp)))
  refine (Hr.out _).mono ?_
  rintro e w2 ⟨rfl, ht2⟩
  go_wp2
  go_ret
  exact ⟨rfl, ((Tur.refl None' w).alloc _).trans ((ht.trans ht2 (fun _ _ h => h.elim)).mono (fun j hj e => absurd hj (by simp [e]))) (fun _ _ h => h)⟩

set_option maxRecDepth 100000 in
set_option maxHeartbeats 2000000 in
theorem good_none (v : Val) (w : World) (hg : goodFn v.kind = .nilFunc) :
    Calls Try.prog 56 #[v.own] w fun e w' => e = .returned (.bool false) ∧ Tur None' w w' := by
  have hmm := @run_makeMap Try.prog
  have K := klaw_int (P := Try.prog) Try.underlying3
  have Hg := Lib.hid hg
  clear hg
  have hm : MapAt ((w.alloc (Obj.cells #[.int .i64 v.kind, .int .i64 v.n, .float .f64 v.f, .string v.s] 71)).alloc (.map #[] 0)) (w.heap.size + 1) (Value.int .i64) ([] : List (Ent Int)) 0 := by
    have := MapAt.made (w.alloc (Obj.cells #[.int .i64 v.kind, .int .i64 v.n, .float .f64 v.f, .string v.s] 71)) (Value.int .i64)
    simpa using this
  have ht : Tur (· = w.heap.size + 1) (w.alloc (Obj.cells #[.int .i64 v.kind, .int .i64 v.n, .float .f64 v.f, .string v.s] 71)) ((w.alloc (Obj.cells #[.int .i64 v.kind, .int .i64 v.n, .float .f64 v.f, .string v.s] 71)).alloc (.map #[] 0)) := (Tur.refl _ _).alloc _
  go_enter Try.func56, Try.ntmps56
  go_wp2_with (first | (refine wpList_insert_at rfl _ _ _ rfl K Try.underlying125 rfl hm 0 (.func (.func 73) #[] #[]) rfl rfl ?_; intro w1 hm' t s; have ht' := ht.trans t (fun _ _ h => h); clear hm ht t s; have hm := hm'; clear hm'; have ht := ht'; clear ht') | (refine wpList_insert_at rfl _ _ _ rfl K Try.underlying125 rfl hm 1 (.func (.func 74) #[] #[]) rfl rfl ?_; intro w1 hm' t s; have ht' := ht.trans t (fun _ _ h => h); clear hm ht t s; have hm := hm'; clear hm'; have ht := ht'; clear ht') | (refine wpList_insert_at rfl _ _ _ rfl K Try.underlying125 rfl hm 2 (.func (.func 75) #[] #[]) rfl rfl ?_; intro w1 hm' t s; have ht' := ht.trans t (fun _ _ h => h); clear hm ht t s; have hm := hm'; clear hm'; have ht := ht'; clear ht') | (refine wpList_insert_at rfl _ _ _ rfl K Try.underlying125 rfl hm 3 (.func (.func 76) #[] #[]) rfl rfl ?_; intro w1 hm' t s; have ht' := ht.trans t (fun _ _ h => h); clear hm ht t s; have hm := hm'; clear hm'; have ht := ht'; clear ht') | (refine wpList_insert_at rfl _ _ _ rfl K Try.underlying125 rfl hm 4 (.func (.func 77) #[] #[]) rfl rfl ?_; intro w1 hm' t s; have ht' := ht.trans t (fun _ _ h => h); clear hm ht t s; have hm := hm'; clear hm'; have ht := ht'; clear ht'; have hl := good_lookup hm v.kind; rw [Hg.out] at hl; clear hm; have hc := fun o => ht.cell (p := ⟨w.heap.size, o, none⟩) (by simp) (by simp)))
  go_ret
  exact ⟨rfl, ((Tur.refl None' w).alloc _).trans (ht.mono (fun j hj e => absurd hj (by simp [e]))) (fun _ _ h => h)⟩

theorem goodVal_any (v : Val) (w : World) (hs : v.s.size ≤ maxLen) :
    Calls Try.prog 56 #[v.own] w fun e w' => e = .returned (.bool (goodVal v)) ∧ Tur None' w w' := by
  unfold goodVal
  by_cases h0 : v.kind = 0
  · rw [if_pos h0]; exact good_case v w _ _ (by simp [goodFn, h0]) (enters_of Try.func73 (by kernel_rfl) rfl) (null_any v)
  rw [if_neg h0]
  by_cases h1 : v.kind = 1
  · rw [if_pos h1]; exact good_case v w _ _ (by simp [goodFn, h1]) (enters_of Try.func74 (by kernel_rfl) rfl) (bool_any v)
  rw [if_neg h1]
  by_cases h2 : v.kind = 2
  · rw [if_pos h2]; exact good_case v w _ _ (by simp [goodFn, h2]) (enters_of Try.func75 (by kernel_rfl) rfl) (int_any v)
  rw [if_neg h2]
  by_cases h3 : v.kind = 3
  · rw [if_pos h3]; exact good_case v w _ _ (by simp [goodFn, h3]) (enters_of Try.func76 (by kernel_rfl) rfl) (float_any v)
  rw [if_neg h3]
  by_cases h4 : v.kind = 4
  · rw [if_pos h4]; exact good_case v w _ _ (by simp [goodFn, h4]) (enters_of Try.func77 (by kernel_rfl) rfl) (fun W => text_any v W hs)
  rw [if_neg h4]
  exact good_none v w (by simp [goodFn, h0, h1, h2, h3, h4])

end Go.Proofs.Ytapkmgmcccgejaa
