/- How many other names there may be for anybody. -/
import Derived.Test.YtapkmgmcccgejaaMay
namespace Go.Proofs.Ytapkmgmcccgejaa
open Go.RowKit Go.Shelf

/-- Does a version count, for whoever is x? -/
def Ver.counts (L : LogM) (x : Int) (v : Ver) : Bool := L.state v.xmin != 3 && !((v.xmax != 0 && L.state v.xmax == 2) && L.sees x v.xmax)

set_option maxRecDepth 100000 in
set_option maxHeartbeats 2000000 in
theorem countFn_any {w : World} {lb Bl Bx : Nat} {L : LogM} (h : LogAt w lb L) (x : Int) (hBl : w.cell? ⟨Bl, 0, none⟩ = some (.pointer (some ⟨lb, 0, none⟩))) (hBx : w.cell? ⟨Bx, 0, none⟩ = some (.int .i64 x)) (v : Ver) (cv : Value) (hcv : ∃ a n c, cv = .slice a n c) :
    Calls Try.prog 46 #[.agg #[.int .i64 v.xmin, .int .i64 v.xmax, .string v.t.name, cv, .int .i64 v.t.rel], .pointer (some ⟨Bl, 0, none⟩), .pointer (some ⟨Bx, 0, none⟩)] w
      fun e w' => e = .returned (.bool (v.counts L x)) ∧ Tur None' w w' := by
  obtain ⟨a, n, c, rfl⟩ := hcv
  obtain ⟨xmin, xmax, nm, cols, rel⟩ := v
  have hl : ∀ w2, Tur None' w w2 → LogAt w2 lb L ∧ w2.cell? ⟨Bl, 0, none⟩ = some (.pointer (some ⟨lb, 0, none⟩)) ∧ w2.cell? ⟨Bx, 0, none⟩ = some (.int .i64 x) := fun w2 t => ⟨h.tur t (fun h => h), t.cell' hBl (fun h => h), t.cell' hBx (fun h => h)⟩
  have Hl := Lib.hid hl
  clear hl h
  unfold Ver.counts
  simp only
  have hr := Run.start w (Obj.cells #[.int .i64 xmin, .int .i64 xmax, .string nm, .slice a n c, .int .i64 rel] 66)
  obtain ⟨_, bl, bx⟩ := Hl.out _ hr.tur
  cases h1 : (L.state xmin != 3)
  all_goals
    cases h2 : L.sees x xmax
    all_goals
      cases h3 : (L.state xmax == 2)
      all_goals
        cases h0 : (xmax != 0)
        all_goals
          have H1 := Lib.hid h1
          have H2 := Lib.hid h2
          have H3 := Lib.hid h3
          clear h1 h2 h3
          go_enter Try.func46, Try.ntmps46
          go_wp2_with (first | (go_at_call 16; refine (state_any (Hl.out _ hr.tur).1 _).mono ?_; rintro e w1 ⟨rfl, t1⟩; have h3' := H3.out; have h1' := H1.out; have hr' := hr.step t1; clear hr t1; have hr := hr'; clear hr'; have hc := hr.cell; obtain ⟨_, bl, bx⟩ := Hl.out _ hr.tur) | (go_at_call 17; refine (sees_any (Hl.out _ hr.tur).1 _ _).mono ?_; rintro e w1 ⟨rfl, t1⟩; rw [H2.out]; have hr' := hr.step t1; clear hr t1; have hr := hr'; clear hr'; have hc := hr.cell; obtain ⟨_, bl, bx⟩ := Hl.out _ hr.tur))
          all_goals (go_ret; exact ⟨ret_bool (by simp), hr.tur⟩)

theorem idxOf_any {α : Type} (p : α → Bool) (l : List α) : decide (0 ≤ idxOf p l) = l.any p := by
  rcases idxOf_cases p l with ⟨h, hf⟩ | ⟨k, h, hk⟩
  · rw [h]
    rw [List.find?_eq_none] at hf
    have : l.any p = false := by rw [List.any_eq_false]; exact hf
    rw [this]; rfl
  · rw [h]
    obtain ⟨y, hy, hf⟩ := find_of_idx h
    have : l.any p = true := by rw [List.any_eq_true]; exact ⟨y, List.mem_of_getElem? hy, List.find?_some hf⟩
    rw [this]; simp

set_option maxRecDepth 100000 in
set_option maxHeartbeats 2000000 in
theorem containsVer {w : World} {v : Value} {vers : List Ver} {cvs : List Value} {B : Nat} (h : VersAt w B v vers cvs) {lb Bl Bx : Nat} {L : LogM} (hl : LogAt w lb L) (x : Int) (hBl : w.cell? ⟨Bl, 0, none⟩ = some (.pointer (some ⟨lb, 0, none⟩))) (hBx : w.cell? ⟨Bx, 0, none⟩ = some (.int .i64 x)) :
    Calls Try.prog 59 #[v, .func (.func 46) #[] #[.pointer (some ⟨Bl, 0, none⟩), .pointer (some ⟨Bx, 0, none⟩)]] w
      fun e w' => e = .returned (.int .i64 (idxOf (Ver.counts L x) vers)) ∧ Tur None' w w' := by
  have hl' : ∀ w2, Tur None' w w2 → LogAt w2 lb L ∧ w2.cell? ⟨Bl, 0, none⟩ = some (.pointer (some ⟨lb, 0, none⟩)) ∧ w2.cell? ⟨Bx, 0, none⟩ = some (.int .i64 x) := fun w2 t => ⟨hl.tur t (fun h => h), t.cell' hBl (fun h => h), t.cell' hBx (fun h => h)⟩
  have Hl := Lib.hid hl'
  clear hl hl' hBl hBx
  obtain ⟨a, cap, rfl, hlen, hc⟩ : ∃ a cap, v = .slice a vers.length cap ∧ vers.length ≤ maxLen ∧ ∀ k y, vers[k]? = some y → ∃ g a' n' c', a = some ⟨g, 0, none⟩ ∧ VerAt w g (k * 5) y (.slice a' n' c') := by
    rcases ownsRow_shape h.own with ⟨rfl, h0⟩ | ⟨g, cap, rfl, hb, hn, hc, ho⟩
    · refine ⟨none, 0, by rw [h0], by omega, fun k z hk => ?_⟩
      have e : vers = [] := List.eq_nil_of_length_eq_zero h0
      rw [e] at hk; simp at hk
    · refine ⟨_, cap, rfl, by omega, fun k z hk => ?_⟩
      obtain ⟨cv, _, hva, hoc⟩ := h.ver hk rfl
      obtain ⟨a', n', c', rfl⟩ := hoc.slice
      exact ⟨g, a', n', c', rfl, hva⟩
  unfold maxLen at hlen
  have Hc := Lib.hid hc
  clear hc h
  go_enter Try.func59, Try.ntmps59
  go_wp2
  go_loopw [5, 8] (fun _ i wr => ∃ k : Nat, k ≤ vers.length ∧ i = .int .i64 k ∧ (∀ j y, j < k → vers[j]? = some y → y.counts L x = false) ∧ Tur None' w wr) (fun _ i _ => vers.length - (intOf i).toNat)
  case atStart => exact ⟨0, Nat.zero_le _, rfl, fun j y hj => absurd hj (by omega), Tur.refl _ _⟩
  case round =>
    obtain ⟨k, hk, rfl, hno, ht⟩ := hrel
    have Hno := Lib.hid hno
    clear hno
    by_cases hlt : k < vers.length
    · obtain ⟨c, hcc⟩ : ∃ c, vers[k]? = some c := ⟨vers[k], List.getElem?_eq_getElem hlt⟩
      obtain ⟨g, a', n', c', rfl, gva⟩ := Hc.out k c hcc
      obtain ⟨g0, g1, g2, g3, g4⟩ := gva.tur ht (fun h => h)
      obtain ⟨hlr, hbl, hbx⟩ := Hl.out _ ht
      have Hlr := Lib.hid hlr
      have Hbl := Lib.hid hbl
      have Hbx := Lib.hid hbx
      have Hcc := Lib.hid hcc
      clear hcc hlr hbl hbx gva
      cases hp : c.counts L x
      all_goals
        have Hp := Lib.hid hp
        clear hp
        go_wp2_with (refine (countFn_any Hlr.out x Hbl.out Hbx.out c _ ⟨_, _, _, rfl⟩).mono ?_; rintro e w2 ⟨rfl, ht2⟩; rw [Hp.out])
      · go_roundw
        case rel =>
          refine ⟨k + 1, by omega, by go_num, ?_, ht.none_trans ‹_›⟩
          intro j y hj hy
          by_cases e : j = k
          · subst e; rw [Hcc.out] at hy; cases hy; exact Hp.out
          · exact Hno.out j y (by omega) hy
        case measure => simp [intOf]; omega
      · go_ret
        exact ⟨ret_int (idxOf_at Hcc.out Hp.out Hno.out).symm, ht.none_trans ‹_›⟩
    · go_wp2
      go_ret
      refine ⟨?_, ht⟩
      rw [idxOf_none]
      · rfl
      · intro x hx
        obtain ⟨j, hj⟩ := List.getElem?_of_mem hx
        have hjl : j < vers.length := (List.getElem?_eq_some_iff.1 hj).1
        exact Hno.out j x (by omega) hj

theorem containsVer2 {w : World} {v : Value} {vers : List Ver} {cvs : List Value} {B : Nat} (h : VersAt w B v vers cvs) {lb Bl Bx : Nat} {L : LogM} (hl : LogAt w lb L) (x : Int) (hBl : w.cell? ⟨Bl, 0, none⟩ = some (.pointer (some ⟨lb, 0, none⟩))) (hBx : w.cell? ⟨Bx, 0, none⟩ = some (.int .i64 x)) :
    Calls Try.prog 45 #[v, .func (.func 46) #[] #[.pointer (some ⟨Bl, 0, none⟩), .pointer (some ⟨Bx, 0, none⟩)]] w
      fun e w' => e = .returned (.bool (vers.any (Ver.counts L x))) ∧ Tur None' w w' := by
  rw [← idxOf_any]
  have H := Lib.hid h
  obtain ⟨a, n, c, rfl⟩ : ∃ a n c, v = .slice a n c := by
    rcases ownsRow_shape h.own with ⟨rfl, _⟩ | ⟨g, cap, rfl, _⟩
    · exact ⟨_, _, _, rfl⟩
    · exact ⟨_, _, _, rfl⟩
  go_enter Try.func45, Try.ntmps45
  go_wp2_with (refine (containsVer H.out hl x hBl hBx).mono ?_; rintro e w1 ⟨rfl, t1⟩)
  go_ret
  exact ⟨rfl, by assumption⟩

end Go.Proofs.Ytapkmgmcccgejaa
