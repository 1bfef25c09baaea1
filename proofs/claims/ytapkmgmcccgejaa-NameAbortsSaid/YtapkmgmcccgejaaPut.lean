/- Put: what is refused. -/
import Derived.Test.YtapkmgmcccgejaaNamW
namespace Go.Proofs.Ytapkmgmcccgejaa
open Go.RowKit Go.Shelf

/-- Names that are small, and whose versions are such as Put makes. -/
structure NM.Ok (N : NM) (M : Nat) : Prop where
  keys : N.keys.length ≤ M
  len : ∀ s, (N.f s).length ≤ M
  ver : ∀ s v, v ∈ N.f s → Is64 v.xmin ∧ Is64 v.xmax ∧ v.t.cols.length ≤ 6

/-- May a table be put? -/
def putOk (L : LogM) (x : Int) (t : Tab) : Bool := L.state x == 1 && nameOk t.name && goodCols t.cols && decide (1 ≤ t.rel) && decide (t.rel ≤ 100)

def NM.put (N : NM) (L : LogM) (x : Int) (t : Tab) : NM × Int :=
  if putOk L x t = false then (N, 1)
  else if (N.may L x t.name).1 ≠ 0 then (N, (N.may L x t.name).1)
  else if N.at_ L x t.name < 0 then
    if 6 ≤ N.others L x t.name then (N, 3) else (N.set t.name (N.f t.name ++ [⟨x, 0, t⟩]), 0)
  else (N.set t.name (endAt (N.f t.name) (N.at_ L x t.name).toNat x ++ [⟨x, 0, t⟩]), 0)

abbrev Tab.agg (t : Tab) (cv : Value) : Value := .agg #[.string t.name, cv, .int .i64 t.rel]

section
variable {w : World} {lb nb B blk : Nat} {L : LogM} {N : NM} {M : Nat}

set_option maxRecDepth 100000 in
set_option maxHeartbeats 2000000 in
theorem put_arg (hl : LogAt w lb L) (x : Int) (t : Tab) {cv : Value} (hcv : ColsAt w cv t.cols blk) (hnm : t.name.size ≤ maxLen) (hno : putOk L x t = false) :
    Calls Try.prog 10 #[.pointer (some ⟨nb, 0, none⟩), .pointer (some ⟨lb, 0, none⟩), .int .i64 x, t.agg cv] w
      fun e w' => e = .returned (.int .i64 1) ∧ Tur None' w w' := by
  obtain ⟨nm, cols, rel⟩ := t
  have hl' : ∀ w2, Tur None' w w2 → LogAt w2 lb L ∧ ColsAt w2 cv cols blk := fun w2 t => ⟨hl.tur t (fun h => h), hcv.tur t (fun _ h => h)⟩
  have Hl := Lib.hid hl'
  obtain ⟨⟨a, cap, off, rfl, _⟩, _, _⟩ := hcv
  have hr := Run.start w (Obj.cells #[.string nm, .slice a cols.length cap, .int .i64 rel] 32)
  have Hnm := Lib.hid hnm
  unfold putOk at hno
  simp only at hno
  clear hl' hl hnm
  cases h1 : (L.state x == 1)
  · have h1' : (L.state x != 1) = true := by simp only [bne, h1]; rfl
    have H1 := Lib.hid h1'
    clear h1 h1' hno
    go_enter Try.func10, Try.ntmps10
    go_wp2_with (go_at_call 16; refine (state_any (Hl.out _ hr.tur).1 _).mono ?_; rintro e w1 ⟨rfl, t1⟩; have h1' := H1.out; have hr' := hr.step t1; clear hr t1; have hr := hr'; clear hr')
    go_ret
    exact ⟨rfl, hr.tur⟩
  · have h1' : (L.state x != 1) = false := by simp only [bne, h1]; rfl
    have H1 := Lib.hid h1'
    rw [h1] at hno
    clear h1 h1'
    cases h2 : nameOk nm
    · have H2 := Lib.hid h2
      clear h2 hno
      go_enter Try.func10, Try.ntmps10
      go_wp2_with (first | (go_at_call 16; refine (state_any (Hl.out _ hr.tur).1 _).mono ?_; rintro e w1 ⟨rfl, t1⟩; have h1' := H1.out; have hr' := hr.step t1; clear hr t1; have hr := hr'; clear hr'; have hc := hr.cell) | (go_at_call 23; refine (valueName nm _ Hnm.out).mono ?_; rintro e w1 ⟨rfl, rfl⟩; rw [H2.out]))
      go_ret
      exact ⟨rfl, hr.tur⟩
    · rw [h2] at hno
      have H2 := Lib.hid h2
      clear h2
      cases h3 : goodCols cols
      · have H3 := Lib.hid h3
        clear h3 hno
        go_enter Try.func10, Try.ntmps10
        go_wp2_with (first | (go_at_call 16; refine (state_any (Hl.out _ hr.tur).1 _).mono ?_; rintro e w1 ⟨rfl, t1⟩; have h1' := H1.out; have hr' := hr.step t1; clear hr t1; have hr := hr'; clear hr'; have hc := hr.cell) | (go_at_call 23; refine (valueName nm _ Hnm.out).mono ?_; rintro e w1 ⟨rfl, rfl⟩; rw [H2.out]) | (go_at_call 24; refine (goodCols_any (Hl.out _ hr.tur).2).mono ?_; rintro e w1 ⟨rfl, t1⟩; rw [H3.out]; have hr' := hr.step t1; clear hr t1; have hr := hr'; clear hr'; have hc := hr.cell))
        go_ret
        exact ⟨rfl, hr.tur⟩
      · rw [h3] at hno
        have H3 := Lib.hid h3
        clear h3
        simp only [Bool.true_and, Bool.and_eq_false_iff, decide_eq_false_iff_not] at hno
        rcases hno with hno | hno
        · have hno' : rel < 1 := by omega
          clear hno
          go_enter Try.func10, Try.ntmps10
          go_wp2_with (first | (go_at_call 16; refine (state_any (Hl.out _ hr.tur).1 _).mono ?_; rintro e w1 ⟨rfl, t1⟩; have h1' := H1.out; have hr' := hr.step t1; clear hr t1; have hr := hr'; clear hr'; have hc := hr.cell) | (go_at_call 23; refine (valueName nm _ Hnm.out).mono ?_; rintro e w1 ⟨rfl, rfl⟩; rw [H2.out]) | (go_at_call 24; refine (goodCols_any (Hl.out _ hr.tur).2).mono ?_; rintro e w1 ⟨rfl, t1⟩; rw [H3.out]; have hr' := hr.step t1; clear hr t1; have hr := hr'; clear hr'; have hc := hr.cell))
          go_ret
          exact ⟨rfl, hr.tur⟩
        · have hno' : 100 < rel := by omega
          have hno2 : ¬ rel < 1 := by omega
          clear hno
          go_enter Try.func10, Try.ntmps10
          go_wp2_with (first | (go_at_call 16; refine (state_any (Hl.out _ hr.tur).1 _).mono ?_; rintro e w1 ⟨rfl, t1⟩; have h1' := H1.out; have hr' := hr.step t1; clear hr t1; have hr := hr'; clear hr'; have hc := hr.cell) | (go_at_call 23; refine (valueName nm _ Hnm.out).mono ?_; rintro e w1 ⟨rfl, rfl⟩; rw [H2.out]) | (go_at_call 24; refine (goodCols_any (Hl.out _ hr.tur).2).mono ?_; rintro e w1 ⟨rfl, t1⟩; rw [H3.out]; have hr' := hr.step t1; clear hr t1; have hr := hr'; clear hr'; have hc := hr.cell))
          go_ret
          exact ⟨rfl, hr.tur⟩
end

end Go.Proofs.Ytapkmgmcccgejaa
