/- PROVED: 'NameStays' (whoever does not write a name sees the same as long as it runs) answers true for every input. The walk of the code lies in the text StaysW, its plain law in Stays. -/
import Derived.Test.YtapkmgmcccgejaaRows
import Derived.Test.YtapkmgmcccgejaaStaysW
import Derived.WalkKit
import Derived.ProofKit
import Derived.OpenShut
namespace Go.Proofs.Ytapkmgmcccgejaa
open Go.ChangeShapes Go.WideShapes Go.ChangeAt Go.RowKit

theorem stays_own : ownKnob Try.prog.godebug = none := by kernel_rfl
theorem stays_laid : laidOutB Try.prog = true := by kernel_rfl

set_option maxRecDepth 100000 in
theorem stays_lifted (os : Os) (started : os.Started) (H : Type) (enc : TypeId × Value → H) :
    ReturnsInHanded {} Try.checked os 5 .any (Rows.nameStaysSpec.pre6 enc Try.prog Try.f5 Rows.nameStaysRow.domain false) (Rows.nameStaysSpec.post enc Try.prog Try.f5 false true false false) := by
  refine returnsInHanded_of_change (C := Try.checked) stays_own started (by kernel_rfl) Try.func5
    (ChangeSpec.witness6 (enc := enc) (C := Try.checked) false ⟨#[], #[.slice none 0 0, .int .u8 0], []⟩ 8 (by kernel_rfl) (by kernel_rfl) (by kernel_rfl) (by kernel_rfl)) ?_
  intro W base args ds gs before hval0 hW hcnd _
  have hval : ∀ (j : Nat) t v, Try.f5.params[j]? = some t → args[j]? = some v → Value.okWide Try.prog W .any base t v := hval0
  have hW' := hW
  obtain ⟨p, q, hA0, hV, rfl, hfz, hnd⟩ := hW
  have hA : DataW.TrodAll enc Try.prog W 0 (fun _ => true) true Try.f5.params.toList args.toList ds p := hA0
  rw [Try.params5] at hA hval
  obtain ⟨v0, vs0, d0, ds0, p0, q0, hargs, rfl, rfl, h0, r0⟩ := trodAll_cons hA
  obtain ⟨v1, vs1, d1, ds1, p1, q1, hargs1, rfl, rfl, h1, r1⟩ := trodAll_cons r0
  obtain ⟨rfl, rfl, rfl⟩ := trodAll_nil r1
  obtain rfl : args = #[v0, v1] := by cases args; simp_all
  obtain ⟨rfl, rfl⟩ := trodVars_none hV
  have ho := okWide_slice Try.underlying38 (hval 0 38 v0 rfl rfl)
  obtain ⟨l, hl⟩ := open_steps ho h0
  obtain ⟨a1, rfl, rfl, rfl, w1⟩ := open_int Try.underlying5 (hval 1 5 v1 rfl rfl) h1
  simp only [Lit.wf, Bool.and_eq_true, decide_eq_true_eq] at w1
  clear hA0 hval0
  simp only [List.append_nil] at hW'
  have hlt : ∀ x ∈ p0, x.block < W.heap.size := fun x hx => by simpa using hW'.lt x (by simpa using hx)
  refine (staysWalk hl w1.1 w1.2).mono fun e W' ⟨he, hg⟩ => ?_
  subst he
  exact ⟨_, rfl, post_of_tur (pa := p0) (pv := []) hW' (fun _ _ _ => (trodAll_cons_mk (shut_bool Try.underlying4 _) trodAll_mk0))
    (fun sp hsp => ⟨p0, [], WideElems.Trod_stays stays_laid (by kernel_rfl) (of_decide_eq_true (by kernel_rfl)) h0 (fun x hx => (Tur.below0 hg).same (hlt x hx)) (fun x hx => hsp x (by simpa using hx)), trodAll_cons_mk (shut_int Try.underlying5 (by simp only [Lit.wf, Bool.and_eq_true, decide_eq_true_eq]; exact w1)) trodAll_mk0, by simp⟩) (fun _ _ => rfl) (by simp)
    hg (ok_one (by kernel_rfl) rfl (okWide_bool_mk Try.underlying4 _))⟩

theorem stays_over : Rows.nameStaysRow.holds Try.pinned (OpenSpec.ofChange Rows.nameStaysSpec) :=
  OpenClaim.holds_of_wide 5 Try.f5 rfl rfl rfl rfl rfl rfl rfl ⟨rfl, rfl, rfl, rfl, rfl⟩ rfl rfl rfl rfl rfl (by kernel_rfl) Try.func5 (by kernel_rfl)
    (of_decide_eq_true (by kernel_rfl)) (by unfold Func.isWrapper; first | (rw [if_pos (by decide +kernel)]; kernel_rfl) | (rw [if_neg (by decide +kernel)]; exact ⟨rfl, rfl⟩))
    (fun os started H enc _ => stays_lifted os started H enc)

/-- THE STATEMENT. -/
theorem nameStays_proved : Rows.NameStaysSaid :=
  stays_over

end Go.Proofs.Ytapkmgmcccgejaa
