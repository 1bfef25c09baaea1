/- PROVED: 'NameAborts' (whatever an aborted one defined and dropped: whoever begins then sees the names that there were, and may write them) answers true for every input. The walk of the code lies in the text AbortsW. -/
import Derived.Test.YtapkmgmcccgejaaRows
import Derived.Test.YtapkmgmcccgejaaAbortsW
import Derived.WalkKit
import Derived.ProofKit
import Derived.OpenShut
namespace Go.Proofs.Ytapkmgmcccgejaa
open Go.ChangeShapes Go.WideShapes Go.ChangeAt Go.RowKit

theorem aborts_own : ownKnob Try.prog.godebug = none := by kernel_rfl
theorem aborts_laid : laidOutB Try.prog = true := by kernel_rfl

set_option maxRecDepth 100000 in
theorem aborts_lifted (os : Os) (started : os.Started) (H : Type) (enc : TypeId × Value → H) :
    ReturnsInHanded {} Try.checked os 6 .any (Rows.nameAbortsSpec.pre6 enc Try.prog Try.f6 Rows.nameAbortsRow.domain false) (Rows.nameAbortsSpec.post enc Try.prog Try.f6 false true false false) := by
  refine returnsInHanded_of_change (C := Try.checked) aborts_own started (by kernel_rfl) Try.func6
    (ChangeSpec.witness6 (enc := enc) (C := Try.checked) false ⟨#[], #[.slice none 0 0], []⟩ 8 (by kernel_rfl) (by kernel_rfl) (by kernel_rfl) (by kernel_rfl)) ?_
  intro W base args ds gs before hval0 hW hcnd _
  have hval : ∀ (j : Nat) t v, Try.f6.params[j]? = some t → args[j]? = some v → Value.okWide Try.prog W .any base t v := hval0
  have hW' := hW
  obtain ⟨p, q, hA0, hV, rfl, hfz, hnd⟩ := hW
  have hA : DataW.TrodAll enc Try.prog W 0 (fun _ => true) true Try.f6.params.toList args.toList ds p := hA0
  rw [Try.params6] at hA hval
  obtain ⟨v0, vs0, d0, ds0, p0, q0, hargs, rfl, rfl, h0, r0⟩ := trodAll_cons hA
  obtain ⟨rfl, rfl, rfl⟩ := trodAll_nil r0
  obtain rfl : args = #[v0] := by cases args; simp_all
  obtain ⟨rfl, rfl⟩ := trodVars_none hV
  have ho := okWide_slice Try.underlying38 (hval 0 38 v0 rfl rfl)
  obtain ⟨l, hl⟩ := open_steps ho h0
  clear hA0 hval0
  simp only [List.append_nil] at hW'
  have hlt : ∀ x ∈ p0, x.block < W.heap.size := fun x hx => by simpa using hW'.lt x (by simpa using hx)
  refine (abortsWalk hl).mono fun e W' ⟨he, hg⟩ => ?_
  subst he
  exact ⟨_, rfl, post_of_tur (pa := p0) (pv := []) hW' (fun _ _ _ => (trodAll_cons_mk (shut_bool Try.underlying4 _) trodAll_mk0))
    (fun sp hsp => ⟨p0, [], WideElems.Trod_stays aborts_laid (by kernel_rfl) (of_decide_eq_true (by kernel_rfl)) h0 (fun x hx => (Tur.below0 hg).same (hlt x hx)) (fun x hx => hsp x (by simpa using hx)), rfl, by simp⟩) (fun _ _ => rfl) (by simp)
    hg (ok_one (by kernel_rfl) rfl (okWide_bool_mk Try.underlying4 _))⟩

theorem aborts_over : Rows.nameAbortsRow.holds Try.pinned (OpenSpec.ofChange Rows.nameAbortsSpec) :=
  OpenClaim.holds_of_wide 6 Try.f6 rfl rfl rfl rfl rfl rfl rfl ⟨rfl, rfl, rfl, rfl, rfl⟩ rfl rfl rfl rfl rfl (by kernel_rfl) Try.func6 (by kernel_rfl)
    (of_decide_eq_true (by kernel_rfl)) (by unfold Func.isWrapper; first | (rw [if_pos (by decide +kernel)]; kernel_rfl) | (rw [if_neg (by decide +kernel)]; exact ⟨rfl, rfl⟩))
    (fun os started H enc _ => aborts_lifted os started H enc)

/-- THE STATEMENT. -/
theorem nameAborts_proved : Rows.NameAbortsSaid :=
  aborts_over

end Go.Proofs.Ytapkmgmcccgejaa
