/- P6.3: of records with unlike keys each stands for itself: the sum, the greatest and the least are their own values, and there is one of each: for every input. -/
import Derived.Test.YtoihhhnloogkiaaCk
import Derived.Test.YtoihhhnloogkiaaCj
namespace Go.Proofs.Ytoihhhnloogkiaa
open Go Go.RowKit Go.ChangeShapes Go.WideShapes Go.ChangeAt
set_option maxRecDepth 100000 in
theorem fnOnes_lifted (os : Os) (started : os.Started) (H : Type) (enc : TypeId × Value → H) :
    ReturnsInHanded {} Try.checked os 10 .any (Rows.fnOnesSpec.pre6 enc Try.prog Try.f10 Rows.fnOnesRow.domain false) (Rows.fnOnesSpec.post enc Try.prog Try.f10 false true false false) := by
  refine returnsInHanded_of_change (C := Try.checked) own started (by kernel_rfl) Try.func10
    (ChangeSpec.witness6 (enc := enc) (C := Try.checked) false ⟨#[], #[.slice none 0 0], []⟩ 8 (by kernel_rfl) (by kernel_rfl) (by kernel_rfl) (by kernel_rfl)) ?_
  intro W base args ds gs before hval0 hW hcnd _
  have hval : ∀ (j : Nat) t v, Try.f10.params[j]? = some t → args[j]? = some v → Value.okWide Try.prog W .any base t v := hval0
  have hW' := hW
  obtain ⟨p, q, hA0, hV, rfl, hfz, hnd⟩ := hW
  have hA : DataW.TrodAll enc Try.prog W 0 (fun _ => true) true Try.f10.params.toList args.toList ds p := hA0
  rw [Try.params10] at hA hval
  obtain ⟨v0, vs0, d0, ds0, p0, q0, hargs, rfl, rfl, h0, r0⟩ := trodAll_cons hA
  obtain ⟨rfl, rfl, rfl⟩ := trodAll_nil r0
  obtain rfl : args = #[v0] := by cases args; simp_all
  obtain ⟨L0, c0, k0⟩ := open_nums (hval 0 31 v0 rfl rfl) h0
  refine ((fnOnes_w L0 c0) W [_] ⟨k0, trivial⟩).mono fun e W' hpv => ?_
  refine law_body laid (par_ok (by kernel_rfl)) rfl rfl Try.underlying4 (fun ds hds => ?_) hW' hpv
  rw [Try.params10] at hds
  match ds, hds with
  | [y0], _ => exact ⟨rfl, rfl, rfl⟩
theorem fnOnes_over : Rows.fnOnesRow.holds Try.pinned (OpenSpec.ofChange Rows.fnOnesSpec) :=
  OpenClaim.holds_of_wide 10 Try.f10 rfl rfl rfl rfl rfl rfl rfl ⟨rfl, rfl, rfl, rfl, rfl⟩ rfl rfl rfl rfl rfl (by kernel_rfl) Try.func10 (by kernel_rfl)
    (of_decide_eq_true (by kernel_rfl)) (by unfold Func.isWrapper; first | (rw [if_pos (by decide +kernel)]; kernel_rfl) | (rw [if_neg (by decide +kernel)]; exact ⟨rfl, rfl⟩))
    (fun os started H enc _ => fnOnes_lifted os started H enc)
theorem fnOnes_proved : Rows.FnOnesSaid := fnOnes_over
#print axioms fnOnes_proved
end Go.Proofs.Ytoihhhnloogkiaa
