/- P18.3, P18.4: records are cut into as few parts as may be, all full but the last one: for every input. -/
import Derived.Test.YtflmehahkcijcaaRl
import Derived.Test.YtflmehahkcijcaaBo
import Derived.Test.YtflmehahkcijcaaWn
namespace Go.Proofs.Ytflmehahkcijcaa
open Go Go.RowKit Go.ChangeShapes Go.WideShapes Go.ChangeAt
set_option maxRecDepth 100000 in
theorem operParts_lifted (os : Os) (started : os.Started) (H : Type) (enc : TypeId × Value → H) :
    ReturnsInHanded {} Try.checked os 5 .any (Rows.operPartsSpec.pre6 enc Try.prog Try.f5 Rows.operPartsRow.domain false) (Rows.operPartsSpec.post enc Try.prog Try.f5 false true false false) := by
  refine returnsInHanded_of_change (C := Try.checked) own started (by kernel_rfl) Try.func5
    (ChangeSpec.witness6 (enc := enc) (C := Try.checked) false ⟨#[], #[.int .i64 0], []⟩ 8 (by kernel_rfl) (by kernel_rfl) (by kernel_rfl) (by kernel_rfl)) ?_
  intro W base args ds gs before hval0 hW hcnd _
  have hval : ∀ (j : Nat) t v, Try.f5.params[j]? = some t → args[j]? = some v → Value.okWide Try.prog W .any base t v := hval0
  have hW' := hW
  obtain ⟨p, q, hA0, hV, rfl, hfz, hnd⟩ := hW
  have hA : DataW.TrodAll enc Try.prog W 0 (fun _ => true) true Try.f5.params.toList args.toList ds p := hA0
  rw [Try.params5] at hA hval
  obtain ⟨v0, vs0, d0, ds0, p0, q0, hargs, rfl, rfl, h0, r0⟩ := trodAll_cons hA
  obtain ⟨rfl, rfl, rfl⟩ := trodAll_nil r0
  obtain rfl : args = #[v0] := by cases args; simp_all
  obtain ⟨a0, rfl, rfl, rfl, w0'⟩ := open_int Try.underlying3 (hval 0 3 v0 rfl rfl) h0
  have w0 := wf64 w0'
  refine ((operParts_w a0) W [_] ⟨rfl, trivial⟩).mono fun e W' hpv => ?_
  refine law_body laid (par_ok (by kernel_rfl)) rfl rfl Try.underlying4 (fun ds hds => ?_) hW' hpv
  rw [Try.params5] at hds
  match ds, hds with
  | [y0], _ => exact ⟨rfl, rfl, rfl⟩
theorem operParts_over : Rows.operPartsRow.holds Try.pinned (OpenSpec.ofChange Rows.operPartsSpec) :=
  OpenClaim.holds_of_wide 5 Try.f5 rfl rfl rfl rfl rfl rfl rfl ⟨rfl, rfl, rfl, rfl, rfl⟩ rfl rfl rfl rfl rfl (by kernel_rfl) Try.func5 (by kernel_rfl)
    (of_decide_eq_true (by kernel_rfl)) (by unfold Func.isWrapper; first | (rw [if_pos (by decide +kernel)]; kernel_rfl) | (rw [if_neg (by decide +kernel)]; exact ⟨rfl, rfl⟩))
    (fun os started H enc _ => operParts_lifted os started H enc)
theorem operParts_proved : Rows.OperPartsSaid := operParts_over
#print axioms operParts_proved
end Go.Proofs.Ytflmehahkcijcaa
