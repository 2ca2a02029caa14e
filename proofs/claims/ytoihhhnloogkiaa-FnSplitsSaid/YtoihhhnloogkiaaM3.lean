/- P6.2, P6.3: each record is below a number or not; what is kept by keys are those whose key has the route 0: for every input. -/
import Derived.Test.YtoihhhnloogkiaaCf
import Derived.Test.YtoihhhnloogkiaaBo
namespace Go.Proofs.Ytoihhhnloogkiaa
open Go Go.RowKit Go.ChangeShapes Go.WideShapes Go.ChangeAt
set_option maxRecDepth 100000 in
theorem fnSplits_lifted (os : Os) (started : os.Started) (H : Type) (enc : TypeId × Value → H) :
    ReturnsInHanded {} Try.checked os 15 .any (Rows.fnSplitsSpec.pre6 enc Try.prog Try.f15 Rows.fnSplitsRow.domain false) (Rows.fnSplitsSpec.post enc Try.prog Try.f15 false true false false) := by
  refine returnsInHanded_of_change (C := Try.checked) own started (by kernel_rfl) Try.func15
    (ChangeSpec.witness6 (enc := enc) (C := Try.checked) false ⟨#[], #[.int .i64 0, .agg #[.int .i64 0, .int .i64 0]], []⟩ 8 (by kernel_rfl) (by kernel_rfl) (by kernel_rfl) (by kernel_rfl)) ?_
  intro W base args ds gs before hval0 hW hcnd _
  have hval : ∀ (j : Nat) t v, Try.f15.params[j]? = some t → args[j]? = some v → Value.okWide Try.prog W .any base t v := hval0
  have hW' := hW
  obtain ⟨p, q, hA0, hV, rfl, hfz, hnd⟩ := hW
  have hA : DataW.TrodAll enc Try.prog W 0 (fun _ => true) true Try.f15.params.toList args.toList ds p := hA0
  rw [Try.params15] at hA hval
  obtain ⟨v0, vs0, d0, ds0, p0, q0, hargs, rfl, rfl, h0, r0⟩ := trodAll_cons hA
  obtain ⟨v1, vs1, d1, ds1, p1, q1, rfl, rfl, rfl, h1, r1⟩ := trodAll_cons r0
  obtain ⟨rfl, rfl, rfl⟩ := trodAll_nil r1
  obtain rfl : args = #[v0, v1] := by cases args; simp_all
  obtain ⟨a0, rfl, rfl, rfl, w0'⟩ := open_int Try.underlying3 (hval 0 3 v0 rfl rfl) h0
  have w0 := wf64 w0'
  obtain ⟨ns1, rfl, hlen1, hns1⟩ := open_flat 2 (by kernel_rfl) (hval 1 24 v1 rfl rfl)
  obtain ⟨x1_0, x1_1, rfl⟩ := list2 hlen1
  refine ((fnSplits_w a0 w0.1 w0.2 ⟨x1_0, x1_1⟩) W [_, _] ⟨rfl, rfl, trivial⟩).mono fun e W' hpv => ?_
  refine law_body laid (par_ok (by kernel_rfl)) rfl rfl Try.underlying4 (fun ds hds => ?_) hW' hpv
  rw [Try.params15] at hds
  match ds, hds with
  | [y0, y1], _ => exact ⟨rfl, rfl, rfl⟩
theorem fnSplits_over : Rows.fnSplitsRow.holds Try.pinned (OpenSpec.ofChange Rows.fnSplitsSpec) :=
  OpenClaim.holds_of_wide 15 Try.f15 rfl rfl rfl rfl rfl rfl rfl ⟨rfl, rfl, rfl, rfl, rfl⟩ rfl rfl rfl rfl rfl (by kernel_rfl) Try.func15 (by kernel_rfl)
    (of_decide_eq_true (by kernel_rfl)) (by unfold Func.isWrapper; first | (rw [if_pos (by decide +kernel)]; kernel_rfl) | (rw [if_neg (by decide +kernel)]; exact ⟨rfl, rfl⟩))
    (fun os started H enc _ => fnSplits_lifted os started H enc)
theorem fnSplits_proved : Rows.FnSplitsSaid := fnSplits_over
#print axioms fnSplits_proved
end Go.Proofs.Ytoihhhnloogkiaa
