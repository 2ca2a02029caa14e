/- P18.2: what a node tells of records does not hang on the order in which they came; of a node that waits for nothing it is nothing: for every input. -/
import Derived.Test.YtflmehahkcijcaaRn
import Derived.Test.YtflmehahkcijcaaBo
import Derived.Test.YtflmehahkcijcaaWn
namespace Go.Proofs.Ytflmehahkcijcaa
open Go Go.RowKit Go.ChangeShapes Go.WideShapes Go.ChangeAt
set_option maxRecDepth 100000 in
theorem operTells_lifted (os : Os) (started : os.Started) (H : Type) (enc : TypeId × Value → H) :
    ReturnsInHanded {} Try.checked os 7 .any (Rows.operTellsSpec.pre6 enc Try.prog Try.f7 Rows.operTellsRow.domain false) (Rows.operTellsSpec.post enc Try.prog Try.f7 false true false false) := by
  refine returnsInHanded_of_change (C := Try.checked) own started (by kernel_rfl) Try.func7
    (ChangeSpec.witness6 (enc := enc) (C := Try.checked) false ⟨#[], #[.agg #[.int .i64 0, .int .i64 0, .int .i64 0, .int .i64 0], .slice none 0 0], []⟩ 8 (by kernel_rfl) (by kernel_rfl) (by kernel_rfl) (by kernel_rfl)) ?_
  intro W base args ds gs before hval0 hW hcnd _
  have hval : ∀ (j : Nat) t v, Try.f7.params[j]? = some t → args[j]? = some v → Value.okWide Try.prog W .any base t v := hval0
  have hW' := hW
  obtain ⟨p, q, hA0, hV, rfl, hfz, hnd⟩ := hW
  have hA : DataW.TrodAll enc Try.prog W 0 (fun _ => true) true Try.f7.params.toList args.toList ds p := hA0
  rw [Try.params7] at hA hval
  obtain ⟨v0, vs0, d0, ds0, p0, q0, hargs, rfl, rfl, h0, r0⟩ := trodAll_cons hA
  obtain ⟨v1, vs1, d1, ds1, p1, q1, rfl, rfl, rfl, h1, r1⟩ := trodAll_cons r0
  obtain ⟨rfl, rfl, rfl⟩ := trodAll_nil r1
  obtain rfl : args = #[v0, v1] := by cases args; simp_all
  obtain ⟨ns0, rfl, hlen0, hns0⟩ := open_flat 4 (by kernel_rfl) (hval 0 23 v0 rfl rfl)
  obtain ⟨x0_0, x0_1, x0_2, x0_3, rfl⟩ := list4 hlen0
  obtain ⟨L1, c1, k1⟩ := open_recs (hval 1 27 v1 rfl rfl) h1
  refine ((operTells_w (Nd.mk x0_0 x0_1 x0_2 x0_3) L1 c1) W [_, _] ⟨rfl, k1, trivial⟩).mono fun e W' hpv => ?_
  refine law_body laid (par_ok (by kernel_rfl)) rfl rfl Try.underlying4 (fun ds hds => ?_) hW' hpv
  rw [Try.params7] at hds
  match ds, hds with
  | [y0, y1], _ => exact ⟨rfl, rfl, rfl⟩
theorem operTells_over : Rows.operTellsRow.holds Try.pinned (OpenSpec.ofChange Rows.operTellsSpec) :=
  OpenClaim.holds_of_wide 7 Try.f7 rfl rfl rfl rfl rfl rfl rfl ⟨rfl, rfl, rfl, rfl, rfl⟩ rfl rfl rfl rfl rfl (by kernel_rfl) Try.func7 (by kernel_rfl)
    (of_decide_eq_true (by kernel_rfl)) (by unfold Func.isWrapper; first | (rw [if_pos (by decide +kernel)]; kernel_rfl) | (rw [if_neg (by decide +kernel)]; exact ⟨rfl, rfl⟩))
    (fun os started H enc _ => operTells_lifted os started H enc)
theorem operTells_proved : Rows.OperTellsSaid := operTells_over
#print axioms operTells_proved
end Go.Proofs.Ytflmehahkcijcaa
