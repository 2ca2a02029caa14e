/- P18.2: which times any node waits for, and what it tells then, is as the reference says: for every input. -/
import Derived.Test.YtflmehahkcijcaaRt
import Derived.Test.YtflmehahkcijcaaBo
import Derived.Test.YtflmehahkcijcaaWn
namespace Go.Proofs.Ytflmehahkcijcaa
open Go Go.RowKit Go.ChangeShapes Go.WideShapes Go.ChangeAt
set_option maxRecDepth 100000 in
theorem operWaits_lifted (os : Os) (started : os.Started) (H : Type) (enc : TypeId × Value → H) :
    ReturnsInHanded {} Try.checked os 6 .any (Rows.operWaitsSpec.pre6 enc Try.prog Try.f6 Rows.operWaitsRow.domain false) (Rows.operWaitsSpec.post enc Try.prog Try.f6 false true false false) := by
  refine returnsInHanded_of_change (C := Try.checked) own started (by kernel_rfl) Try.func6
    (ChangeSpec.witness6 (enc := enc) (C := Try.checked) false ⟨#[], #[.agg #[.int .i64 0, .int .i64 0, .int .i64 0, .int .i64 0], .agg #[.int .i64 0, .int .i64 0, .int .i64 0, .int .i64 0, .int .i64 0], .slice none 0 0], []⟩ 8 (by kernel_rfl) (by kernel_rfl) (by kernel_rfl) (by kernel_rfl)) ?_
  intro W base args ds gs before hval0 hW hcnd _
  have hval : ∀ (j : Nat) t v, Try.f6.params[j]? = some t → args[j]? = some v → Value.okWide Try.prog W .any base t v := hval0
  have hW' := hW
  obtain ⟨p, q, hA0, hV, rfl, hfz, hnd⟩ := hW
  have hA : DataW.TrodAll enc Try.prog W 0 (fun _ => true) true Try.f6.params.toList args.toList ds p := hA0
  rw [Try.params6] at hA hval
  obtain ⟨v0, vs0, d0, ds0, p0, q0, hargs, rfl, rfl, h0, r0⟩ := trodAll_cons hA
  obtain ⟨v1, vs1, d1, ds1, p1, q1, rfl, rfl, rfl, h1, r1⟩ := trodAll_cons r0
  obtain ⟨v2, vs2, d2, ds2, p2, q2, rfl, rfl, rfl, h2, r2⟩ := trodAll_cons r1
  obtain ⟨rfl, rfl, rfl⟩ := trodAll_nil r2
  obtain rfl : args = #[v0, v1, v2] := by cases args; simp_all
  obtain ⟨ns0, rfl, hlen0, hns0⟩ := open_flat 4 (by kernel_rfl) (hval 0 23 v0 rfl rfl)
  obtain ⟨x0_0, x0_1, x0_2, x0_3, rfl⟩ := list4 hlen0
  obtain ⟨ns1, rfl, hlen1, hns1⟩ := open_flat 5 (by kernel_rfl) (hval 1 26 v1 rfl rfl)
  obtain ⟨x1_0, x1_1, x1_2, x1_3, x1_4, rfl⟩ := list5 hlen1
  obtain ⟨L2, c2, k2⟩ := open_recs (hval 2 27 v2 rfl rfl) h2
  refine ((operWaits_w (Nd.mk x0_0 x0_1 x0_2 x0_3) (Tm.mk x1_0 x1_1 x1_2 x1_3 x1_4) L2 c2) W [_, _, _] ⟨rfl, rfl, k2, trivial⟩).mono fun e W' hpv => ?_
  refine law_body laid (par_ok (by kernel_rfl)) rfl rfl Try.underlying4 (fun ds hds => ?_) hW' hpv
  rw [Try.params6] at hds
  match ds, hds with
  | [y0, y1, y2], _ => exact ⟨rfl, rfl, rfl⟩
theorem operWaits_over : Rows.operWaitsRow.holds Try.pinned (OpenSpec.ofChange Rows.operWaitsSpec) :=
  OpenClaim.holds_of_wide 6 Try.f6 rfl rfl rfl rfl rfl rfl rfl ⟨rfl, rfl, rfl, rfl, rfl⟩ rfl rfl rfl rfl rfl (by kernel_rfl) Try.func6 (by kernel_rfl)
    (of_decide_eq_true (by kernel_rfl)) (by unfold Func.isWrapper; first | (rw [if_pos (by decide +kernel)]; kernel_rfl) | (rw [if_neg (by decide +kernel)]; exact ⟨rfl, rfl⟩))
    (fun os started H enc _ => operWaits_lifted os started H enc)
theorem operWaits_proved : Rows.OperWaitsSaid := operWaits_over
#print axioms operWaits_proved
end Go.Proofs.Ytflmehahkcijcaa
