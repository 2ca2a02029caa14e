/- P2.3, P2.4: a summary that is less makes less of each time, a greater time comes to no less, one that is not less makes more of some time: for every input. -/
import Derived.Test.YtjnihfmmmadlhaaDx
import Derived.Test.YtjnihfmmmadlhaaWn
namespace Go.Proofs.Ytjnihfmmmadlhaa
open Go Go.RowKit Go.ChangeShapes Go.WideShapes Go.ChangeAt
theorem list10 {ns : List Int} (h : ns.length = 10) : ∃ a b c d e f g i j k, ns = [a, b, c, d, e, f, g, i, j, k] := by
  match ns, h with
  | [a, b, c, d, e, f, g, i, j, k], _ => exact ⟨a, b, c, d, e, f, g, i, j, k, rfl⟩
set_option maxRecDepth 100000 in
theorem summaryLess_lifted (os : Os) (started : os.Started) (H : Type) (enc : TypeId × Value → H) :
    ReturnsInHanded {} Try.checked os 8 .any (Rows.summaryLessSpec.pre6 enc Try.prog Try.f8 Rows.summaryLessRow.domain false) (Rows.summaryLessSpec.post enc Try.prog Try.f8 false true false false) := by
  refine returnsInHanded_of_change (C := Try.checked) own started (by kernel_rfl) Try.func8
    (ChangeSpec.witness6 (enc := enc) (C := Try.checked) false ⟨#[], #[.agg #[.int .i64 0, .int .i64 0, .int .i64 0, .int .i64 0, .int .i64 0, .int .i64 0, .int .i64 0], .agg #[.int .i64 0, .int .i64 0, .int .i64 0, .int .i64 0, .int .i64 0, .int .i64 0, .int .i64 0], .agg #[.int .i64 0, .int .i64 0, .int .i64 0, .int .i64 0, .int .i64 0, .int .i64 0, .int .i64 0, .int .i64 0, .int .i64 0, .int .i64 0]], []⟩ 8 (by kernel_rfl) (by kernel_rfl) (by kernel_rfl) (by kernel_rfl)) ?_
  intro W base args ds gs before hval0 hW hcnd _
  have hval : ∀ (j : Nat) t v, Try.f8.params[j]? = some t → args[j]? = some v → Value.okWide Try.prog W .any base t v := hval0
  have hW' := hW
  obtain ⟨p, q, hA0, hV, rfl, hfz, hnd⟩ := hW
  have hA : DataW.TrodAll enc Try.prog W 0 (fun _ => true) true Try.f8.params.toList args.toList ds p := hA0
  rw [Try.params8] at hA hval
  obtain ⟨v0, vs0, d0, ds0, p0, q0, hargs, rfl, rfl, h0, r0⟩ := trodAll_cons hA
  obtain ⟨v1, vs1, d1, ds1, p1, q1, rfl, rfl, rfl, h1, r1⟩ := trodAll_cons r0
  obtain ⟨v2, vs2, d2, ds2, p2, q2, rfl, rfl, rfl, h2, r2⟩ := trodAll_cons r1
  obtain ⟨rfl, rfl, rfl⟩ := trodAll_nil r2
  obtain rfl : args = #[v0, v1, v2] := by cases args; simp_all
  obtain ⟨ns0, rfl, hlen0, hns0⟩ := open_flat 7 (by kernel_rfl) (hval 0 24 v0 rfl rfl)
  obtain ⟨x0_0, x0_1, x0_2, x0_3, x0_4, x0_5, x0_6, rfl⟩ := list7 hlen0
  obtain ⟨ns1, rfl, hlen1, hns1⟩ := open_flat 7 (by kernel_rfl) (hval 1 24 v1 rfl rfl)
  obtain ⟨x1_0, x1_1, x1_2, x1_3, x1_4, x1_5, x1_6, rfl⟩ := list7 hlen1
  obtain ⟨ns2, rfl, hlen2, hns2⟩ := open_flat 10 (by kernel_rfl) (hval 2 39 v2 rfl rfl)
  obtain ⟨x2_0, x2_1, x2_2, x2_3, x2_4, x2_5, x2_6, x2_7, x2_8, x2_9, rfl⟩ := list10 hlen2
  refine ((lessLaw_w (Sm.mk x0_0 x0_1 x0_2 x0_3 x0_4 x0_5 x0_6) (Sm.mk x1_0 x1_1 x1_2 x1_3 x1_4 x1_5 x1_6) (Tm.mk x2_0 x2_1 x2_2 x2_3 x2_4) (Tm.mk x2_5 x2_6 x2_7 x2_8 x2_9)) W [_, _, _] ⟨rfl, rfl, rfl, trivial⟩).mono fun e W' hpv => ?_
  refine law_body laid (par_ok (by kernel_rfl)) rfl rfl Try.underlying4 (fun ds hds => ?_) hW' hpv
  rw [Try.params8] at hds
  match ds, hds with
  | [y0, y1, y2], _ => exact ⟨rfl, rfl, rfl⟩
theorem summaryLess_over : Rows.summaryLessRow.holds Try.pinned (OpenSpec.ofChange Rows.summaryLessSpec) :=
  OpenClaim.holds_of_wide 8 Try.f8 rfl rfl rfl rfl rfl rfl rfl ⟨rfl, rfl, rfl, rfl, rfl⟩ rfl rfl rfl rfl rfl (by kernel_rfl) Try.func8 (by kernel_rfl)
    (of_decide_eq_true (by kernel_rfl)) (by unfold Func.isWrapper; first | (rw [if_pos (by decide +kernel)]; kernel_rfl) | (rw [if_neg (by decide +kernel)]; exact ⟨rfl, rfl⟩))
    (fun os started H enc _ => summaryLess_lifted os started H enc)
theorem summaryLess_proved : Rows.SummaryLessSaid := summaryLess_over
#print axioms summaryLess_proved
end Go.Proofs.Ytjnihfmmmadlhaa
