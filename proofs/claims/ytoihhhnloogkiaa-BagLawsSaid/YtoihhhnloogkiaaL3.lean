/- P5.2, P5.3: records joined in any order are the same; what was joined and taken away leaves the rest; nothing is less than what it has not: for every input. -/
import Derived.Test.YtoihhhnloogkiaaBq
import Derived.Test.YtoihhhnloogkiaaBo
namespace Go.Proofs.Ytoihhhnloogkiaa
open Go Go.RowKit Go.ChangeShapes Go.WideShapes Go.ChangeAt
set_option maxRecDepth 100000 in
theorem bagLaws_lifted (os : Os) (started : os.Started) (H : Type) (enc : TypeId × Value → H) :
    ReturnsInHanded {} Try.checked os 5 .any (Rows.bagLawsSpec.pre6 enc Try.prog Try.f5 Rows.bagLawsRow.domain false) (Rows.bagLawsSpec.post enc Try.prog Try.f5 false true false false) := by
  refine returnsInHanded_of_change (C := Try.checked) own started (by kernel_rfl) Try.func5
    (ChangeSpec.witness6 (enc := enc) (C := Try.checked) false ⟨#[], #[.slice none 0 0, .slice none 0 0, .slice none 0 0], []⟩ 8 (by kernel_rfl) (by kernel_rfl) (by kernel_rfl) (by kernel_rfl)) ?_
  intro W base args ds gs before hval0 hW hcnd _
  have hval : ∀ (j : Nat) t v, Try.f5.params[j]? = some t → args[j]? = some v → Value.okWide Try.prog W .any base t v := hval0
  have hW' := hW
  obtain ⟨p, q, hA0, hV, rfl, hfz, hnd⟩ := hW
  have hA : DataW.TrodAll enc Try.prog W 0 (fun _ => true) true Try.f5.params.toList args.toList ds p := hA0
  rw [Try.params5] at hA hval
  obtain ⟨v0, vs0, d0, ds0, p0, q0, hargs, rfl, rfl, h0, r0⟩ := trodAll_cons hA
  obtain ⟨v1, vs1, d1, ds1, p1, q1, rfl, rfl, rfl, h1, r1⟩ := trodAll_cons r0
  obtain ⟨v2, vs2, d2, ds2, p2, q2, rfl, rfl, rfl, h2, r2⟩ := trodAll_cons r1
  obtain ⟨rfl, rfl, rfl⟩ := trodAll_nil r2
  obtain rfl : args = #[v0, v1, v2] := by cases args; simp_all
  obtain ⟨L0, c0, k0⟩ := open_recs (hval 0 22 v0 rfl rfl) h0
  obtain ⟨L1, c1, k1⟩ := open_recs (hval 1 22 v1 rfl rfl) h1
  obtain ⟨L2, c2, k2⟩ := open_recs (hval 2 22 v2 rfl rfl) h2
  refine ((bagLaws_w L0 c0 L1 c1 L2 c2) W [_, _, _] ⟨k0, k1, k2, trivial⟩).mono fun e W' hpv => ?_
  refine law_body laid (par_ok (by kernel_rfl)) rfl rfl Try.underlying4 (fun ds hds => ?_) hW' hpv
  rw [Try.params5] at hds
  match ds, hds with
  | [y0, y1, y2], _ => exact ⟨rfl, rfl, rfl⟩
theorem bagLaws_over : Rows.bagLawsRow.holds Try.pinned (OpenSpec.ofChange Rows.bagLawsSpec) :=
  OpenClaim.holds_of_wide 5 Try.f5 rfl rfl rfl rfl rfl rfl rfl ⟨rfl, rfl, rfl, rfl, rfl⟩ rfl rfl rfl rfl rfl (by kernel_rfl) Try.func5 (by kernel_rfl)
    (of_decide_eq_true (by kernel_rfl)) (by unfold Func.isWrapper; first | (rw [if_pos (by decide +kernel)]; kernel_rfl) | (rw [if_neg (by decide +kernel)]; exact ⟨rfl, rfl⟩))
    (fun os started H enc _ => bagLaws_lifted os started H enc)
theorem bagLaws_proved : Rows.BagLawsSaid := bagLaws_over
#print axioms bagLaws_proved
end Go.Proofs.Ytoihhhnloogkiaa
