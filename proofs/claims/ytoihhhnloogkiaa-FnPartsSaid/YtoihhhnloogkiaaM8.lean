/- P6.3: how many there are, the sum, the greatest and the least of two rows' records, key by key, come of those of each row: for every input. -/
import Derived.Test.YtoihhhnloogkiaaCp
import Derived.Test.YtoihhhnloogkiaaBo
namespace Go.Proofs.Ytoihhhnloogkiaa
open Go Go.RowKit Go.ChangeShapes Go.WideShapes Go.ChangeAt
set_option maxRecDepth 100000 in
theorem fnParts_lifted (os : Os) (started : os.Started) (H : Type) (enc : TypeId × Value → H) :
    ReturnsInHanded {} Try.checked os 8 .any (Rows.fnPartsSpec.pre6 enc Try.prog Try.f8 Rows.fnPartsRow.domain false) (Rows.fnPartsSpec.post enc Try.prog Try.f8 false true false false) := by
  refine returnsInHanded_of_change (C := Try.checked) own started (by kernel_rfl) Try.func8
    (ChangeSpec.witness6 (enc := enc) (C := Try.checked) false ⟨#[], #[.slice none 0 0, .slice none 0 0], []⟩ 8 (by kernel_rfl) (by kernel_rfl) (by kernel_rfl) (by kernel_rfl)) ?_
  intro W base args ds gs before hval0 hW hcnd _
  have hval : ∀ (j : Nat) t v, Try.f8.params[j]? = some t → args[j]? = some v → Value.okWide Try.prog W .any base t v := hval0
  have hW' := hW
  obtain ⟨p, q, hA0, hV, rfl, hfz, hnd⟩ := hW
  have hA : DataW.TrodAll enc Try.prog W 0 (fun _ => true) true Try.f8.params.toList args.toList ds p := hA0
  rw [Try.params8] at hA hval
  obtain ⟨v0, vs0, d0, ds0, p0, q0, hargs, rfl, rfl, h0, r0⟩ := trodAll_cons hA
  obtain ⟨v1, vs1, d1, ds1, p1, q1, rfl, rfl, rfl, h1, r1⟩ := trodAll_cons r0
  obtain ⟨rfl, rfl, rfl⟩ := trodAll_nil r1
  obtain rfl : args = #[v0, v1] := by cases args; simp_all
  obtain ⟨L0, c0, k0⟩ := open_recs (hval 0 22 v0 rfl rfl) h0
  obtain ⟨L1, c1, k1⟩ := open_recs (hval 1 22 v1 rfl rfl) h1
  refine ((fnParts_w L0 c0 L1 c1) W [_, _] ⟨k0, k1, trivial⟩).mono fun e W' hpv => ?_
  refine law_body laid (par_ok (by kernel_rfl)) rfl rfl Try.underlying4 (fun ds hds => ?_) hW' hpv
  rw [Try.params8] at hds
  match ds, hds with
  | [y0, y1], _ => exact ⟨rfl, rfl, rfl⟩
theorem fnParts_over : Rows.fnPartsRow.holds Try.pinned (OpenSpec.ofChange Rows.fnPartsSpec) :=
  OpenClaim.holds_of_wide 8 Try.f8 rfl rfl rfl rfl rfl rfl rfl ⟨rfl, rfl, rfl, rfl, rfl⟩ rfl rfl rfl rfl rfl (by kernel_rfl) Try.func8 (by kernel_rfl)
    (of_decide_eq_true (by kernel_rfl)) (by unfold Func.isWrapper; first | (rw [if_pos (by decide +kernel)]; kernel_rfl) | (rw [if_neg (by decide +kernel)]; exact ⟨rfl, rfl⟩))
    (fun os started H enc _ => fnParts_lifted os started H enc)
theorem fnParts_proved : Rows.FnPartsSaid := fnParts_over
#print axioms fnParts_proved
end Go.Proofs.Ytoihhhnloogkiaa
