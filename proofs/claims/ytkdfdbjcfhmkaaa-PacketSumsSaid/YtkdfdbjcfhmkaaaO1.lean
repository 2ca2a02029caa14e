/- P14.1: the sum of bytes tells any byte that is turned, and any two, side by side, that change places: for every input. -/
import Derived.Test.YtkdfdbjcfhmkaaaPe
import Derived.Test.YtkdfdbjcfhmkaaaPf
import Derived.Test.YtkdfdbjcfhmkaaaWn
namespace Go.Proofs.Ytkdfdbjcfhmkaaa
open Go Go.RowKit Go.ChangeShapes Go.WideShapes Go.ChangeAt
set_option maxRecDepth 100000 in
theorem packetSums_lifted (os : Os) (started : os.Started) (H : Type) (enc : TypeId × Value → H) :
    ReturnsInHanded {} Try.checked os 3 .any (Rows.packetSumsSpec.pre6 enc Try.prog Try.f3 Rows.packetSumsRow.domain false) (Rows.packetSumsSpec.post enc Try.prog Try.f3 false true false false) := by
  refine returnsInHanded_of_change (C := Try.checked) own started (by kernel_rfl) Try.func3
    (ChangeSpec.witness6 (enc := enc) (C := Try.checked) false ⟨#[], #[.slice none 0 0, .int .i64 0, .int .u8 0], []⟩ 8 (by kernel_rfl) (by kernel_rfl) (by kernel_rfl) (by kernel_rfl)) ?_
  intro W base args ds gs before hval0 hW hcnd _
  have hval : ∀ (j : Nat) t v, Try.f3.params[j]? = some t → args[j]? = some v → Value.okWide Try.prog W .any base t v := hval0
  have hW' := hW
  obtain ⟨p, q, hA0, hV, rfl, hfz, hnd⟩ := hW
  have hA : DataW.TrodAll enc Try.prog W 0 (fun _ => true) true Try.f3.params.toList args.toList ds p := hA0
  rw [Try.params3] at hA hval
  obtain ⟨v0, vs0, d0, ds0, p0, q0, hargs, rfl, rfl, h0, r0⟩ := trodAll_cons hA
  obtain ⟨v1, vs1, d1, ds1, p1, q1, rfl, rfl, rfl, h1, r1⟩ := trodAll_cons r0
  obtain ⟨v2, vs2, d2, ds2, p2, q2, rfl, rfl, rfl, h2, r2⟩ := trodAll_cons r1
  obtain ⟨rfl, rfl, rfl⟩ := trodAll_nil r2
  obtain rfl : args = #[v0, v1, v2] := by cases args; simp_all
  obtain ⟨L0, c0, k0⟩ := open_bytes (hval 0 22 v0 rfl rfl) h0
  obtain ⟨a1, rfl, rfl, rfl, w1'⟩ := open_int Try.underlying3 (hval 1 3 v1 rfl rfl) h1
  have w1 := wf64 w1'
  obtain ⟨a2, rfl, rfl, rfl, w2'⟩ := open_int Try.underlying5 (hval 2 5 v2 rfl rfl) h2
  have w2 := wf8 w2'
  refine ((packetSums_w L0 c0 k0.2 a1 a2 w2) W [_, _, _] ⟨k0.1, rfl, rfl, trivial⟩).mono fun e W' hpv => ?_
  refine law_body laid (par_ok (by kernel_rfl)) rfl rfl Try.underlying4 (fun ds hds => ?_) hW' hpv
  rw [Try.params3] at hds
  match ds, hds with
  | [y0, y1, y2], _ => exact ⟨rfl, rfl, rfl⟩
theorem packetSums_over : Rows.packetSumsRow.holds Try.pinned (OpenSpec.ofChange Rows.packetSumsSpec) :=
  OpenClaim.holds_of_wide 3 Try.f3 rfl rfl rfl rfl rfl rfl rfl ⟨rfl, rfl, rfl, rfl, rfl⟩ rfl rfl rfl rfl rfl (by kernel_rfl) Try.func3 (by kernel_rfl)
    (of_decide_eq_true (by kernel_rfl)) (by unfold Func.isWrapper; first | (rw [if_pos (by decide +kernel)]; kernel_rfl) | (rw [if_neg (by decide +kernel)]; exact ⟨rfl, rfl⟩))
    (fun os started H enc _ => packetSums_lifted os started H enc)
theorem packetSums_proved : Rows.PacketSumsSaid := packetSums_over
#print axioms packetSums_proved
end Go.Proofs.Ytkdfdbjcfhmkaaa
