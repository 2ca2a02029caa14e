/- P14.4: with a byte turned a batch is none, nor is one that is cut: for every input. -/
import Derived.Test.YtkdfdbjcfhmkaaaPp
import Derived.Test.YtkdfdbjcfhmkaaaQi
import Derived.Test.YtkdfdbjcfhmkaaaWn
namespace Go.Proofs.Ytkdfdbjcfhmkaaa
open Go Go.RowKit Go.ChangeShapes Go.WideShapes Go.ChangeAt
set_option maxRecDepth 100000 in
theorem packetTurned_lifted (os : Os) (started : os.Started) (H : Type) (enc : TypeId × Value → H) :
    ReturnsInHanded {} Try.checked os 8 .any (Rows.packetTurnedSpec.pre6 enc Try.prog Try.f8 Rows.packetTurnedRow.domain false) (Rows.packetTurnedSpec.post enc Try.prog Try.f8 false true false false) := by
  refine returnsInHanded_of_change (C := Try.checked) own started (by kernel_rfl) Try.func8
    (ChangeSpec.witness6 (enc := enc) (C := Try.checked) false ⟨#[], #[.agg #[.int .i64 0, .int .i64 0, .int .i64 0, .int .i64 0, .int .i64 0, .int .i64 0, .int .i64 0, .slice none 0 0], .slice none 0 0, .agg #[.int .i64 0, .int .i64 0]], []⟩ 8 (by kernel_rfl) (by kernel_rfl) (by kernel_rfl) (by kernel_rfl)) ?_
  intro W base args ds gs before hval0 hW hcnd _
  have hval : ∀ (j : Nat) t v, Try.f8.params[j]? = some t → args[j]? = some v → Value.okWide Try.prog W .any base t v := hval0
  have hW' := hW
  obtain ⟨p, q, hA0, hV, rfl, hfz, hnd⟩ := hW
  have hA : DataW.TrodAll enc Try.prog W 0 (fun _ => true) true Try.f8.params.toList args.toList ds p := hA0
  rw [Try.params8] at hA hval
  obtain ⟨v0, vs0, d0, ds0, p0, q0, hargs, rfl, rfl, h0, r0⟩ := trodAll_cons hA
  obtain ⟨v1, vs1, d1, ds1, p1, q1, rfl, rfl, rfl, h1, r1⟩ := trodAll_cons r0
  obtain ⟨v2, vs2, d2, ds2, p2, q2, rfl, rfl, rfl, h2, r2⟩ := trodAll_cons r1
  obtain ⟨rfl, rfl, rfl⟩ := trodAll_nil r2
  obtain rfl : args = #[v0, v1, v2] := by cases args; simp_all
  obtain ⟨p0, q0, t0, R0, ad0, c0, rfl, m0, k0, l0⟩ := open_batch (hval 0 34 v0 rfl rfl) h0
  obtain ⟨L1, c1, ad1, rfl, m1, k1, l1⟩ := open_changes (hval 1 35 v1 rfl rfl) h1
  obtain ⟨ns2, rfl, hlen2, hns2⟩ := open_flat 2 (by kernel_rfl) (hval 2 51 v2 rfl rfl)
  obtain ⟨x2_0, x2_1, rfl⟩ := list2 hlen2
  refine ((packetTurned_w p0 q0 t0 ad0 R0.length c0 (R0.take 70) (take_min _ _) l0 k0 ad1 L1.length c1 (L1.take 210) (take_min _ _) l1 k1 x2_0 x2_1) W ⟨rds_take Rc.el 70 m0, rds_take Ch.el 210 m1, trivial⟩).mono fun e W' hpv => ?_
  refine law_body laid (par_ok (by kernel_rfl)) rfl rfl Try.underlying4 (fun ds hds => ?_) hW' hpv
  rw [Try.params8] at hds
  match ds, hds with
  | [y0, y1, y2], _ => exact ⟨rfl, rfl, rfl⟩
theorem packetTurned_over : Rows.packetTurnedRow.holds Try.pinned (OpenSpec.ofChange Rows.packetTurnedSpec) :=
  OpenClaim.holds_of_wide 8 Try.f8 rfl rfl rfl rfl rfl rfl rfl ⟨rfl, rfl, rfl, rfl, rfl⟩ rfl rfl rfl rfl rfl (by kernel_rfl) Try.func8 (by kernel_rfl)
    (of_decide_eq_true (by kernel_rfl)) (by unfold Func.isWrapper; first | (rw [if_pos (by decide +kernel)]; kernel_rfl) | (rw [if_neg (by decide +kernel)]; exact ⟨rfl, rfl⟩))
    (fun os started H enc _ => packetTurned_lifted os started H enc)
theorem packetTurned_proved : Rows.PacketTurnedSaid := packetTurned_over
#print axioms packetTurned_proved
end Go.Proofs.Ytkdfdbjcfhmkaaa
