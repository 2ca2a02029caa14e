/- P14.4: batches that were laid down are taken as they were; none as one of the other kind: for every input. -/
import Derived.Test.YtkdfdbjcfhmkaaaPp
import Derived.Test.YtkdfdbjcfhmkaaaQh
import Derived.Test.YtkdfdbjcfhmkaaaWn
namespace Go.Proofs.Ytkdfdbjcfhmkaaa
open Go Go.RowKit Go.ChangeShapes Go.WideShapes Go.ChangeAt
set_option maxRecDepth 100000 in
theorem packetBack_lifted (os : Os) (started : os.Started) (H : Type) (enc : TypeId × Value → H) :
    ReturnsInHanded {} Try.checked os 7 .any (Rows.packetBackSpec.pre6 enc Try.prog Try.f7 Rows.packetBackRow.domain false) (Rows.packetBackSpec.post enc Try.prog Try.f7 false true false false) := by
  refine returnsInHanded_of_change (C := Try.checked) own started (by kernel_rfl) Try.func7
    (ChangeSpec.witness6 (enc := enc) (C := Try.checked) false ⟨#[], #[.agg #[.int .i64 0, .int .i64 0, .int .i64 0, .int .i64 0, .int .i64 0, .int .i64 0, .int .i64 0, .slice none 0 0], .slice none 0 0], []⟩ 8 (by kernel_rfl) (by kernel_rfl) (by kernel_rfl) (by kernel_rfl)) ?_
  intro W base args ds gs before hval0 hW hcnd _
  have hval : ∀ (j : Nat) t v, Try.f7.params[j]? = some t → args[j]? = some v → Value.okWide Try.prog W .any base t v := hval0
  have hW' := hW
  obtain ⟨p, q, hA0, hV, rfl, hfz, hnd⟩ := hW
  have hA : DataW.TrodAll enc Try.prog W 0 (fun _ => true) true Try.f7.params.toList args.toList ds p := hA0
  rw [Try.params7] at hA hval
  obtain ⟨v0, vs0, d0, ds0, p0, q0, hargs, rfl, rfl, h0, r0⟩ := trodAll_cons hA
  obtain ⟨v1, vs1, d1, ds1, p1, q1, rfl, rfl, rfl, h1, r1⟩ := trodAll_cons r0
  obtain ⟨rfl, rfl, rfl⟩ := trodAll_nil r1
  obtain rfl : args = #[v0, v1] := by cases args; simp_all
  obtain ⟨p0, q0, t0, R0, ad0, c0, rfl, m0, k0, l0⟩ := open_batch (hval 0 34 v0 rfl rfl) h0
  obtain ⟨L1, c1, ad1, rfl, m1, k1, l1⟩ := open_changes (hval 1 35 v1 rfl rfl) h1
  refine ((packetBack_w p0 q0 t0 ad0 R0.length c0 (R0.take 70) (take_min _ _) l0 k0 ad1 L1.length c1 (L1.take 210) (take_min _ _) l1 k1) W ⟨rds_take Rc.el 70 m0, rds_take Ch.el 210 m1, trivial⟩).mono fun e W' hpv => ?_
  refine law_body laid (par_ok (by kernel_rfl)) rfl rfl Try.underlying4 (fun ds hds => ?_) hW' hpv
  rw [Try.params7] at hds
  match ds, hds with
  | [y0, y1], _ => exact ⟨rfl, rfl, rfl⟩
theorem packetBack_over : Rows.packetBackRow.holds Try.pinned (OpenSpec.ofChange Rows.packetBackSpec) :=
  OpenClaim.holds_of_wide 7 Try.f7 rfl rfl rfl rfl rfl rfl rfl ⟨rfl, rfl, rfl, rfl, rfl⟩ rfl rfl rfl rfl rfl (by kernel_rfl) Try.func7 (by kernel_rfl)
    (of_decide_eq_true (by kernel_rfl)) (by unfold Func.isWrapper; first | (rw [if_pos (by decide +kernel)]; kernel_rfl) | (rw [if_neg (by decide +kernel)]; exact ⟨rfl, rfl⟩))
    (fun os started H enc _ => packetBack_lifted os started H enc)
theorem packetBack_proved : Rows.PacketBackSaid := packetBack_over
#print axioms packetBack_proved
end Go.Proofs.Ytkdfdbjcfhmkaaa
