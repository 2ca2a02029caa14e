/- This text shows that SummaryNodes answers true for every depth and every summary: each of its parts is walked once, and both sides come to the same plain function. -/
import Derived.Test.YtjnihfmmmadlhaaSf
import Derived.Test.YtjnihfmmmadlhaaSk
namespace Go.Proofs.Ytjnihfmmmadlhaa
open Go Go.RowKit Go.ChangeShapes Go.WideShapes Go.ChangeAt
theorem own : ownKnob Try.prog.godebug = none := by kernel_rfl
theorem laid : laidOutB Try.prog = true := by kernel_rfl
theorem list7 {ns : List Int} (h : ns.length = 7) : ∃ a b c d e f g, ns = [a, b, c, d, e, f, g] := by
  match ns, h with
  | [a, b, c, d, e, f, g], _ => exact ⟨a, b, c, d, e, f, g, rfl⟩
theorem list5 {ns : List Int} (h : ns.length = 5) : ∃ a b c d e, ns = [a, b, c, d, e] := by
  match ns, h with
  | [a, b, c, d, e], _ => exact ⟨a, b, c, d, e, rfl⟩
set_option maxRecDepth 100000 in
theorem lifted (os : Os) (started : os.Started) (H : Type) (enc : TypeId × Value → H) :
    ReturnsInHanded {} Try.checked os 3 .any (Rows.summaryNodesSpec.pre6 enc Try.prog Try.f3 Rows.summaryNodesRow.domain false) (Rows.summaryNodesSpec.post enc Try.prog Try.f3 false true false false) := by
  refine returnsInHanded_of_change (C := Try.checked) own started (by kernel_rfl) Try.func3
    (ChangeSpec.witness6 (enc := enc) (C := Try.checked) false ⟨#[], #[.int .i64 0, (Sm.mk 0 0 0 0 0 0 0).v], []⟩ 8 (by kernel_rfl) (by kernel_rfl) (by kernel_rfl) (by kernel_rfl)) ?_
  intro W base args ds gs before hval0 hW hcnd _
  have hval : ∀ (j : Nat) t v, Try.f3.params[j]? = some t → args[j]? = some v → Value.okWide Try.prog W .any base t v := hval0
  have hW' := hW
  obtain ⟨p, q, hA0, hV, rfl, hfz, hnd⟩ := hW
  have hA : DataW.TrodAll enc Try.prog W 0 (fun _ => true) true Try.f3.params.toList args.toList ds p := hA0
  rw [Try.params3] at hA hval
  obtain ⟨v0, vs0, d0, ds0, p0, q0, hargs, rfl, rfl, h0, r0⟩ := trodAll_cons hA
  obtain ⟨v1, vs1, d1, ds1, p1, q1, rfl, rfl, rfl, h1, r1⟩ := trodAll_cons r0
  obtain ⟨rfl, rfl, rfl⟩ := trodAll_nil r1
  obtain rfl : args = #[v0, v1] := by cases args; simp_all
  obtain ⟨a0, rfl, rfl, rfl, w0⟩ := open_int Try.underlying3 (hval 0 3 v0 rfl rfl) h0
  obtain ⟨ns, rfl, hlen, hns⟩ := open_flat 7 (by kernel_rfl) (hval 1 24 v1 rfl rfl)
  obtain ⟨b, c, d, e, f, g, h, rfl⟩ := list7 hlen
  have w1 := wf64 w0
  refine (law_nodes a0 ⟨b, c, d, e, f, g, h⟩ w1.1 w1.2 W).mono fun e W' hpv => ?_
  refine law_body laid (par_ok (by kernel_rfl)) rfl rfl Try.underlying4 (fun ds hds => ?_) hW' hpv
  rw [Try.params3] at hds
  match ds, hds with
  | [x, y], _ => exact ⟨rfl, rfl, rfl⟩
theorem over : Rows.summaryNodesRow.holds Try.pinned (OpenSpec.ofChange Rows.summaryNodesSpec) :=
  OpenClaim.holds_of_wide 3 Try.f3 rfl rfl rfl rfl rfl rfl rfl ⟨rfl, rfl, rfl, rfl, rfl⟩ rfl rfl rfl rfl rfl (by kernel_rfl) Try.func3 (by kernel_rfl)
    (of_decide_eq_true (by kernel_rfl)) (by unfold Func.isWrapper; first | (rw [if_pos (by decide +kernel)]; kernel_rfl) | (rw [if_neg (by decide +kernel)]; exact ⟨rfl, rfl⟩))
    (fun os started H enc _ => lifted os started H enc)
theorem summaryNodes_proved : Rows.SummaryNodesSaid := over
#print axioms summaryNodes_proved
end Go.Proofs.Ytjnihfmmmadlhaa
