/- P22.1, P22.2: any events are written as the reference has it: for every input. -/
import Derived.Test.YtpfjolckhlgodaaDoorSx
import Derived.Test.YtpfjolckhlgodaaDoorSs
import Derived.Test.YtpfjolckhlgodaaDoorCards
import Derived.Test.YtpfjolckhlgodaaDoorTie
import Derived.SevenTiedAt
namespace Go.Proofs.YtpfjolckhlgodaaDoor
open Go Go.RowKit Go.ChangeShapes Go.WideShapes Go.ChangeAt
set_option maxRecDepth 100000 in
theorem scriptPrints_lifted (os : Os) (started : os.Started) (H : Type) (enc : TypeId × Value → H) (F : Stop.Interp) :
    ReturnsInHanded {} Tryd.checked os 5 .any ((OpenSpec.ofChange Rows.scriptPrintsSpec).preRow enc Tryd.prog Tryd.f5 Rows.scriptPrintsRow.domain false Rows.scriptPrintsRow.laid) (((OpenSpec.ofChange Rows.scriptPrintsSpec).at F).post enc Tryd.prog Tryd.f5 false true false false) := by
  refine returnsInHanded_of_row (C := Tryd.checked) (s := OpenSpec.ofChange Rows.scriptPrintsSpec) own started (by kernel_rfl) Tryd.func5
    (ChangeSpec.witness_shaped (enc := enc) (C := Tryd.checked) (os := os) (X := fun w _ => laidMetH Tryd.prog laidL w) false (World.laidAll Tryd.prog os laidL) #[.slice none 0 0] 8 (World.laidAll_os _ _ _)
      (World.shaped_of_ZipB (by kernel_rfl) (by kernel_rfl)) (by kernel_rfl) (by kernel_rfl) (by kernel_rfl)
      (by rw [MakeChecks.laidMetH_plain _ _ _ (by kernel_rfl)]; exact laidMet_laidAll _ (by kernel_rfl) (by kernel_rfl))) ?_
  intro W base args ds gs before hval0 hW hcnd _ _ hL hsh _
  have hG : Gl W := gl_of hL hsh
  have hval : ∀ (j : Nat) t v, Tryd.f5.params[j]? = some t → args[j]? = some v → Value.okWide Tryd.prog W .any base t v := hval0
  have hW' := hW
  obtain ⟨p, q, hA0, hV, rfl, hfz, hnd⟩ := hW
  have hA : DataW.TrodAll enc Tryd.prog W 0 (fun _ => true) true Tryd.f5.params.toList args.toList ds p := hA0
  rw [Tryd.params5] at hA hval
  obtain ⟨v0, vs0, d0, ds0, p0, q0, hargs, rfl, rfl, h0, r0⟩ := trodAll_cons hA
  obtain ⟨rfl, rfl, rfl⟩ := trodAll_nil r0
  obtain rfl : args = #[v0] := by cases args; simp_all
  obtain ⟨s0, E0, L0, rfl, k0, b0⟩ := open_evs (hval 0 23 v0 rfl rfl) h0
  refine (scriptPrints_w s0 E0 L0 b0 W hG k0).mono fun e W' hpv => ?_
  refine law_body (s := Rows.scriptPrintsSpec) laid (par_ok (by kernel_rfl)) rfl rfl Tryd.underlying4 (fun ds hds => ?_) hW' hpv
  rw [Tryd.params5] at hds
  match ds, hds with
  | [y0], _ => exact ⟨rfl, rfl, rfl⟩
theorem scriptPrints_said : Rows.ScriptPrintsSaid :=
  OpenClaim.holds_of_cond 5 Tryd.f5 rfl rfl rfl rfl rfl rfl rfl ⟨rfl, rfl, rfl, rfl, rfl⟩ rfl rfl rfl rfl rfl (by kernel_rfl) Tryd.func5 (by kernel_rfl)
    (of_decide_eq_true (by kernel_rfl)) (by unfold Func.isWrapper; first | (rw [if_pos (by decide +kernel)]; kernel_rfl) | (rw [if_neg (by decide +kernel)]; exact ⟨rfl, rfl⟩))
    (fun os started H enc _ F => by rw [OpenClaim.pre_eq_preRow]; exact scriptPrints_lifted os started H enc F)
theorem scriptPrints_plain (f : FuncId) (fn : Func) (hf : Tryd.pinned.checked.prog.funcNamed "meander/meanderlaw22.ScriptPrints" = some f) (hfn : Tryd.pinned.checked.prog.funcs[f]? = some fn) :
    true = Tryd.pinned.checked.prog.looks [] ∧ ∀ (j : Nat) t, fn.params[j]? = some t → Tryd.pinned.checked.prog.wantsStandIn t = false := by
  obtain rfl : f = 5 := Option.some.inj ((show Tryd.prog.funcNamed "meander/meanderlaw22.ScriptPrints" = some 5 by kernel_rfl).symm.trans hf) |>.symm
  obtain rfl : fn = Tryd.f5 := (Option.some.inj (Tryd.func5.symm.trans hfn)).symm
  refine ⟨by kernel_rfl, fun j t ht => ?_⟩
  rw [Tryd.params5] at ht
  have hm : t ∈ [23] := by simpa using Array.mem_of_getElem? ht
  have hall : ([23].all fun u => !Tryd.prog.wantsStandIn u) = true := by kernel_rfl
  exact (show Tryd.prog.wantsStandIn t = false by simpa using List.all_eq_true.1 hall t hm)
theorem scriptPrints_proved : Rows.ScriptPrintsCardSaid :=
  Claim7.holds_tied_plain_at .later [] _ _ _ _ scriptPrints_said (fun _ h => by cases h) (by kernel_rfl) (fun _ h => by cases h) scriptPrints_row_tie rfl ⟨rfl, rfl⟩ (by kernel_rfl) rfl scriptPrints_plain (by kernel_rfl)
#print axioms scriptPrints_proved
end Go.Proofs.YtpfjolckhlgodaaDoor
