/- P22.2: a script of too many lines, or bytes, is refused as a whole, and events that are too many; one at the bound is not. -/
import Derived.Test.YtpfjolckhlgodaaDoorSx
import Derived.Test.YtpfjolckhlgodaaDoorSv
import Derived.Test.YtpfjolckhlgodaaDoorCards
import Derived.Test.YtpfjolckhlgodaaDoorTie
import Derived.SevenTiedAt
namespace Go.Proofs.YtpfjolckhlgodaaDoor
open Go Go.RowKit Go.ChangeShapes Go.WideShapes Go.ChangeAt
set_option maxRecDepth 100000 in
theorem scriptBounds_lifted (os : Os) (started : os.Started) (H : Type) (enc : TypeId × Value → H) (F : Stop.Interp) :
    ReturnsInHanded {} Tryd.checked os 8 .any ((OpenSpec.ofChange Rows.scriptBoundsSpec).preRow enc Tryd.prog Tryd.f8 Rows.scriptBoundsRow.domain false Rows.scriptBoundsRow.laid) (((OpenSpec.ofChange Rows.scriptBoundsSpec).at F).post enc Tryd.prog Tryd.f8 false true false false) := by
  refine returnsInHanded_of_row (C := Tryd.checked) (s := OpenSpec.ofChange Rows.scriptBoundsSpec) own started (by kernel_rfl) Tryd.func8
    (ChangeSpec.witness_shaped (enc := enc) (C := Tryd.checked) (os := os) (X := fun w _ => laidMetH Tryd.prog laidL w) false (World.laidAll Tryd.prog os laidL) #[.int .i64 0] 8 (World.laidAll_os _ _ _)
      (World.shaped_of_ZipB (by kernel_rfl) (by kernel_rfl)) (by kernel_rfl) (by kernel_rfl) (by kernel_rfl)
      (by rw [MakeChecks.laidMetH_plain _ _ _ (by kernel_rfl)]; exact laidMet_laidAll _ (by kernel_rfl) (by kernel_rfl))) ?_
  intro W base args ds gs before hval0 hW hcnd _ _ hL hsh _
  have hG : Gl W := gl_of hL hsh
  have hval : ∀ (j : Nat) t v, Tryd.f8.params[j]? = some t → args[j]? = some v → Value.okWide Tryd.prog W .any base t v := hval0
  have hW' := hW
  obtain ⟨p, q, hA0, hV, rfl, hfz, hnd⟩ := hW
  have hA : DataW.TrodAll enc Tryd.prog W 0 (fun _ => true) true Tryd.f8.params.toList args.toList ds p := hA0
  rw [Tryd.params8] at hA hval
  obtain ⟨v0, vs0, d0, ds0, p0, q0, hargs, rfl, rfl, h0, r0⟩ := trodAll_cons hA
  obtain ⟨rfl, rfl, rfl⟩ := trodAll_nil r0
  obtain rfl : args = #[v0] := by cases args; simp_all
  obtain ⟨a0, rfl, rfl, rfl, w0'⟩ := open_int Tryd.underlying3 (hval 0 3 v0 rfl rfl) h0
  refine (scriptBounds_w a0 W hG).mono fun e W' hpv => ?_
  refine law_body (s := Rows.scriptBoundsSpec) laid (par_ok (by kernel_rfl)) rfl rfl Tryd.underlying4 (fun ds hds => ?_) hW' hpv
  rw [Tryd.params8] at hds
  match ds, hds with
  | [y0], _ => exact ⟨rfl, rfl, rfl⟩
theorem scriptBounds_said : Rows.ScriptBoundsSaid :=
  OpenClaim.holds_of_cond 8 Tryd.f8 rfl rfl rfl rfl rfl rfl rfl ⟨rfl, rfl, rfl, rfl, rfl⟩ rfl rfl rfl rfl rfl (by kernel_rfl) Tryd.func8 (by kernel_rfl)
    (of_decide_eq_true (by kernel_rfl)) (by unfold Func.isWrapper; first | (rw [if_pos (by decide +kernel)]; kernel_rfl) | (rw [if_neg (by decide +kernel)]; exact ⟨rfl, rfl⟩))
    (fun os started H enc _ F => by rw [OpenClaim.pre_eq_preRow]; exact scriptBounds_lifted os started H enc F)
theorem scriptBounds_plain (f : FuncId) (fn : Func) (hf : Tryd.pinned.checked.prog.funcNamed "meander/meanderlaw22.ScriptBounds" = some f) (hfn : Tryd.pinned.checked.prog.funcs[f]? = some fn) :
    true = Tryd.pinned.checked.prog.looks [] ∧ ∀ (j : Nat) t, fn.params[j]? = some t → Tryd.pinned.checked.prog.wantsStandIn t = false := by
  obtain rfl : f = 8 := Option.some.inj ((show Tryd.prog.funcNamed "meander/meanderlaw22.ScriptBounds" = some 8 by kernel_rfl).symm.trans hf) |>.symm
  obtain rfl : fn = Tryd.f8 := (Option.some.inj (Tryd.func8.symm.trans hfn)).symm
  refine ⟨by kernel_rfl, fun j t ht => ?_⟩
  rw [Tryd.params8] at ht
  have hm : t ∈ [3] := by simpa using Array.mem_of_getElem? ht
  have hall : ([3].all fun u => !Tryd.prog.wantsStandIn u) = true := by kernel_rfl
  exact (show Tryd.prog.wantsStandIn t = false by simpa using List.all_eq_true.1 hall t hm)
theorem scriptBounds_proved : Rows.ScriptBoundsCardSaid :=
  Claim7.holds_tied_plain_at .later [] _ _ _ _ scriptBounds_said (fun _ h => by cases h) (by kernel_rfl) (fun _ h => by cases h) scriptBounds_row_tie rfl ⟨rfl, rfl⟩ (by kernel_rfl) rfl scriptBounds_plain (by kernel_rfl)
#print axioms scriptBounds_proved
end Go.Proofs.YtpfjolckhlgodaaDoor
