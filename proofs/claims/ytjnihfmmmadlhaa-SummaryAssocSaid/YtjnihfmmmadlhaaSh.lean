/- The walks of the statements of chapter 2 about three summaries. -/
import Derived.Test.YtjnihfmmmadlhaaSg
import Derived.Test.YtjnihfmmmadlhaaSp
namespace Go.Proofs.Ytjnihfmmmadlhaa
open Go Go.RowKit
set_option linter.unusedSimpArgs false
set_option maxHeartbeats 4000000
set_option linter.unusedVariables false
attribute [local irreducible] JC JL OX OV Kthen Kblock JR
attribute [local irreducible] sameS madeS enterS leaveS feedS Tm.may Sm.may applyT thenS ontoT
theorem law_assoc (a b c : Sm) (w : World) : Calls C.P 7 [a.v, b.v, c.v].toArray w (PV w (.bool true)) := by
  refine calls_v Try.func7 rfl _ Try.ntmps7 rfl ?_
  repeat' (first | (guard_target =~ JL _ _ _ _ _ _ _; first | refine jl_same rfl rfl rfl rfl rfl ?_ | refine jl_p rfl rfl rfl rfl ?_ | refine jl_nil ?_ | refine jl_s rfl rfl rfl ?_ | refine jl_st rfl rfl rfl ?_ | refine jl_n rfl rfl rfl rfl (fun n hn => ?_) | refine jl_x rfl (ox_pvf 11 (fun _ _ => by kernel_rfl) (shown_c) rfl rfl ?_) | refine jl_x rfl (ox_pvf 24 (fun _ _ => by kernel_rfl) (then_c a b) rfl rfl ?_) | refine jl_x rfl (ox_pvf 24 (fun _ _ => by kernel_rfl) (then_c b c) rfl rfl ?_) | refine jl_x rfl (ox_pvf 24 (fun _ _ => by kernel_rfl) (then_c (thenS a b).1 c) rfl rfl ?_) | refine jl_x rfl (ox_pvf 24 (fun _ _ => by kernel_rfl) (then_c a (thenS b c).1) rfl rfl ?_) | ((fail_if_success refine jl_x rfl ?_); refine jl_split rfl rfl rfl (fun hc => ?_) (fun hc => ?_))) | (guard_target =~ JO _ _ _ _ _ _ _; first | refine jo_same rfl rfl rfl rfl rfl rfl ?_ | refine jo_p rfl rfl rfl rfl rfl rfl ?_ | refine JO.nil ?_ | refine JO.fork ?_ ?_ | refine jo_s rfl rfl rfl rfl rfl ?_ | refine jo_k rfl rfl rfl rfl rfl ?_ | refine jo_st rfl rfl rfl rfl rfl ?_ | refine jo_n rfl rfl rfl rfl rfl rfl (fun n hn => ?_) | refine jo_x rfl rfl rfl (ox_pvf 11 (fun _ _ => by kernel_rfl) (shown_c) rfl rfl ?_) | refine jo_x rfl rfl rfl (ox_pvf 24 (fun _ _ => by kernel_rfl) (then_c a b) rfl rfl ?_) | refine jo_x rfl rfl rfl (ox_pvf 24 (fun _ _ => by kernel_rfl) (then_c b c) rfl rfl ?_) | refine jo_x rfl rfl rfl (ox_pvf 24 (fun _ _ => by kernel_rfl) (then_c (thenS a b).1 c) rfl rfl ?_) | refine jo_x rfl rfl rfl (ox_pvf 24 (fun _ _ => by kernel_rfl) (then_c a (thenS b c).1) rfl rfl ?_) | ((fail_if_success refine jo_x rfl rfl rfl ?_); refine jo_split rfl rfl rfl rfl (fun hc => ?_) (fun hc => ?_))) | (guard_target =~ JC _ _ _ _ _ _; first | refine jc_seq ?_ | refine jc_region ?_ | refine jc_drawn (by kernel_rfl) ?_ | refine jc_cond_t rfl ?_ | refine jc_cond_f rfl ?_ | refine jc_cond rfl (fun hc => ?_) (fun hc => ?_) | refine jc_skip ?_ | refine jc_ret ?_ | refine jc_exit ?_ | refine jc_block ?_) | (guard_target =~ Kthen _ _ _ _; first | refine k_then ?_ | refine k_then_r ?_ | refine k_then_e ?_) | (guard_target =~ Kblock _ _ _ _; first | refine k_block_n ?_ | refine k_block_r ?_ | refine k_block_hit ?_ | refine k_block_miss rfl ?_) | (guard_target =~ JR _ _ _ _ _ _ _; refine jr_step ?_))
  all_goals (first | exact fin1 (.inr rfl) rfl (ris rfl) (fin_pv rfl) | refine fin1 (.inr rfl) rfl (ris rfl) (fin_pv (congrArg Value.bool ?_)))
  all_goals (try simp only [eqB_eq, Bool.not_eq_true', Bool.not_eq_false', decide_eq_true_eq, decide_eq_false_iff_not, Bool.not_eq_true, Bool.not_eq_false] at *)
  rw [then_assoc (a := a) (b := b) (c := c) (by assumption) (by assumption) (by assumption) (by assumption)]
  simp
end Go.Proofs.Ytjnihfmmmadlhaa
