/- The walk of OperPlain. -/
import Derived.Test.YtflmehahkcijcaaRh
import Derived.Test.YtflmehahkcijcaaRf
namespace Go.Proofs.Ytflmehahkcijcaa
open Go Go.RowKit
set_option linter.unusedSimpArgs false
set_option maxHeartbeats 4000000
set_option linter.unusedVariables false
set_option maxRecDepth 4000
theorem ndOk_10 {nn : Nd} (h : ndOk nn = true) : nn.k = 10 → 1 ≤ nn.d ∧ nn.d ≤ 3 := fun hk => by
  obtain ⟨k, a, b, d⟩ := nn
  dsimp only at hk
  subst hk
  unfold ndOk at h
  split at h
  · cases h
  · rename_i hd
    dsimp only at h hd ⊢
    simp at h
    omega
theorem ndOk_d {nn : Nd} (h : ndOk nn = true) : 0 ≤ nn.d ∧ nn.d ≤ 3 := by
  unfold ndOk at h
  split at h
  · cases h
  · omega
theorem row_same (R : List Rc) (c c' : Nat) (hR : R.length ≤ 1073741824) : Con C.P 14 [.r R.length c (encs Rc.e R), .r R.length c' (encs Rc.e R)] (fun W => PV W (.bool true)) := by
  have := row_c R R c c' (by omega) (by omega)
  rw [decide_eq_true rfl] at this
  exact this
theorem plainR_len (nn : Nd) (t : Tm) (L : List Rc) : (plainR nn t L).length ≤ L.length := by
  unfold plainR
  split
  · exact doesR_len nn L
  · simp
attribute [local irreducible] JC JL OX OV Kthen Kblock JR FendG ndOk Tm.may plainR plainT plainOk fewR
theorem operPlain_w (nn : Nd) (t : Tm) (L : List Rc) (c : Nat) : Con C.P 3 [.x nn.v, .x t.v, .r L.length c (encs Rc.e L)] (fun W => PV W (.bool true)) := by
  have hfl := fewR_len L
  have hf := few_c18 L c
  have hno := rnode_c nn
  have hma := rtsMay_c t
  by_cases hok : ndOk nn = true ∧ t.may = true
  · obtain ⟨h1, h2⟩ := hok
    have hd := ndOk_d h1
    rw [h1] at hno
    rw [h2] at hma
    obtain ⟨F, hF⟩ : ∃ F, fewR L = F := ⟨_, rfl⟩
    rw [hF] at hfl hf
    have hp := fun c => plain_c nn t F c (by omega) (ndOk_10 h1) (by omega)
    have hq := fun c => rplain_c nn t F c (by omega) (ndOk_10 h1) (by omega)
    have hRl := plainR_len nn t F
    obtain ⟨R, hR⟩ : ∃ R, plainR nn t F = R := ⟨_, rfl⟩
    obtain ⟨u, hu⟩ : ∃ R, plainT nn t = R := ⟨_, rfl⟩
    obtain ⟨ok, hok⟩ : ∃ R, plainOk nn t = R := ⟨_, rfl⟩
    simp only [hR, hu, hok] at hp hq hRl
    have r1 := fun c c' => row_same R c c' (by omega)
    have r2 := fun c c' => row_same F c c' (by omega)
    clear hR hu hok hF h1 h2 hd
    refine con_b Try.func3 rfl _ Try.ntmps3 rfl (fun W α hB => ?_)
    have hB := hB; simp only [AsB] at hB; obtain ⟨hn, -⟩ := hB
    repeat' (first | (guard_target =~ JL _ _ _ _ _ _ _ _; first | refine jl_nil ?_ | refine jl_same rfl rfl rfl rfl rfl ?_ | refine jl_v rfl rfl rfl rfl (ov_int rfl rfl (by simp only [inK]; omega)) ?_ | refine jl_p rfl rfl rfl rfl rfl ?_ | refine jl_s rfl rfl rfl ?_ | refine jl_st rfl rfl rfl rfl ?_ | refine jl_n rfl rfl rfl rfl rfl (fun n => rfl) (fun n => ?_) | refine jl_x rfl rfl (ox_pvf 8 (shown_c) rfl rfl rfl rfl (fun _ _ => by kernel_rfl) ?_) | refine jl_x rfl rfl (ox_pvf 9 (hno) rfl rfl rfl rfl (fun _ _ => by kernel_rfl) ?_) | refine jl_x rfl rfl (ox_pvf 10 (hma) rfl rfl rfl rfl (fun _ _ => by kernel_rfl) ?_) | refine jl_x rfl rfl (ox_cons 11 (fun _ _ => by kernel_rfl) (hf) rfl rfl rfl (by (repeat' (first | exact AM.nil | refine AM.x rfl ?_ | refine am_l rfl (by omega) ?_ | refine AM.r rfl (Sub.refl _) (by omega) (by omega) ?_ | refine AM.r rfl (Sub.refl _) (fun _ => rfl) (by omega) ?_ | refine AM.q rfl (Sub.refl _) (by simp) ?_ | refine AM.w rfl (Sub.refl _) (by simp) ?_)); done) rfl rfl (fun _ _ => rfl) (fun cF hcF aF => ?_)) | refine jl_x rfl rfl (ox_con 12 (fun _ _ => by kernel_rfl) (hp _) rfl rfl rfl (by (repeat' (first | exact AM.nil | refine AM.x rfl ?_ | refine am_l rfl (by omega) ?_ | refine AM.r rfl (Sub.refl _) (by omega) (by omega) ?_ | refine AM.r rfl (Sub.refl _) (fun _ => rfl) (by omega) ?_ | refine AM.q rfl (Sub.refl _) (by simp) ?_ | refine AM.w rfl (Sub.refl _) (by simp) ?_)); done) rfl (fun _ => rfl) (fun _ => rfl) (fun x1 hx1 => ?_)) | refine jl_x rfl rfl (ox_con 13 (fun _ _ => by kernel_rfl) (hq _) rfl rfl rfl (by (repeat' (first | exact AM.nil | refine AM.x rfl ?_ | refine am_l rfl (by omega) ?_ | refine AM.r rfl (Sub.refl _) (by omega) (by omega) ?_ | refine AM.r rfl (Sub.refl _) (fun _ => rfl) (by omega) ?_ | refine AM.q rfl (Sub.refl _) (by simp) ?_ | refine AM.w rfl (Sub.refl _) (by simp) ?_)); done) rfl (fun _ => rfl) (fun _ => rfl) (fun x2 hx2 => ?_)) | refine jl_unname 50 4 rfl rfl (by decide) ?_ | refine jl_unname 51 7 rfl rfl (by decide) ?_ | refine jl_unname 51 8 rfl rfl (by decide) ?_ | refine jl_unname 51 6 rfl rfl (by decide) ?_ | refine jl_x rfl rfl (ox_conv 14 (fun _ _ => by kernel_rfl) (r1 _ _) rfl rfl rfl (by (repeat' (first | exact AM.nil | refine AM.x rfl ?_ | refine am_l rfl (by omega) ?_ | refine AM.r rfl (Sub.refl _) (by omega) (by omega) ?_ | refine AM.r rfl (Sub.refl _) (fun _ => rfl) (by omega) ?_ | refine AM.q rfl (Sub.refl _) (by simp) ?_ | refine AM.w rfl (Sub.refl _) (by simp) ?_)); done) rfl ?_) | refine jl_x rfl rfl (ox_conv 14 (fun _ _ => by kernel_rfl) (r2 _ _) rfl rfl rfl (by (repeat' (first | exact AM.nil | refine AM.x rfl ?_ | refine am_l rfl (by omega) ?_ | refine AM.r rfl (Sub.refl _) (by omega) (by omega) ?_ | refine AM.r rfl (Sub.refl _) (fun _ => rfl) (by omega) ?_ | refine AM.q rfl (Sub.refl _) (by simp) ?_ | refine AM.w rfl (Sub.refl _) (by simp) ?_)); done) rfl ?_) | ((fail_if_success (refine jl_gt rfl ?_)); first | (refine jl_split_lt rfl rfl rfl (fun hc => ?_) (fun hc => ?_)) | (refine jl_split_ge rfl rfl rfl (fun hc => ?_) (fun hc => ?_)) | (refine jl_split_eq rfl rfl rfl (fun hc => ?_) (fun hc => ?_)) | (refine jl_split_ne rfl rfl rfl (fun hc => ?_) (fun hc => ?_)) | (refine jl_split rfl rfl rfl (fun hc => ?_) (fun hc => ?_)))) | (guard_target =~ JO _ _ _ _ _ _ _ _; first | refine JO.nil ?_ | refine JO.fork ?_ ?_ | refine jo_same rfl rfl rfl rfl rfl rfl ?_ | refine jo_v rfl rfl rfl rfl rfl (ov_int rfl rfl (by simp only [inK]; omega)) ?_ | refine jo_p rfl rfl rfl rfl rfl rfl ?_ | refine jo_s rfl rfl rfl rfl ?_ | refine jo_st rfl rfl rfl rfl rfl rfl ?_ | refine jo_n rfl rfl rfl rfl rfl rfl (fun n => rfl) (fun n => ?_) | refine jo_x rfl rfl rfl (ox_pvf 8 (shown_c) rfl rfl rfl rfl (fun _ _ => by kernel_rfl) ?_) | refine jo_x rfl rfl rfl (ox_pvf 9 (hno) rfl rfl rfl rfl (fun _ _ => by kernel_rfl) ?_) | refine jo_x rfl rfl rfl (ox_pvf 10 (hma) rfl rfl rfl rfl (fun _ _ => by kernel_rfl) ?_) | refine jo_x rfl rfl rfl (ox_cons 11 (fun _ _ => by kernel_rfl) (hf) rfl rfl rfl (by (repeat' (first | exact AM.nil | refine AM.x rfl ?_ | refine am_l rfl (by omega) ?_ | refine AM.r rfl (Sub.refl _) (by omega) (by omega) ?_ | refine AM.r rfl (Sub.refl _) (fun _ => rfl) (by omega) ?_ | refine AM.q rfl (Sub.refl _) (by simp) ?_ | refine AM.w rfl (Sub.refl _) (by simp) ?_)); done) rfl rfl (fun _ _ => rfl) (fun cF hcF aF => ?_)) | refine jo_x rfl rfl rfl (ox_con 12 (fun _ _ => by kernel_rfl) (hp _) rfl rfl rfl (by (repeat' (first | exact AM.nil | refine AM.x rfl ?_ | refine am_l rfl (by omega) ?_ | refine AM.r rfl (Sub.refl _) (by omega) (by omega) ?_ | refine AM.r rfl (Sub.refl _) (fun _ => rfl) (by omega) ?_ | refine AM.q rfl (Sub.refl _) (by simp) ?_ | refine AM.w rfl (Sub.refl _) (by simp) ?_)); done) rfl (fun _ => rfl) (fun _ => rfl) (fun x1 hx1 => ?_)) | refine jo_x rfl rfl rfl (ox_con 13 (fun _ _ => by kernel_rfl) (hq _) rfl rfl rfl (by (repeat' (first | exact AM.nil | refine AM.x rfl ?_ | refine am_l rfl (by omega) ?_ | refine AM.r rfl (Sub.refl _) (by omega) (by omega) ?_ | refine AM.r rfl (Sub.refl _) (fun _ => rfl) (by omega) ?_ | refine AM.q rfl (Sub.refl _) (by simp) ?_ | refine AM.w rfl (Sub.refl _) (by simp) ?_)); done) rfl (fun _ => rfl) (fun _ => rfl) (fun x2 hx2 => ?_)) | refine jo_x rfl rfl rfl (ox_conv 14 (fun _ _ => by kernel_rfl) (r1 _ _) rfl rfl rfl (by (repeat' (first | exact AM.nil | refine AM.x rfl ?_ | refine am_l rfl (by omega) ?_ | refine AM.r rfl (Sub.refl _) (by omega) (by omega) ?_ | refine AM.r rfl (Sub.refl _) (fun _ => rfl) (by omega) ?_ | refine AM.q rfl (Sub.refl _) (by simp) ?_ | refine AM.w rfl (Sub.refl _) (by simp) ?_)); done) rfl ?_) | refine jo_x rfl rfl rfl (ox_conv 14 (fun _ _ => by kernel_rfl) (r2 _ _) rfl rfl rfl (by (repeat' (first | exact AM.nil | refine AM.x rfl ?_ | refine am_l rfl (by omega) ?_ | refine AM.r rfl (Sub.refl _) (by omega) (by omega) ?_ | refine AM.r rfl (Sub.refl _) (fun _ => rfl) (by omega) ?_ | refine AM.q rfl (Sub.refl _) (by simp) ?_ | refine AM.w rfl (Sub.refl _) (by simp) ?_)); done) rfl ?_) | ((fail_if_success (refine jo_gt rfl rfl ?_)); first | (refine jo_split_lt rfl rfl rfl rfl (fun hc => ?_) (fun hc => ?_)) | (refine jo_split_ge rfl rfl rfl rfl (fun hc => ?_) (fun hc => ?_)) | (refine jo_split_eq rfl rfl rfl rfl (fun hc => ?_) (fun hc => ?_)) | (refine jo_split_ne rfl rfl rfl rfl (fun hc => ?_) (fun hc => ?_)) | (refine jo_split rfl rfl rfl rfl (fun hc => ?_) (fun hc => ?_)))) | (guard_target =~ JC _ _ _ _ _ _ _; first | refine jc_seq ?_ | refine jc_region ?_ | refine jc_draw (id := 8) (.step 1 0 (.step 1 1 (.step 2 2 (.fork (.step 1 3 (.fork (.step 1 4 (.step 2 5 (.step 2 6 (.step 1 7 (.step 1 8 (.step 1 9 (.step 1 10 (.step 2 11 (.step 2 12 .nil))))))))) (.step 1 9 (.step 1 4 (.step 2 5 (.step 2 6 (.step 1 7 (.step 1 8 (.step 1 10 (.step 2 11 (.step 2 12 .nil))))))))))) (.step 1 9 (.step 1 3 (.step 1 4 (.step 2 5 (.step 2 6 (.step 1 7 (.step 1 8 (.step 1 10 (.step 2 11 (.step 2 12 .nil)))))))))))))) (by kernel_rfl) rfl ?_ | refine jc_drawn (by kernel_rfl) rfl ?_ | refine jc_cond_t rfl ?_ | refine jc_cond_f rfl ?_ | refine jc_cond_lt rfl (fun hc => ?_) (fun hc => ?_) | refine jc_cond_ge rfl (fun hc => ?_) (fun hc => ?_) | refine jc_cond_eq rfl (fun hc => ?_) (fun hc => ?_) | refine jc_cond_ne rfl (fun hc => ?_) (fun hc => ?_) | refine jc_cond rfl (fun hc => ?_) (fun hc => ?_) | refine jc_skip ?_ | refine jc_ret ?_ | refine jc_exit ?_ | refine jc_block ?_) | (guard_target =~ Kthen _ _ _ _; first | refine k_then ?_ | refine k_then_r ?_ | refine k_then_e ?_) | (guard_target =~ Kblock _ _ _ _; first | refine k_block_n ?_ | refine k_block_r ?_ | refine k_block_hit ?_ | refine k_block_miss rfl ?_) | (guard_target =~ JR _ _ _ _ _ _ _ _; refine jr_step ?_))
    all_goals exact fin1 (.inr rfl) rfl (ris rfl) (fin_pv rfl)
  · obtain ⟨b1, hb1⟩ : ∃ b, ndOk nn = b := ⟨_, rfl⟩
    obtain ⟨b2, hb2⟩ : ∃ b, t.may = b := ⟨_, rfl⟩
    rw [hb1] at hno hok
    rw [hb2] at hma hok
    cases b1 <;> cases b2 <;> first | (exfalso; exact hok ⟨rfl, rfl⟩) | skip
    all_goals
      refine con_b Try.func3 rfl _ Try.ntmps3 rfl (fun W α hB => ?_)
      have hB := hB; simp only [AsB] at hB; obtain ⟨hn, -⟩ := hB
      repeat' (first | (guard_target =~ JL _ _ _ _ _ _ _ _; first | refine jl_nil ?_ | refine jl_same rfl rfl rfl rfl rfl ?_ | refine jl_v rfl rfl rfl rfl (ov_int rfl rfl (by simp only [inK]; omega)) ?_ | refine jl_p rfl rfl rfl rfl rfl ?_ | refine jl_s rfl rfl rfl ?_ | refine jl_st rfl rfl rfl rfl ?_ | refine jl_n rfl rfl rfl rfl rfl (fun n => rfl) (fun n => ?_) | refine jl_x rfl rfl (ox_pvf 8 (shown_c) rfl rfl rfl rfl (fun _ _ => by kernel_rfl) ?_) | refine jl_x rfl rfl (ox_pvf 9 (hno) rfl rfl rfl rfl (fun _ _ => by kernel_rfl) ?_) | refine jl_x rfl rfl (ox_pvf 10 (hma) rfl rfl rfl rfl (fun _ _ => by kernel_rfl) ?_) | ((fail_if_success (refine jl_gt rfl ?_)); first | (refine jl_split_lt rfl rfl rfl (fun hc => ?_) (fun hc => ?_)) | (refine jl_split_ge rfl rfl rfl (fun hc => ?_) (fun hc => ?_)) | (refine jl_split_eq rfl rfl rfl (fun hc => ?_) (fun hc => ?_)) | (refine jl_split_ne rfl rfl rfl (fun hc => ?_) (fun hc => ?_)) | (refine jl_split rfl rfl rfl (fun hc => ?_) (fun hc => ?_)))) | (guard_target =~ JO _ _ _ _ _ _ _ _; first | refine JO.nil ?_ | refine JO.fork ?_ ?_ | refine jo_same rfl rfl rfl rfl rfl rfl ?_ | refine jo_v rfl rfl rfl rfl rfl (ov_int rfl rfl (by simp only [inK]; omega)) ?_ | refine jo_p rfl rfl rfl rfl rfl rfl ?_ | refine jo_s rfl rfl rfl rfl ?_ | refine jo_st rfl rfl rfl rfl rfl rfl ?_ | refine jo_n rfl rfl rfl rfl rfl rfl (fun n => rfl) (fun n => ?_) | refine jo_x rfl rfl rfl (ox_pvf 8 (shown_c) rfl rfl rfl rfl (fun _ _ => by kernel_rfl) ?_) | refine jo_x rfl rfl rfl (ox_pvf 9 (hno) rfl rfl rfl rfl (fun _ _ => by kernel_rfl) ?_) | refine jo_x rfl rfl rfl (ox_pvf 10 (hma) rfl rfl rfl rfl (fun _ _ => by kernel_rfl) ?_) | ((fail_if_success (refine jo_gt rfl rfl ?_)); first | (refine jo_split_lt rfl rfl rfl rfl (fun hc => ?_) (fun hc => ?_)) | (refine jo_split_ge rfl rfl rfl rfl (fun hc => ?_) (fun hc => ?_)) | (refine jo_split_eq rfl rfl rfl rfl (fun hc => ?_) (fun hc => ?_)) | (refine jo_split_ne rfl rfl rfl rfl (fun hc => ?_) (fun hc => ?_)) | (refine jo_split rfl rfl rfl rfl (fun hc => ?_) (fun hc => ?_)))) | (guard_target =~ JC _ _ _ _ _ _ _; first | refine jc_seq ?_ | refine jc_region ?_ | refine jc_draw (id := 8) (.step 1 0 (.step 1 1 (.step 2 2 (.fork (.step 1 3 (.fork (.step 1 4 (.step 2 5 (.step 2 6 (.step 1 7 (.step 1 8 (.step 1 9 (.step 1 10 (.step 2 11 (.step 2 12 .nil))))))))) (.step 1 9 (.step 1 4 (.step 2 5 (.step 2 6 (.step 1 7 (.step 1 8 (.step 1 10 (.step 2 11 (.step 2 12 .nil))))))))))) (.step 1 9 (.step 1 3 (.step 1 4 (.step 2 5 (.step 2 6 (.step 1 7 (.step 1 8 (.step 1 10 (.step 2 11 (.step 2 12 .nil)))))))))))))) (by kernel_rfl) rfl ?_ | refine jc_drawn (by kernel_rfl) rfl ?_ | refine jc_cond_t rfl ?_ | refine jc_cond_f rfl ?_ | refine jc_cond_lt rfl (fun hc => ?_) (fun hc => ?_) | refine jc_cond_ge rfl (fun hc => ?_) (fun hc => ?_) | refine jc_cond_eq rfl (fun hc => ?_) (fun hc => ?_) | refine jc_cond_ne rfl (fun hc => ?_) (fun hc => ?_) | refine jc_cond rfl (fun hc => ?_) (fun hc => ?_) | refine jc_skip ?_ | refine jc_ret ?_ | refine jc_exit ?_ | refine jc_block ?_) | (guard_target =~ Kthen _ _ _ _; first | refine k_then ?_ | refine k_then_r ?_ | refine k_then_e ?_) | (guard_target =~ Kblock _ _ _ _; first | refine k_block_n ?_ | refine k_block_r ?_ | refine k_block_hit ?_ | refine k_block_miss rfl ?_) | (guard_target =~ JR _ _ _ _ _ _ _ _; refine jr_step ?_))
      exact fin1 (.inr rfl) rfl (ris rfl) (fin_pv rfl)
end Go.Proofs.Ytflmehahkcijcaa
