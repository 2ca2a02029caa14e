/- What a node makes of records has its output's depth and is no more than came: plain laws, and the walk of OperDepth. -/
import Derived.Test.YtflmehahkcijcaaRi
namespace Go.Proofs.Ytflmehahkcijcaa
open Go Go.RowKit
set_option linter.unusedSimpArgs false
set_option maxHeartbeats 4000000
set_option linter.unusedVariables false
set_option maxRecDepth 4000
theorem rc_may {r : Rc} : r.may = true ↔ -1099511627776 ≤ r.k ∧ r.k ≤ 1099511627776 ∧ -1099511627776 ≤ r.v ∧ r.v ≤ 1099511627776 := by
  simp [Rc.may, within]
  omega
theorem mapv_may {a b : Int} {r : Rc} (h : r.may = true) : (mapv a b r).may = true := by
  have hr := rc_may.1 h
  unfold mapv
  split
  · exact h
  · rename_i hm
    have hm : mayMap a b = true := by simpa using hm
    simp only [mayMap, smallv, Bool.and_eq_true, Bool.or_eq_true, decide_eq_true_eq] at hm
    have hh : ∀ x, -1099511627776 ≤ heldv x ∧ heldv x ≤ 1099511627776 := fun x => by unfold heldv; omega
    split
    · have := hh (w64 (r.v + b)); exact rc_may.2 ⟨hr.1, hr.2.1, this.1, this.2⟩
    · split
      · have := hh (w64 (r.v * b)); exact rc_may.2 ⟨hr.1, hr.2.1, this.1, this.2⟩
      · split
        · have hb : 1 ≤ b := by omega
          have ht := tmod_lt (x := r.v) hb
          have hmv : 0 ≤ modv r.v b ∧ modv r.v b < b := by
            unfold modv
            split <;> omega
          exact rc_may.2 ⟨by dsimp only; omega, by dsimp only; omega, hr.2.2.1, hr.2.2.2⟩
        · split
          · exact rc_may.2 ⟨hr.2.2.1, hr.2.2.2, hr.1, hr.2.1⟩
          · exact rc_may.2 ⟨hr.1, hr.2.1, by dsimp only; omega, by dsimp only; omega⟩
theorem doesR_may {nn : Nd} {L : List Rc} (h : ∀ r ∈ L, r.may = true) : ∀ r ∈ doesR nn L, r.may = true := by
  unfold doesR
  split
  · intro r hr
    obtain ⟨q, hq, rfl⟩ := List.mem_map.1 hr
    exact mapv_may (h q hq)
  · split
    · exact fun r hr => h r (List.mem_filter.1 hr).1
    · exact h
theorem doesR_eq {nn : Nd} {L : List Rc} (h : nn.k ≠ 3) : (doesR nn L).length = L.length := by
  unfold doesR
  split
  · simp
  · rfl
theorem w64_small {x : Int} (h : -100 ≤ x ∧ x ≤ 100) : w64 x = x := i64w _ (by omega) (by omega)
theorem inner_td {nn : Nd} (h : ndOk nn = true) (hk : isThr nn) : (innerS nn).t = nn.d ∧ (innerS nn).e = 0 := by
  obtain ⟨k, a, b, d⟩ := nn
  have hd := ndOk_d h
  have h8 : k = 8 → 0 < d := fun e => by
    subst e
    unfold ndOk at h
    split at h
    · cases h
    · simp at h; exact h.2
  have h9 : k = 9 → d < 3 := fun e => by
    subst e
    unfold ndOk at h
    split at h
    · cases h
    · simp at h; exact h.2
  have hk : k = 2 ∨ k = 3 ∨ k = 4 ∨ k = 5 ∨ k = 8 ∨ k = 9 ∨ k = 10 := hk
  dsimp only at hd ⊢
  have h1 : w64 (d - 1) = d - 1 := w64_small (by omega)
  have h2 : w64 (d + 1) = d + 1 := w64_small (by omega)
  unfold innerS inDepth
  dsimp only
  by_cases e8 : k = 8
  · have := h8 e8
    rw [if_pos e8, if_pos e8, h1]
    unfold enterS madeS
    rw [if_neg (by omega), if_neg (by omega)]
    exact ⟨by dsimp only; omega, rfl⟩
  rw [if_neg e8, if_neg e8]
  by_cases e9 : k = 9
  · have := h9 e9
    rw [if_pos e9, if_pos e9, h2]
    unfold leaveS madeS
    rw [if_neg (by omega), if_neg (by omega)]
    exact ⟨by dsimp only; omega, rfl⟩
  rw [if_neg e9]
  by_cases e10 : k = 10
  · rw [if_pos e10]
    unfold feedS
    rw [if_neg (by omega)]
    exact ⟨rfl, rfl⟩
  rw [if_neg e10, if_pos (by omega)]
  unfold sameS madeS
  rw [if_neg (by omega)]
  exact ⟨rfl, rfl⟩
theorem plainT_law {nn : Nd} {t : Tm} (h : ndOk nn = true) (hok : plainOk nn t = true) : (plainT nn t).may = true ∧ (plainT nn t).d = nn.d ∧ (plainT nn t).e = t.e := by
  unfold plainT
  rw [if_pos hok]
  unfold plainOk at hok
  simp only [Bool.and_eq_true, decide_eq_true_eq] at hok
  obtain ⟨hk, he, _⟩ := hok
  obtain ⟨h1, h2⟩ := inner_td h hk
  unfold applyT at he ⊢
  split
  · rename_i hc
    rw [if_pos hc] at he
    split
    · rename_i hm
      refine ⟨hm, ?_, ?_⟩
      · show (innerS nn).t = _
        exact h1
      · show (innerS nn).e + t.e = _
        rw [h2]; omega
    · rename_i hm
      rw [if_neg hm] at he
      cases he
  · rename_i hc
    rw [if_neg hc] at he
    cases he
attribute [local irreducible] JC JL OX OV Kthen Kblock JR FendG ndOk Tm.may plainR plainT plainOk fewR Rc.may
theorem operDepth_w (nn : Nd) (t : Tm) (L : List Rc) (c : Nat) : Con C.P 4 [.x nn.v, .x t.v, .r L.length c (encs Rc.e L)] (fun W => PV W (.bool true)) := by
  have hfl := fewR_len L
  have hf := few_c18 L c
  have hno := rnode_c nn
  have hma := rtsMay_c t
  by_cases hok : ndOk nn = true ∧ t.may = true
  · obtain ⟨h1, h2⟩ := hok
    have hd := ndOk_d h1
    have hfm := fewR_may L
    rw [h1] at hno
    rw [h2] at hma
    obtain ⟨F, hF⟩ : ∃ F, fewR L = F := ⟨_, rfl⟩
    rw [hF] at hfl hf hfm
    have hp := fun c => plain_c nn t F c (by omega) (ndOk_10 h1) (by omega)
    have hRl := plainR_len nn t F
    have hlaw : plainOk nn t = true → ((plainT nn t).may = true ∧ (plainT nn t).d = nn.d ∧ (plainT nn t).e = t.e) ∧ (∀ r ∈ plainR nn t F, r.may = true) ∧ (nn.k ≠ 3 → (plainR nn t F).length = F.length) := fun h => by
      refine ⟨plainT_law h1 h, ?_, ?_⟩
      · unfold plainR; rw [if_pos h]; exact doesR_may hfm
      · intro hk; unfold plainR; rw [if_pos h]; exact doesR_eq hk
    have hno2 : plainOk nn t = false → plainR nn t F = [] ∧ plainT nn t = Tm.zero := fun h => by
      unfold plainR plainT; rw [h]; exact ⟨rfl, rfl⟩
    obtain ⟨R, hR⟩ : ∃ R, plainR nn t F = R := ⟨_, rfl⟩
    obtain ⟨u, hu⟩ : ∃ R, plainT nn t = R := ⟨_, rfl⟩
    obtain ⟨ok, hok⟩ : ∃ R, plainOk nn t = R := ⟨_, rfl⟩
    simp only [hR, hu, hok] at hp hRl hlaw hno2
    clear hR hu hok hF h1 h2 hd hfm
    cases ok with
    | false =>
      obtain ⟨e1, e2⟩ := hno2 rfl
      subst e1; subst e2
      refine con_b Try.func4 rfl _ Try.ntmps4 rfl (fun W α hB => ?_)
      have hB := hB; simp only [AsB] at hB; obtain ⟨hn, -⟩ := hB
      repeat' (first | (guard_target =~ JL _ _ _ _ _ _ _ _; first | refine jl_nil ?_ | refine jl_same rfl rfl rfl rfl rfl ?_ | refine jl_v rfl rfl rfl rfl (ov_int rfl rfl (by simp only [inK]; omega)) ?_ | refine jl_p rfl rfl rfl rfl rfl ?_ | refine jl_s rfl rfl rfl ?_ | refine jl_st rfl rfl rfl rfl ?_ | refine jl_n rfl rfl rfl rfl rfl (fun n => rfl) (fun n => ?_) | refine jl_x rfl rfl (ox_pvf 8 (shown_c) rfl rfl rfl rfl (fun _ _ => by kernel_rfl) ?_) | refine jl_x rfl rfl (ox_pvf 9 (hno) rfl rfl rfl rfl (fun _ _ => by kernel_rfl) ?_) | refine jl_x rfl rfl (ox_pvf 10 (hma) rfl rfl rfl rfl (fun _ _ => by kernel_rfl) ?_) | refine jl_x rfl rfl (ox_cons 11 (fun _ _ => by kernel_rfl) (hf) rfl rfl rfl (by (repeat' (first | exact AM.nil | refine AM.x rfl ?_ | refine am_l rfl (by omega) ?_ | refine AM.r rfl (Sub.refl _) (by omega) (by omega) ?_ | refine AM.r rfl (Sub.refl _) (fun _ => rfl) (by omega) ?_ | refine AM.q rfl (Sub.refl _) (by simp) ?_ | refine AM.w rfl (Sub.refl _) (by simp) ?_)); done) rfl rfl (fun _ _ => rfl) (fun cF hcF aF => ?_)) | refine jl_x rfl rfl (ox_con 12 (fun _ _ => by kernel_rfl) (hp _) rfl rfl rfl (by (repeat' (first | exact AM.nil | refine AM.x rfl ?_ | refine am_l rfl (by omega) ?_ | refine AM.r rfl (Sub.refl _) (by omega) (by omega) ?_ | refine AM.r rfl (Sub.refl _) (fun _ => rfl) (by omega) ?_ | refine AM.q rfl (Sub.refl _) (by simp) ?_ | refine AM.w rfl (Sub.refl _) (by simp) ?_)); done) rfl (fun _ => rfl) (fun _ => rfl) (fun x1 hx1 => ?_)) | ((fail_if_success (refine jl_gt rfl ?_)); first | (refine jl_split_lt rfl rfl rfl (fun hc => ?_) (fun hc => ?_)) | (refine jl_split_ge rfl rfl rfl (fun hc => ?_) (fun hc => ?_)) | (refine jl_split_eq rfl rfl rfl (fun hc => ?_) (fun hc => ?_)) | (refine jl_split_ne rfl rfl rfl (fun hc => ?_) (fun hc => ?_)) | (refine jl_split rfl rfl rfl (fun hc => ?_) (fun hc => ?_)))) | (guard_target =~ JO _ _ _ _ _ _ _ _; first | refine JO.nil ?_ | refine JO.fork ?_ ?_ | refine jo_same rfl rfl rfl rfl rfl rfl ?_ | refine jo_v rfl rfl rfl rfl rfl (ov_int rfl rfl (by simp only [inK]; omega)) ?_ | refine jo_p rfl rfl rfl rfl rfl rfl ?_ | refine jo_s rfl rfl rfl rfl ?_ | refine jo_st rfl rfl rfl rfl rfl rfl ?_ | refine jo_n rfl rfl rfl rfl rfl rfl (fun n => rfl) (fun n => ?_) | refine jo_x rfl rfl rfl (ox_pvf 8 (shown_c) rfl rfl rfl rfl (fun _ _ => by kernel_rfl) ?_) | refine jo_x rfl rfl rfl (ox_pvf 9 (hno) rfl rfl rfl rfl (fun _ _ => by kernel_rfl) ?_) | refine jo_x rfl rfl rfl (ox_pvf 10 (hma) rfl rfl rfl rfl (fun _ _ => by kernel_rfl) ?_) | refine jo_x rfl rfl rfl (ox_cons 11 (fun _ _ => by kernel_rfl) (hf) rfl rfl rfl (by (repeat' (first | exact AM.nil | refine AM.x rfl ?_ | refine am_l rfl (by omega) ?_ | refine AM.r rfl (Sub.refl _) (by omega) (by omega) ?_ | refine AM.r rfl (Sub.refl _) (fun _ => rfl) (by omega) ?_ | refine AM.q rfl (Sub.refl _) (by simp) ?_ | refine AM.w rfl (Sub.refl _) (by simp) ?_)); done) rfl rfl (fun _ _ => rfl) (fun cF hcF aF => ?_)) | refine jo_x rfl rfl rfl (ox_con 12 (fun _ _ => by kernel_rfl) (hp _) rfl rfl rfl (by (repeat' (first | exact AM.nil | refine AM.x rfl ?_ | refine am_l rfl (by omega) ?_ | refine AM.r rfl (Sub.refl _) (by omega) (by omega) ?_ | refine AM.r rfl (Sub.refl _) (fun _ => rfl) (by omega) ?_ | refine AM.q rfl (Sub.refl _) (by simp) ?_ | refine AM.w rfl (Sub.refl _) (by simp) ?_)); done) rfl (fun _ => rfl) (fun _ => rfl) (fun x1 hx1 => ?_)) | ((fail_if_success (refine jo_gt rfl rfl ?_)); first | (refine jo_split_lt rfl rfl rfl rfl (fun hc => ?_) (fun hc => ?_)) | (refine jo_split_ge rfl rfl rfl rfl (fun hc => ?_) (fun hc => ?_)) | (refine jo_split_eq rfl rfl rfl rfl (fun hc => ?_) (fun hc => ?_)) | (refine jo_split_ne rfl rfl rfl rfl (fun hc => ?_) (fun hc => ?_)) | (refine jo_split rfl rfl rfl rfl (fun hc => ?_) (fun hc => ?_)))) | (guard_target =~ JC _ _ _ _ _ _ _; first | refine jc_seq ?_ | refine jc_region ?_ | refine jc_drawn (by kernel_rfl) rfl ?_ | refine jc_cond_t rfl ?_ | refine jc_cond_f rfl ?_ | refine jc_cond_lt rfl (fun hc => ?_) (fun hc => ?_) | refine jc_cond_ge rfl (fun hc => ?_) (fun hc => ?_) | refine jc_cond_eq rfl (fun hc => ?_) (fun hc => ?_) | refine jc_cond_ne rfl (fun hc => ?_) (fun hc => ?_) | refine jc_cond rfl (fun hc => ?_) (fun hc => ?_) | refine jc_skip ?_ | refine jc_ret ?_ | refine jc_exit ?_ | refine jc_block ?_) | (guard_target =~ Kthen _ _ _ _; first | refine k_then ?_ | refine k_then_r ?_ | refine k_then_e ?_) | (guard_target =~ Kblock _ _ _ _; first | refine k_block_n ?_ | refine k_block_r ?_ | refine k_block_hit ?_ | refine k_block_miss rfl ?_) | (guard_target =~ JR _ _ _ _ _ _ _ _; refine jr_step ?_))
      all_goals first | exact fin1 (.inr rfl) rfl (ris rfl) (fin_pv rfl) | trace_state
    | true =>
      obtain ⟨⟨g1, g2, g3⟩, g4, g5⟩ := hlaw rfl
      have hmu := rtsMay_c u
      rw [g1] at hmu
      clear hno2 hlaw g1
      obtain ⟨nk, na, nb, nd⟩ := nn
      obtain ⟨ue, ud, ua, ub, uc⟩ := u
      dsimp only at g2 g3 g5
      subst g2; subst g3
      simp only [nd_v] at hno hp ⊢
      refine con_b Try.func4 rfl _ Try.ntmps4 rfl (fun W α hB => ?_)
      have hB := hB; simp only [AsB] at hB; obtain ⟨hn, -⟩ := hB
      repeat' (first | (guard_target =~ JL _ _ _ _ _ _ _ _; first | refine jl_nil ?_ | refine jl_same rfl rfl rfl rfl rfl ?_ | refine jl_v rfl rfl rfl rfl (ov_int rfl rfl (by simp only [inK]; omega)) ?_ | refine jl_p rfl rfl rfl rfl rfl ?_ | refine jl_s rfl rfl rfl ?_ | refine jl_st rfl rfl rfl rfl ?_ | refine jl_n rfl rfl rfl rfl rfl (fun n => rfl) (fun n => ?_) | refine jl_x rfl rfl (ox_pvf 8 (shown_c) rfl rfl rfl rfl (fun _ _ => by kernel_rfl) ?_) | refine jl_x rfl rfl (ox_pvf 9 (hno) rfl rfl rfl rfl (fun _ _ => by kernel_rfl) ?_) | refine jl_x rfl rfl (ox_pvf 10 (hma) rfl rfl rfl rfl (fun _ _ => by kernel_rfl) ?_) | refine jl_x rfl rfl (ox_cons 11 (fun _ _ => by kernel_rfl) (hf) rfl rfl rfl (by (repeat' (first | exact AM.nil | refine AM.x rfl ?_ | refine am_l rfl (by omega) ?_ | refine AM.r rfl (Sub.refl _) (by omega) (by omega) ?_ | refine AM.r rfl (Sub.refl _) (fun _ => rfl) (by omega) ?_ | refine AM.q rfl (Sub.refl _) (by simp) ?_ | refine AM.w rfl (Sub.refl _) (by simp) ?_)); done) rfl rfl (fun _ _ => rfl) (fun cF hcF aF => ?_)) | refine jl_x rfl rfl (ox_con 12 (fun _ _ => by kernel_rfl) (hp _) rfl rfl rfl (by (repeat' (first | exact AM.nil | refine AM.x rfl ?_ | refine am_l rfl (by omega) ?_ | refine AM.r rfl (Sub.refl _) (by omega) (by omega) ?_ | refine AM.r rfl (Sub.refl _) (fun _ => rfl) (by omega) ?_ | refine AM.q rfl (Sub.refl _) (by simp) ?_ | refine AM.w rfl (Sub.refl _) (by simp) ?_)); done) rfl (fun _ => rfl) (fun _ => rfl) (fun x1 hx1 => ?_)) | refine jl_x rfl rfl (ox_pvf 10 (hmu) rfl rfl rfl rfl (fun _ _ => by kernel_rfl) ?_) | ((fail_if_success (refine jl_gt rfl ?_)); first | (refine jl_split_lt rfl rfl rfl (fun hc => ?_) (fun hc => ?_)) | (refine jl_split_ge rfl rfl rfl (fun hc => ?_) (fun hc => ?_)) | (refine jl_split_eq rfl rfl rfl (fun hc => ?_) (fun hc => ?_)) | (refine jl_split_ne rfl rfl rfl (fun hc => ?_) (fun hc => ?_)) | (refine jl_split rfl rfl rfl (fun hc => ?_) (fun hc => ?_)))) | (guard_target =~ JO _ _ _ _ _ _ _ _; first | refine JO.nil ?_ | refine JO.fork ?_ ?_ | refine jo_same rfl rfl rfl rfl rfl rfl ?_ | refine jo_v rfl rfl rfl rfl rfl (ov_int rfl rfl (by simp only [inK]; omega)) ?_ | refine jo_p rfl rfl rfl rfl rfl rfl ?_ | refine jo_s rfl rfl rfl rfl ?_ | refine jo_st rfl rfl rfl rfl rfl rfl ?_ | refine jo_n rfl rfl rfl rfl rfl rfl (fun n => rfl) (fun n => ?_) | refine jo_x rfl rfl rfl (ox_pvf 8 (shown_c) rfl rfl rfl rfl (fun _ _ => by kernel_rfl) ?_) | refine jo_x rfl rfl rfl (ox_pvf 9 (hno) rfl rfl rfl rfl (fun _ _ => by kernel_rfl) ?_) | refine jo_x rfl rfl rfl (ox_pvf 10 (hma) rfl rfl rfl rfl (fun _ _ => by kernel_rfl) ?_) | refine jo_x rfl rfl rfl (ox_cons 11 (fun _ _ => by kernel_rfl) (hf) rfl rfl rfl (by (repeat' (first | exact AM.nil | refine AM.x rfl ?_ | refine am_l rfl (by omega) ?_ | refine AM.r rfl (Sub.refl _) (by omega) (by omega) ?_ | refine AM.r rfl (Sub.refl _) (fun _ => rfl) (by omega) ?_ | refine AM.q rfl (Sub.refl _) (by simp) ?_ | refine AM.w rfl (Sub.refl _) (by simp) ?_)); done) rfl rfl (fun _ _ => rfl) (fun cF hcF aF => ?_)) | refine jo_x rfl rfl rfl (ox_con 12 (fun _ _ => by kernel_rfl) (hp _) rfl rfl rfl (by (repeat' (first | exact AM.nil | refine AM.x rfl ?_ | refine am_l rfl (by omega) ?_ | refine AM.r rfl (Sub.refl _) (by omega) (by omega) ?_ | refine AM.r rfl (Sub.refl _) (fun _ => rfl) (by omega) ?_ | refine AM.q rfl (Sub.refl _) (by simp) ?_ | refine AM.w rfl (Sub.refl _) (by simp) ?_)); done) rfl (fun _ => rfl) (fun _ => rfl) (fun x1 hx1 => ?_)) | refine jo_x rfl rfl rfl (ox_pvf 10 (hmu) rfl rfl rfl rfl (fun _ _ => by kernel_rfl) ?_) | ((fail_if_success (refine jo_gt rfl rfl ?_)); first | (refine jo_split_lt rfl rfl rfl rfl (fun hc => ?_) (fun hc => ?_)) | (refine jo_split_ge rfl rfl rfl rfl (fun hc => ?_) (fun hc => ?_)) | (refine jo_split_eq rfl rfl rfl rfl (fun hc => ?_) (fun hc => ?_)) | (refine jo_split_ne rfl rfl rfl rfl (fun hc => ?_) (fun hc => ?_)) | (refine jo_split rfl rfl rfl rfl (fun hc => ?_) (fun hc => ?_)))) | (guard_target =~ JC _ _ _ _ _ _ _; first | refine jc_seq ?_ | refine jc_region ?_ | refine jc_drawn (by kernel_rfl) rfl ?_ | refine jc_cond_t rfl ?_ | refine jc_cond_f rfl ?_ | refine jc_cond_lt rfl (fun hc => ?_) (fun hc => ?_) | refine jc_cond_ge rfl (fun hc => ?_) (fun hc => ?_) | refine jc_cond_eq rfl (fun hc => ?_) (fun hc => ?_) | refine jc_cond_ne rfl (fun hc => ?_) (fun hc => ?_) | refine jc_cond rfl (fun hc => ?_) (fun hc => ?_) | refine jc_skip ?_ | refine jc_ret ?_ | refine jc_exit ?_ | refine jc_block ?_) | (guard_target =~ Kthen _ _ _ _; first | refine k_then ?_ | refine k_then_r ?_ | refine k_then_e ?_) | (guard_target =~ Kblock _ _ _ _; first | refine k_block_n ?_ | refine k_block_r ?_ | refine k_block_hit ?_ | refine k_block_miss rfl ?_) | (guard_target =~ JR _ _ _ _ _ _ _ _; refine jr_step ?_))
      all_goals (first | (exfalso; dsimp only at hc; omega) | (exfalso; omega) | skip)
      all_goals
        refine jc_inv (fun k : Nat => ⟨[(14, .v (.int .i64 k)), (11, .v (.slice x1.1 R.length x1.2)), (7, .v (.bool true))], [.row x1.1 38 (x1.2 * 2) (encs Rc.e R)], []⟩) (fun k => k ≤ R.length) (fun k => R.length - k) 0 (Nat.zero_le _) (wk [4] rfl rfl (by repeat' (first | exact EnvIn.nil | refine EnvIn.cons rfl rfl ?_))) ?_
        intro k hk
        have hm : ∀ h : k < R.length, ∀ w, Calls C.P 15 [(R[k]'h).a].toArray w (PV w (.bool true)) := fun h w => by
          have := rmay_c (R[k]'h) w
          rw [g4 _ (List.getElem_mem h)] at this
          exact this
        have hx2 := hx1.1
        repeat' (first | (guard_target =~ JL _ _ _ _ _ _ _ _; first | refine jl_nil ?_ | refine jl_same rfl rfl rfl rfl rfl ?_ | refine jl_v rfl rfl rfl rfl (ov_int rfl rfl (by simp only [inK]; omega)) ?_ | refine jl_p rfl rfl rfl rfl rfl ?_ | refine jl_s rfl rfl rfl ?_ | refine jl_st rfl rfl rfl rfl ?_ | refine jl_n rfl rfl rfl rfl rfl (fun n => rfl) (fun n => ?_) | refine jl_unname 94 0 rfl rfl (by decide) ?_ | refine jl_v rfl rfl rfl rfl (ov_index rfl rfl rfl rfl rfl (by first | omega | (simp only []; omega)) (by first | omega | (simp only []; omega))) ?_ | refine jl_v rfl rfl rfl rfl (ov_load rfl rfl rfl (at0 Rc.el (by first | omega | (simp only []; omega))) rfl rfl) ?_ | refine jl_x rfl rfl (ox_pvf 15 (hm (by omega)) rfl rfl rfl rfl (fun _ _ => by kernel_rfl) ?_) | ((fail_if_success (refine jl_gt rfl ?_)); first | (refine jl_split_lt rfl rfl rfl (fun hc => ?_) (fun hc => ?_)) | (refine jl_split_ge rfl rfl rfl (fun hc => ?_) (fun hc => ?_)) | (refine jl_split_eq rfl rfl rfl (fun hc => ?_) (fun hc => ?_)) | (refine jl_split_ne rfl rfl rfl (fun hc => ?_) (fun hc => ?_)) | (refine jl_split rfl rfl rfl (fun hc => ?_) (fun hc => ?_)))) | (guard_target =~ JO _ _ _ _ _ _ _ _; first | refine JO.nil ?_ | refine JO.fork ?_ ?_ | refine jo_same rfl rfl rfl rfl rfl rfl ?_ | refine jo_v rfl rfl rfl rfl rfl (ov_int rfl rfl (by simp only [inK]; omega)) ?_ | refine jo_p rfl rfl rfl rfl rfl rfl ?_ | refine jo_s rfl rfl rfl rfl ?_ | refine jo_st rfl rfl rfl rfl rfl rfl ?_ | refine jo_n rfl rfl rfl rfl rfl rfl (fun n => rfl) (fun n => ?_) | refine jo_v rfl rfl rfl rfl rfl (ov_index rfl rfl rfl rfl rfl (by first | omega | (simp only []; omega)) (by first | omega | (simp only []; omega))) ?_ | refine jo_v rfl rfl rfl rfl rfl (ov_load rfl rfl rfl (at0 Rc.el (by first | omega | (simp only []; omega))) rfl rfl) ?_ | refine jo_x rfl rfl rfl (ox_pvf 15 (hm (by omega)) rfl rfl rfl rfl (fun _ _ => by kernel_rfl) ?_) | ((fail_if_success (refine jo_gt rfl rfl ?_)); first | (refine jo_split_lt rfl rfl rfl rfl (fun hc => ?_) (fun hc => ?_)) | (refine jo_split_ge rfl rfl rfl rfl (fun hc => ?_) (fun hc => ?_)) | (refine jo_split_eq rfl rfl rfl rfl (fun hc => ?_) (fun hc => ?_)) | (refine jo_split_ne rfl rfl rfl rfl (fun hc => ?_) (fun hc => ?_)) | (refine jo_split rfl rfl rfl rfl (fun hc => ?_) (fun hc => ?_)))) | (guard_target =~ JC _ _ _ _ _ _ _; first | refine jc_seq ?_ | refine jc_region ?_ | refine jc_drawn (by kernel_rfl) rfl ?_ | refine jc_cond_t rfl ?_ | refine jc_cond_f rfl ?_ | refine jc_cond_lt rfl (fun hc => ?_) (fun hc => ?_) | refine jc_cond_ge rfl (fun hc => ?_) (fun hc => ?_) | refine jc_cond_eq rfl (fun hc => ?_) (fun hc => ?_) | refine jc_cond_ne rfl (fun hc => ?_) (fun hc => ?_) | refine jc_cond rfl (fun hc => ?_) (fun hc => ?_) | refine jc_skip ?_ | refine jc_ret ?_ | refine jc_exit ?_ | refine jc_block ?_) | (guard_target =~ Kthen _ _ _ _; first | refine k_then ?_ | refine k_then_r ?_ | refine k_then_e ?_) | (guard_target =~ Kblock _ _ _ _; first | refine k_block_n ?_ | refine k_block_r ?_ | refine k_block_hit ?_ | refine k_block_miss rfl ?_) | (guard_target =~ JR _ _ _ _ _ _ _ _; refine jr_step ?_))
        · exact ⟨k + 1, by dsimp only; omega, by dsimp only; omega, (wk [0] rfl rfl (by repeat' (first | exact EnvIn.nil | refine EnvIn.cons rfl rfl ?_)))⟩
        · exact fin1 (.inr rfl) rfl (ris rfl) (fin_pv rfl)
  · obtain ⟨b1, hb1⟩ : ∃ b, ndOk nn = b := ⟨_, rfl⟩
    obtain ⟨b2, hb2⟩ : ∃ b, t.may = b := ⟨_, rfl⟩
    rw [hb1] at hno hok
    rw [hb2] at hma hok
    cases b1 <;> cases b2 <;> first | (exfalso; exact hok ⟨rfl, rfl⟩) | skip
    all_goals
      refine con_b Try.func4 rfl _ Try.ntmps4 rfl (fun W α hB => ?_)
      have hB := hB; simp only [AsB] at hB; obtain ⟨hn, -⟩ := hB
      repeat' (first | (guard_target =~ JL _ _ _ _ _ _ _ _; first | refine jl_nil ?_ | refine jl_same rfl rfl rfl rfl rfl ?_ | refine jl_v rfl rfl rfl rfl (ov_int rfl rfl (by simp only [inK]; omega)) ?_ | refine jl_p rfl rfl rfl rfl rfl ?_ | refine jl_s rfl rfl rfl ?_ | refine jl_st rfl rfl rfl rfl ?_ | refine jl_n rfl rfl rfl rfl rfl (fun n => rfl) (fun n => ?_) | refine jl_x rfl rfl (ox_pvf 8 (shown_c) rfl rfl rfl rfl (fun _ _ => by kernel_rfl) ?_) | refine jl_x rfl rfl (ox_pvf 9 (hno) rfl rfl rfl rfl (fun _ _ => by kernel_rfl) ?_) | refine jl_x rfl rfl (ox_pvf 10 (hma) rfl rfl rfl rfl (fun _ _ => by kernel_rfl) ?_) | ((fail_if_success (refine jl_gt rfl ?_)); first | (refine jl_split_lt rfl rfl rfl (fun hc => ?_) (fun hc => ?_)) | (refine jl_split_ge rfl rfl rfl (fun hc => ?_) (fun hc => ?_)) | (refine jl_split_eq rfl rfl rfl (fun hc => ?_) (fun hc => ?_)) | (refine jl_split_ne rfl rfl rfl (fun hc => ?_) (fun hc => ?_)) | (refine jl_split rfl rfl rfl (fun hc => ?_) (fun hc => ?_)))) | (guard_target =~ JO _ _ _ _ _ _ _ _; first | refine JO.nil ?_ | refine JO.fork ?_ ?_ | refine jo_same rfl rfl rfl rfl rfl rfl ?_ | refine jo_v rfl rfl rfl rfl rfl (ov_int rfl rfl (by simp only [inK]; omega)) ?_ | refine jo_p rfl rfl rfl rfl rfl rfl ?_ | refine jo_s rfl rfl rfl rfl ?_ | refine jo_st rfl rfl rfl rfl rfl rfl ?_ | refine jo_n rfl rfl rfl rfl rfl rfl (fun n => rfl) (fun n => ?_) | refine jo_x rfl rfl rfl (ox_pvf 8 (shown_c) rfl rfl rfl rfl (fun _ _ => by kernel_rfl) ?_) | refine jo_x rfl rfl rfl (ox_pvf 9 (hno) rfl rfl rfl rfl (fun _ _ => by kernel_rfl) ?_) | refine jo_x rfl rfl rfl (ox_pvf 10 (hma) rfl rfl rfl rfl (fun _ _ => by kernel_rfl) ?_) | ((fail_if_success (refine jo_gt rfl rfl ?_)); first | (refine jo_split_lt rfl rfl rfl rfl (fun hc => ?_) (fun hc => ?_)) | (refine jo_split_ge rfl rfl rfl rfl (fun hc => ?_) (fun hc => ?_)) | (refine jo_split_eq rfl rfl rfl rfl (fun hc => ?_) (fun hc => ?_)) | (refine jo_split_ne rfl rfl rfl rfl (fun hc => ?_) (fun hc => ?_)) | (refine jo_split rfl rfl rfl rfl (fun hc => ?_) (fun hc => ?_)))) | (guard_target =~ JC _ _ _ _ _ _ _; first | refine jc_seq ?_ | refine jc_region ?_ | refine jc_drawn (by kernel_rfl) rfl ?_ | refine jc_cond_t rfl ?_ | refine jc_cond_f rfl ?_ | refine jc_cond_lt rfl (fun hc => ?_) (fun hc => ?_) | refine jc_cond_ge rfl (fun hc => ?_) (fun hc => ?_) | refine jc_cond_eq rfl (fun hc => ?_) (fun hc => ?_) | refine jc_cond_ne rfl (fun hc => ?_) (fun hc => ?_) | refine jc_cond rfl (fun hc => ?_) (fun hc => ?_) | refine jc_skip ?_ | refine jc_ret ?_ | refine jc_exit ?_ | refine jc_block ?_) | (guard_target =~ Kthen _ _ _ _; first | refine k_then ?_ | refine k_then_r ?_ | refine k_then_e ?_) | (guard_target =~ Kblock _ _ _ _; first | refine k_block_n ?_ | refine k_block_r ?_ | refine k_block_hit ?_ | refine k_block_miss rfl ?_) | (guard_target =~ JR _ _ _ _ _ _ _ _; refine jr_step ?_))
      exact fin1 (.inr rfl) rfl (ris rfl) (fin_pv rfl)
end Go.Proofs.Ytflmehahkcijcaa
