/- The walk of BagCounts. -/
import Derived.Test.YtoihhhnloogkiaaBq
namespace Go.Proofs.Ytoihhhnloogkiaa
open Go Go.RowKit
set_option linter.unusedSimpArgs false
set_option maxHeartbeats 4000000
set_option linter.unusedVariables false
theorem perm_of_counts : ∀ (A B : List Rc), (∀ r, A.count r ≤ B.count r) → A.length = B.length → A.Perm B
  | [], B, _, hl => by
    have : B = [] := List.length_eq_zero_iff.1 hl.symm
    rw [this]
  | x :: A, B, h, hl => by
    have hx : x ∈ B := List.count_pos_iff.1 (by have := h x; rw [List.count_cons_self] at this; omega)
    have hp := List.perm_cons_erase hx
    refine List.Perm.trans (List.Perm.cons x (perm_of_counts A (B.erase x) (fun r => ?_) ?_)) hp.symm
    · have h1 := h r
      rw [List.count_erase, List.count_cons] at *
      by_cases e : x = r
      · subst e; simp at *; omega
      · simp [e] at *; omega
    · have := List.length_erase_of_mem hx
      simp at hl
      omega
theorem same_counts (A B : List Rc) : decide (rsort A = rsort B) = (decide (A.length = B.length) && A.all fun r => decide (A.count r = B.count r)) := by
  rw [Bool.eq_iff_iff]
  simp only [Bool.and_eq_true, decide_eq_true_eq, List.all_eq_true]
  constructor
  · intro h
    have hp : A.Perm B := ((rsort_perm A).symm.trans (by rw [h])).trans (rsort_perm B)
    exact ⟨hp.length_eq, fun r _ => hp.count_eq r⟩
  · rintro ⟨hl, hc⟩
    refine rsort_congr (perm_of_counts A B (fun r => ?_) hl)
    by_cases hr : r ∈ A
    · exact Nat.le_of_eq (hc r hr)
    · rw [List.count_eq_zero_of_not_mem hr]; omega
theorem cut100 {L : List Rc} : Sub (encs Rc.e L) 0 (encs Rc.e (L.take 100)) := by
  have := sub_take0 (n := 100) Rc.el (L := L)
  simpa using this
attribute [local irreducible] JC JL OX OV Kthen Kblock JR FendG rsort rminus
theorem bagCounts_w (L1 : List Rc) (c1 : Nat) (L2 : List Rc) (c2 : Nat) : Con C.P 6 [.r L1.length c1 (encs Rc.e L1), .r L2.length c2 (encs Rc.e L2)] (fun W => PV W (.bool true)) := by
  obtain ⟨A, hA⟩ : ∃ A, A = L1.take 100 := ⟨_, rfl⟩
  obtain ⟨E, hE⟩ : ∃ A, A = L2.take 100 := ⟨_, rfl⟩
  have hl1 : A.length ≤ 100 := by rw [hA]; simp; omega
  have hl2 : E.length ≤ 100 := by rw [hE]; simp; omega
  have e1 := rsort_len (A ++ E)
  simp only [List.length_append] at e1
  refine con_b Try.func6 rfl _ Try.ntmps6 rfl (fun W α hB => ?_)
  have hB := hB; simp only [AsB] at hB; obtain ⟨hcap1, hcap2, -⟩ := hB
  have hc1 : A.length ≤ c1 := by rw [hA]; simp; omega
  have hc2 : E.length ≤ c2 := by rw [hE]; simp; omega
  have sub1 := cut100 (L := L1)
  have sub2 := cut100 (L := L2)
  rw [← hA] at sub1
  rw [← hE] at sub2
  repeat' (first | (guard_target =~ JL _ _ _ _ _ _ _ _; first | refine jl_nil ?_ | refine jl_same rfl rfl rfl rfl rfl ?_ | refine jl_v rfl rfl rfl rfl (ov_int rfl rfl (by simp only [inK]; omega)) ?_ | refine jl_p rfl rfl rfl rfl rfl ?_ | refine jl_s rfl rfl rfl ?_ | refine jl_st rfl rfl rfl rfl ?_ | refine jl_n rfl rfl rfl rfl rfl (fun n => rfl) (fun n => ?_) | refine jl_x rfl rfl (ox_pvf 16 (shown_c) rfl rfl rfl rfl (fun _ _ => by kernel_rfl) ?_) | refine jl_v rfl rfl rfl rfl (ov_sliceto rfl rfl rfl rfl (by first | omega | (simp only []; omega))) ?_ | refine jl_name_ro 23 rfl rfl (cap0 hc1) (fun _ => rfl) (fun ad1 had1 => ?_) | refine jl_name_ro 24 rfl rfl (cap0 hc2) (fun _ => rfl) (fun ad2 had2 => ?_) | refine jl_name_at 25 rfl rfl rfl rfl ?_ | refine jl_x rfl rfl (ox_gs 26 (fun _ _ => by kernel_rfl) (join2_c A E _ 2 ad1 ad2 c1 c2 (by omega) (by omega) ⟨_, _, rfl⟩ had1 had2 hc1 hc2 (Nat.le_refl _)) (MOk.cons 4 rfl rfl rfl (Sub.refl _) (MOk.cons 2 rfl rfl rfl (Sub.refl _) (MOk.cons 3 rfl rfl rfl (Sub.refl _) MOk.nil))) rfl rfl rfl rfl (fun _ _ => rfl) (fun c hc a => ?_)) | refine jl_x rfl rfl (ox_cons 28 (fun _ _ => by kernel_rfl) (minus_c A E _ _ (by omega) (by omega)) rfl rfl rfl (by repeat' (first | exact AM.nil | refine AM.x rfl ?_ | refine am_l rfl (by omega) ?_ | refine AM.r rfl (Sub.refl _) (by omega) (by omega) ?_ | refine AM.r rfl (Sub.refl _) (fun _ => rfl) (by omega) ?_ | refine AM.q rfl (Sub.refl _) (by simp) ?_ | refine AM.w rfl (Sub.refl _) (by simp) ?_)) rfl rfl (fun _ _ => rfl) (fun c hc a => ?_)) | ((fail_if_success (refine jl_gt rfl ?_)); first | (refine jl_split_lt rfl rfl rfl (fun hc => ?_) (fun hc => ?_)) | (refine jl_split_ge rfl rfl rfl (fun hc => ?_) (fun hc => ?_)) | (refine jl_split_eq rfl rfl rfl (fun hc => ?_) (fun hc => ?_)) | (refine jl_split_ne rfl rfl rfl (fun hc => ?_) (fun hc => ?_)) | (refine jl_split rfl rfl rfl (fun hc => ?_) (fun hc => ?_)))) | (guard_target =~ JO _ _ _ _ _ _ _ _; first | refine JO.nil ?_ | refine JO.fork ?_ ?_ | refine jo_same rfl rfl rfl rfl rfl rfl ?_ | refine jo_v rfl rfl rfl rfl rfl (ov_int rfl rfl (by simp only [inK]; omega)) ?_ | refine jo_p rfl rfl rfl rfl rfl rfl ?_ | refine jo_s rfl rfl rfl rfl ?_ | refine jo_st rfl rfl rfl rfl rfl ?_ | refine jo_n rfl rfl rfl rfl rfl rfl (fun n => rfl) (fun n => ?_) | refine jo_x rfl rfl rfl (ox_pvf 16 (shown_c) rfl rfl rfl rfl (fun _ _ => by kernel_rfl) ?_) | refine jo_v rfl rfl rfl rfl rfl (ov_sliceto rfl rfl rfl rfl (by first | omega | (simp only []; omega))) ?_ | refine jo_x rfl rfl rfl (ox_gs 26 (fun _ _ => by kernel_rfl) (join2_c A E _ 2 ad1 ad2 c1 c2 (by omega) (by omega) ⟨_, _, rfl⟩ had1 had2 hc1 hc2 (Nat.le_refl _)) (MOk.cons 4 rfl rfl rfl (Sub.refl _) (MOk.cons 2 rfl rfl rfl (Sub.refl _) (MOk.cons 3 rfl rfl rfl (Sub.refl _) MOk.nil))) rfl rfl rfl rfl (fun _ _ => rfl) (fun c hc a => ?_)) | refine jo_x rfl rfl rfl (ox_cons 28 (fun _ _ => by kernel_rfl) (minus_c A E _ _ (by omega) (by omega)) rfl rfl rfl (by repeat' (first | exact AM.nil | refine AM.x rfl ?_ | refine am_l rfl (by omega) ?_ | refine AM.r rfl (Sub.refl _) (by omega) (by omega) ?_ | refine AM.r rfl (Sub.refl _) (fun _ => rfl) (by omega) ?_ | refine AM.q rfl (Sub.refl _) (by simp) ?_ | refine AM.w rfl (Sub.refl _) (by simp) ?_)) rfl rfl (fun _ _ => rfl) (fun c hc a => ?_)) | ((fail_if_success (refine jo_gt rfl rfl ?_)); first | (refine jo_split_lt rfl rfl rfl rfl (fun hc => ?_) (fun hc => ?_)) | (refine jo_split_ge rfl rfl rfl rfl (fun hc => ?_) (fun hc => ?_)) | (refine jo_split_eq rfl rfl rfl rfl (fun hc => ?_) (fun hc => ?_)) | (refine jo_split_ne rfl rfl rfl rfl (fun hc => ?_) (fun hc => ?_)) | (refine jo_split rfl rfl rfl rfl (fun hc => ?_) (fun hc => ?_)))) | (guard_target =~ JC _ _ _ _ _ _ _; first | refine jc_cut 15 (fun _ : Unit => ⟨[(5, .v (.bool true)), (0, .s 0 0 A.length c1), (1, .s 1 0 L2.length c2)], [.ro (α 0) (encs Rc.e A), .ro (α 1) (encs Rc.e L2)], []⟩) (fun _ => True) ?_ (fun _ _ => ?_) | refine jc_cut 20 (fun _ : Unit => ⟨[(5, .v (.bool true)), (0, .s 0 0 A.length c1), (1, .s 1 0 E.length c2)], [.ro (α 0) (encs Rc.e A), .ro (α 1) (encs Rc.e E)], []⟩) (fun _ => True) ?_ (fun _ _ => ?_) | refine jc_seq ?_ | refine jc_region ?_ | refine jc_drawn (by kernel_rfl) rfl ?_ | refine jc_cond_t rfl ?_ | refine jc_cond_f rfl ?_ | refine jc_cond_lt rfl (fun hc => ?_) (fun hc => ?_) | refine jc_cond_ge rfl (fun hc => ?_) (fun hc => ?_) | refine jc_cond_eq rfl (fun hc => ?_) (fun hc => ?_) | refine jc_cond_ne rfl (fun hc => ?_) (fun hc => ?_) | refine jc_cond rfl (fun hc => ?_) (fun hc => ?_) | refine jc_skip ?_ | refine jc_ret ?_ | refine jc_exit ?_ | refine jc_block ?_) | (guard_target =~ Kthen _ _ _ _; first | refine k_then ?_ | refine k_then_r ?_ | refine k_then_e ?_) | (guard_target =~ Kblock _ _ _ _; first | refine k_block_n ?_ | refine k_block_r ?_ | refine k_block_hit ?_ | refine k_block_miss rfl ?_) | (guard_target =~ JR _ _ _ _ _ _ _ _; refine jr_step ?_))
  · refine ⟨(), trivial, ?_⟩
    have e : A.length = 100 := by rw [hA]; simp; omega
    rw [e]
    exact (wk_ro 0 (encs Rc.e A) rfl sub1 rfl).trans (wk [0, 1] rfl rfl (by repeat' (first | exact EnvIn.nil | refine EnvIn.cons rfl rfl ?_)))
  · refine ⟨(), trivial, ?_⟩
    have e : A = L1 := by rw [hA]; exact List.take_of_length_le (by omega)
    rw [e]
    exact (wk [0, 1] rfl rfl (by repeat' (first | exact EnvIn.nil | refine EnvIn.cons rfl rfl ?_)))
  · refine ⟨(), trivial, ?_⟩
    have e : E.length = 100 := by rw [hE]; simp; omega
    rw [e]
    exact (wk_ro 1 (encs Rc.e E) rfl sub2 rfl).trans (wk [0, 1] rfl rfl (by repeat' (first | exact EnvIn.nil | refine EnvIn.cons rfl rfl ?_)))
  · refine ⟨(), trivial, ?_⟩
    have e : E = L2 := by rw [hE]; exact List.take_of_length_le (by omega)
    rw [e]
    exact (wk [0, 1] rfl rfl (by repeat' (first | exact EnvIn.nil | refine EnvIn.cons rfl rfl ?_)))
  rename_i cj hcj aj
  refine jc_unname 6 5 rfl rfl (by decide) ?_
  refine jc_inv (fun q : Nat × Bool => ⟨[(5, .v (.bool true)), (0, .s 0 0 A.length c1), (1, .s 1 0 E.length c2), (6, .s 2 0 (rsort (A ++ E)).length cj), (7, .s 3 0 (rminus A E).length c), (8, .v (.bool q.2)), (9, .v (.int .i64 q.1))], [.ro (α 0) (encs Rc.e A), .ro (α 1) (encs Rc.e E), .row aj 24 (cj * 2) (encs Rc.e (rsort (A ++ E))), .row a 24 (c * 2) (encs Rc.e (rminus A E))], []⟩) (fun q => q.1 ≤ A.length ∧ q.2 = (decide (A.length = E.length) && (A.take q.1).all fun r => decide (A.count r = E.count r))) (fun q => A.length - q.1) (0, eqB A.length E.length) ⟨by simp, by simp [eqB_eq]; omega⟩ (wk [0, 1, 5, 6] rfl rfl (by repeat' (first | exact EnvIn.nil | refine EnvIn.cons rfl rfl ?_))) ?_
  rintro ⟨k, b⟩ ⟨hk, hb⟩
  dsimp only at hk hb ⊢
  have e2 := rminus_len A E
  by_cases hk' : k < A.length
  · have f1 : (rsort (A ++ E)).count A[k] = A.count A[k] + E.count A[k] := by rw [(rsort_perm _).count_eq, List.count_append]
    have f2 := rminus_count A E A[k]
    have f3 := List.count_le_length (a := A[k]) (l := A)
    have f4 := List.count_le_length (a := A[k]) (l := E)
    repeat' (first | (guard_target =~ JL _ _ _ _ _ _ _ _; first | refine jl_nil ?_ | refine jl_same rfl rfl rfl rfl rfl ?_ | refine jl_v rfl rfl rfl rfl (ov_int rfl rfl (by simp only [inK]; omega)) ?_ | refine jl_p rfl rfl rfl rfl rfl ?_ | refine jl_s rfl rfl rfl ?_ | refine jl_st rfl rfl rfl rfl ?_ | refine jl_n rfl rfl rfl rfl rfl (fun n => rfl) (fun n => ?_) | refine jl_v rfl rfl rfl rfl (ov_index rfl rfl rfl rfl rfl (by first | omega | (simp only []; omega)) (by first | omega | (simp only []; omega))) ?_ | refine jl_v rfl rfl rfl rfl (ov_load rfl rfl rfl (at0 Rc.el (by first | omega | (simp only []; omega))) rfl rfl) ?_ | refine jl_x rfl rfl (ox_conv 29 (fun _ _ => by kernel_rfl) (many_c A A[k] _ (by omega)) rfl rfl rfl (by repeat' (first | exact AM.nil | refine AM.x rfl ?_ | refine am_l rfl (by omega) ?_ | refine AM.r rfl (Sub.refl _) (by omega) (by omega) ?_ | refine AM.r rfl (Sub.refl _) (fun _ => rfl) (by omega) ?_ | refine AM.q rfl (Sub.refl _) (by simp) ?_ | refine AM.w rfl (Sub.refl _) (by simp) ?_)) rfl ?_) | refine jl_x rfl rfl (ox_conv 29 (fun _ _ => by kernel_rfl) (many_c E A[k] _ (by omega)) rfl rfl rfl (by repeat' (first | exact AM.nil | refine AM.x rfl ?_ | refine am_l rfl (by omega) ?_ | refine AM.r rfl (Sub.refl _) (by omega) (by omega) ?_ | refine AM.r rfl (Sub.refl _) (fun _ => rfl) (by omega) ?_ | refine AM.q rfl (Sub.refl _) (by simp) ?_ | refine AM.w rfl (Sub.refl _) (by simp) ?_)) rfl ?_) | refine jl_x rfl rfl (ox_conv 29 (fun _ _ => by kernel_rfl) (many_c (rsort (A ++ E)) A[k] _ (by omega)) rfl rfl rfl (by repeat' (first | exact AM.nil | refine AM.x rfl ?_ | refine am_l rfl (by omega) ?_ | refine AM.r rfl (Sub.refl _) (by omega) (by omega) ?_ | refine AM.r rfl (Sub.refl _) (fun _ => rfl) (by omega) ?_ | refine AM.q rfl (Sub.refl _) (by simp) ?_ | refine AM.w rfl (Sub.refl _) (by simp) ?_)) rfl ?_) | refine jl_x rfl rfl (ox_conv 29 (fun _ _ => by kernel_rfl) (many_c (rminus A E) A[k] _ (by omega)) rfl rfl rfl (by repeat' (first | exact AM.nil | refine AM.x rfl ?_ | refine am_l rfl (by omega) ?_ | refine AM.r rfl (Sub.refl _) (by omega) (by omega) ?_ | refine AM.r rfl (Sub.refl _) (fun _ => rfl) (by omega) ?_ | refine AM.q rfl (Sub.refl _) (by simp) ?_ | refine AM.w rfl (Sub.refl _) (by simp) ?_)) rfl ?_) | ((fail_if_success (refine jl_gt rfl ?_)); first | (refine jl_split_lt rfl rfl rfl (fun hc => ?_) (fun hc => ?_)) | (refine jl_split_ge rfl rfl rfl (fun hc => ?_) (fun hc => ?_)) | (refine jl_split_eq rfl rfl rfl (fun hc => ?_) (fun hc => ?_)) | (refine jl_split_ne rfl rfl rfl (fun hc => ?_) (fun hc => ?_)) | (refine jl_split rfl rfl rfl (fun hc => ?_) (fun hc => ?_)))) | (guard_target =~ JO _ _ _ _ _ _ _ _; first | refine JO.nil ?_ | refine JO.fork ?_ ?_ | refine jo_same rfl rfl rfl rfl rfl rfl ?_ | refine jo_v rfl rfl rfl rfl rfl (ov_int rfl rfl (by simp only [inK]; omega)) ?_ | refine jo_p rfl rfl rfl rfl rfl rfl ?_ | refine jo_s rfl rfl rfl rfl ?_ | refine jo_st rfl rfl rfl rfl rfl ?_ | refine jo_n rfl rfl rfl rfl rfl rfl (fun n => rfl) (fun n => ?_) | refine jo_v rfl rfl rfl rfl rfl (ov_index rfl rfl rfl rfl rfl (by first | omega | (simp only []; omega)) (by first | omega | (simp only []; omega))) ?_ | refine jo_v rfl rfl rfl rfl rfl (ov_load rfl rfl rfl (at0 Rc.el (by first | omega | (simp only []; omega))) rfl rfl) ?_ | refine jo_x rfl rfl rfl (ox_conv 29 (fun _ _ => by kernel_rfl) (many_c A A[k] _ (by omega)) rfl rfl rfl (by repeat' (first | exact AM.nil | refine AM.x rfl ?_ | refine am_l rfl (by omega) ?_ | refine AM.r rfl (Sub.refl _) (by omega) (by omega) ?_ | refine AM.r rfl (Sub.refl _) (fun _ => rfl) (by omega) ?_ | refine AM.q rfl (Sub.refl _) (by simp) ?_ | refine AM.w rfl (Sub.refl _) (by simp) ?_)) rfl ?_) | refine jo_x rfl rfl rfl (ox_conv 29 (fun _ _ => by kernel_rfl) (many_c E A[k] _ (by omega)) rfl rfl rfl (by repeat' (first | exact AM.nil | refine AM.x rfl ?_ | refine am_l rfl (by omega) ?_ | refine AM.r rfl (Sub.refl _) (by omega) (by omega) ?_ | refine AM.r rfl (Sub.refl _) (fun _ => rfl) (by omega) ?_ | refine AM.q rfl (Sub.refl _) (by simp) ?_ | refine AM.w rfl (Sub.refl _) (by simp) ?_)) rfl ?_) | refine jo_x rfl rfl rfl (ox_conv 29 (fun _ _ => by kernel_rfl) (many_c (rsort (A ++ E)) A[k] _ (by omega)) rfl rfl rfl (by repeat' (first | exact AM.nil | refine AM.x rfl ?_ | refine am_l rfl (by omega) ?_ | refine AM.r rfl (Sub.refl _) (by omega) (by omega) ?_ | refine AM.r rfl (Sub.refl _) (fun _ => rfl) (by omega) ?_ | refine AM.q rfl (Sub.refl _) (by simp) ?_ | refine AM.w rfl (Sub.refl _) (by simp) ?_)) rfl ?_) | refine jo_x rfl rfl rfl (ox_conv 29 (fun _ _ => by kernel_rfl) (many_c (rminus A E) A[k] _ (by omega)) rfl rfl rfl (by repeat' (first | exact AM.nil | refine AM.x rfl ?_ | refine am_l rfl (by omega) ?_ | refine AM.r rfl (Sub.refl _) (by omega) (by omega) ?_ | refine AM.r rfl (Sub.refl _) (fun _ => rfl) (by omega) ?_ | refine AM.q rfl (Sub.refl _) (by simp) ?_ | refine AM.w rfl (Sub.refl _) (by simp) ?_)) rfl ?_) | ((fail_if_success (refine jo_gt rfl rfl ?_)); first | (refine jo_split_lt rfl rfl rfl rfl (fun hc => ?_) (fun hc => ?_)) | (refine jo_split_ge rfl rfl rfl rfl (fun hc => ?_) (fun hc => ?_)) | (refine jo_split_eq rfl rfl rfl rfl (fun hc => ?_) (fun hc => ?_)) | (refine jo_split_ne rfl rfl rfl rfl (fun hc => ?_) (fun hc => ?_)) | (refine jo_split rfl rfl rfl rfl (fun hc => ?_) (fun hc => ?_)))) | (guard_target =~ JC _ _ _ _ _ _ _; first | refine jc_seq ?_ | refine jc_region ?_ | refine jc_drawn (by kernel_rfl) rfl ?_ | refine jc_cond_t rfl ?_ | refine jc_cond_f rfl ?_ | refine jc_cond_lt rfl (fun hc => ?_) (fun hc => ?_) | refine jc_cond_ge rfl (fun hc => ?_) (fun hc => ?_) | refine jc_cond_eq rfl (fun hc => ?_) (fun hc => ?_) | refine jc_cond_ne rfl (fun hc => ?_) (fun hc => ?_) | refine jc_cond rfl (fun hc => ?_) (fun hc => ?_) | refine jc_skip ?_ | refine jc_ret ?_ | refine jc_exit ?_ | refine jc_block ?_) | (guard_target =~ Kthen _ _ _ _; first | refine k_then ?_ | refine k_then_r ?_ | refine k_then_e ?_) | (guard_target =~ Kblock _ _ _ _; first | refine k_block_n ?_ | refine k_block_r ?_ | refine k_block_hit ?_ | refine k_block_miss rfl ?_) | (guard_target =~ JR _ _ _ _ _ _ _ _; refine jr_step ?_))
    · exfalso; omega
    · exfalso
      rw [f2, maxI_eq] at hc
      omega
    · refine ⟨(k + 1, eqB (A.count A[k]) (E.count A[k])), ⟨by dsimp only; omega, ?_⟩, by dsimp only; omega, (wk [0, 1, 2, 3] rfl rfl (by repeat' (first | exact EnvIn.nil | refine EnvIn.cons rfl rfl ?_)))⟩
      dsimp only
      rw [hc] at hb
      rw [List.take_succ_eq_append_getElem hk', List.all_append, ← Bool.and_assoc, ← hb, eqB_eq]
      simp
      omega
    · refine ⟨(k + 1, false), ⟨by dsimp only; omega, ?_⟩, by dsimp only; omega, (wk [0, 1, 2, 3] rfl rfl (by repeat' (first | exact EnvIn.nil | refine EnvIn.cons rfl rfl ?_)))⟩
      dsimp only
      rw [hc] at hb
      rw [List.take_succ_eq_append_getElem hk', List.all_append, ← Bool.and_assoc, ← hb]
      rfl
    · exfalso; omega
  · have e : k = A.length := by omega
    subst e
    rw [List.take_length, ← same_counts] at hb
    subst hb
    repeat' (first | (guard_target =~ JL _ _ _ _ _ _ _ _; first | refine jl_nil ?_ | refine jl_same rfl rfl rfl rfl rfl ?_ | refine jl_v rfl rfl rfl rfl (ov_int rfl rfl (by simp only [inK]; omega)) ?_ | refine jl_p rfl rfl rfl rfl rfl ?_ | refine jl_s rfl rfl rfl ?_ | refine jl_st rfl rfl rfl rfl ?_ | refine jl_n rfl rfl rfl rfl rfl (fun n => rfl) (fun n => ?_) | refine jl_x rfl rfl (ox_conv 27 (fun _ _ => by kernel_rfl) (same_c A E _ _ (by omega) (by omega)) rfl rfl rfl (by repeat' (first | exact AM.nil | refine AM.x rfl ?_ | refine am_l rfl (by omega) ?_ | refine AM.r rfl (Sub.refl _) (by omega) (by omega) ?_ | refine AM.r rfl (Sub.refl _) (fun _ => rfl) (by omega) ?_ | refine AM.q rfl (Sub.refl _) (by simp) ?_ | refine AM.w rfl (Sub.refl _) (by simp) ?_)) rfl ?_) | (exfalso; omega) | ((fail_if_success (refine jl_gt rfl ?_)); first | (refine jl_split_lt rfl rfl rfl (fun hc => ?_) (fun hc => ?_)) | (refine jl_split_ge rfl rfl rfl (fun hc => ?_) (fun hc => ?_)) | (refine jl_split_eq rfl rfl rfl (fun hc => ?_) (fun hc => ?_)) | (refine jl_split_ne rfl rfl rfl (fun hc => ?_) (fun hc => ?_)) | (refine jl_split rfl rfl rfl (fun hc => ?_) (fun hc => ?_)))) | (guard_target =~ JO _ _ _ _ _ _ _ _; first | refine JO.nil ?_ | refine JO.fork ?_ ?_ | refine jo_same rfl rfl rfl rfl rfl rfl ?_ | refine jo_v rfl rfl rfl rfl rfl (ov_int rfl rfl (by simp only [inK]; omega)) ?_ | refine jo_p rfl rfl rfl rfl rfl rfl ?_ | refine jo_s rfl rfl rfl rfl ?_ | refine jo_st rfl rfl rfl rfl rfl ?_ | refine jo_n rfl rfl rfl rfl rfl rfl (fun n => rfl) (fun n => ?_) | refine jo_x rfl rfl rfl (ox_conv 27 (fun _ _ => by kernel_rfl) (same_c A E _ _ (by omega) (by omega)) rfl rfl rfl (by repeat' (first | exact AM.nil | refine AM.x rfl ?_ | refine am_l rfl (by omega) ?_ | refine AM.r rfl (Sub.refl _) (by omega) (by omega) ?_ | refine AM.r rfl (Sub.refl _) (fun _ => rfl) (by omega) ?_ | refine AM.q rfl (Sub.refl _) (by simp) ?_ | refine AM.w rfl (Sub.refl _) (by simp) ?_)) rfl ?_) | ((fail_if_success (refine jo_gt rfl rfl ?_)); first | (refine jo_split_lt rfl rfl rfl rfl (fun hc => ?_) (fun hc => ?_)) | (refine jo_split_ge rfl rfl rfl rfl (fun hc => ?_) (fun hc => ?_)) | (refine jo_split_eq rfl rfl rfl rfl (fun hc => ?_) (fun hc => ?_)) | (refine jo_split_ne rfl rfl rfl rfl (fun hc => ?_) (fun hc => ?_)) | (refine jo_split rfl rfl rfl rfl (fun hc => ?_) (fun hc => ?_)))) | (guard_target =~ JC _ _ _ _ _ _ _; first | refine jc_seq ?_ | refine jc_region ?_ | refine jc_drawn (by kernel_rfl) rfl ?_ | refine jc_cond_t rfl ?_ | refine jc_cond_f rfl ?_ | refine jc_cond_lt rfl (fun hc => ?_) (fun hc => ?_) | refine jc_cond_ge rfl (fun hc => ?_) (fun hc => ?_) | refine jc_cond_eq rfl (fun hc => ?_) (fun hc => ?_) | refine jc_cond_ne rfl (fun hc => ?_) (fun hc => ?_) | refine jc_cond rfl (fun hc => ?_) (fun hc => ?_) | refine jc_skip ?_ | refine jc_ret ?_ | refine jc_exit ?_ | refine jc_block ?_) | (guard_target =~ Kthen _ _ _ _; first | refine k_then ?_ | refine k_then_r ?_ | refine k_then_e ?_) | (guard_target =~ Kblock _ _ _ _; first | refine k_block_n ?_ | refine k_block_r ?_ | refine k_block_hit ?_ | refine k_block_miss rfl ?_) | (guard_target =~ JR _ _ _ _ _ _ _ _; refine jr_step ?_))
    refine fin1 (.inr rfl) rfl (ris rfl) (fin_pv (congrArg Value.bool ?_))
    rw [eqB_eq, decide_eq_true_eq]
    omega
end Go.Proofs.Ytoihhhnloogkiaa
