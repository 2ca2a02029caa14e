/- What the reference of package bag computes: sorted rows. -/
import Derived.Test.YtflmehahkcijcaaBc
namespace Go.Proofs.Ytflmehahkcijcaa
open Go Go.RowKit
set_option linter.unusedSimpArgs false
set_option maxHeartbeats 4000000
set_option linter.unusedVariables false
attribute [local irreducible] JC JL OX OV Kthen Kblock JR FendG
theorem put_len (L : List Rc) (r : Rc) : (put L r).length = L.length + 1 := by
  unfold put upto from_
  have := congrArg List.length (List.takeWhile_append_dropWhile (p := fun x => decide (rord x r ≤ 0)) (l := L))
  simp only [List.length_append, List.length_singleton] at this ⊢
  omega
def rsort (L : List Rc) : List Rc := L.foldl put []
theorem rsort_len (L : List Rc) : (rsort L).length = L.length := by
  have : ∀ (L M : List Rc), (L.foldl put M).length = M.length + L.length := by
    intro L
    induction L with
    | nil => simp
    | cons x L ih => intro M; rw [List.foldl_cons, ih, put_len, List.length_cons]; omega
  simpa [rsort] using this L []
theorem rsort_take {L : List Rc} {k : Nat} (h : k < L.length) : rsort (L.take (k + 1)) = put (rsort (L.take k)) L[k] := by
  rw [rsort, List.take_succ_eq_append_getElem h, List.foldl_append]; rfl
theorem rsort_c (L : List Rc) (c : Nat) (hL : L.length ≤ 1073741824) : Con C.P 94 [.r L.length c (encs Rc.e L)] (PS 38 2 (rsort L).length (encs Rc.e (rsort L))) := by
  refine con_b Try.func94 rfl _ Try.ntmps94 rfl (fun W α hB => ?_)
  have hB := hB; simp only [AsB] at hB; obtain ⟨hc, -⟩ := hB
  repeat' (first | (guard_target =~ JL _ _ _ _ _ _ _ _; first | refine jl_nil ?_ | refine jl_same rfl rfl rfl rfl rfl ?_ | refine jl_v rfl rfl rfl rfl (ov_int rfl rfl (by simp only [inK]; omega)) ?_ | refine jl_p rfl rfl rfl rfl rfl ?_ | refine jl_s rfl rfl rfl ?_ | refine jl_st rfl rfl rfl rfl ?_ | refine jl_n rfl rfl rfl rfl rfl (fun n => rfl) (fun n => ?_) | ((fail_if_success (refine jl_gt rfl ?_)); first | (refine jl_split_lt rfl rfl rfl (fun hc => ?_) (fun hc => ?_)) | (refine jl_split_ge rfl rfl rfl (fun hc => ?_) (fun hc => ?_)) | (refine jl_split_eq rfl rfl rfl (fun hc => ?_) (fun hc => ?_)) | (refine jl_split_ne rfl rfl rfl (fun hc => ?_) (fun hc => ?_)) | (refine jl_split rfl rfl rfl (fun hc => ?_) (fun hc => ?_)))) | (guard_target =~ JO _ _ _ _ _ _ _ _; first | refine JO.nil ?_ | refine JO.fork ?_ ?_ | refine jo_same rfl rfl rfl rfl rfl rfl ?_ | refine jo_v rfl rfl rfl rfl rfl (ov_int rfl rfl (by simp only [inK]; omega)) ?_ | refine jo_p rfl rfl rfl rfl rfl rfl ?_ | refine jo_s rfl rfl rfl rfl ?_ | refine jo_st rfl rfl rfl rfl rfl rfl ?_ | refine jo_n rfl rfl rfl rfl rfl rfl (fun n => rfl) (fun n => ?_) | ((fail_if_success (refine jo_gt rfl rfl ?_)); first | (refine jo_split_lt rfl rfl rfl rfl (fun hc => ?_) (fun hc => ?_)) | (refine jo_split_ge rfl rfl rfl rfl (fun hc => ?_) (fun hc => ?_)) | (refine jo_split_eq rfl rfl rfl rfl (fun hc => ?_) (fun hc => ?_)) | (refine jo_split_ne rfl rfl rfl rfl (fun hc => ?_) (fun hc => ?_)) | (refine jo_split rfl rfl rfl rfl (fun hc => ?_) (fun hc => ?_)))) | (guard_target =~ JC _ _ _ _ _ _ _; first | refine jc_seq ?_ | refine jc_region ?_ | refine jc_drawn (by kernel_rfl) rfl ?_ | refine jc_cond_t rfl ?_ | refine jc_cond_f rfl ?_ | refine jc_cond_lt rfl (fun hc => ?_) (fun hc => ?_) | refine jc_cond_ge rfl (fun hc => ?_) (fun hc => ?_) | refine jc_cond_eq rfl (fun hc => ?_) (fun hc => ?_) | refine jc_cond_ne rfl (fun hc => ?_) (fun hc => ?_) | refine jc_cond rfl (fun hc => ?_) (fun hc => ?_) | refine jc_skip ?_ | refine jc_ret ?_ | refine jc_exit ?_ | refine jc_block ?_) | (guard_target =~ Kthen _ _ _ _; first | refine k_then ?_ | refine k_then_r ?_ | refine k_then_e ?_) | (guard_target =~ Kblock _ _ _ _; first | refine k_block_n ?_ | refine k_block_r ?_ | refine k_block_hit ?_ | refine k_block_miss rfl ?_) | (guard_target =~ JR _ _ _ _ _ _ _ _; refine jr_step ?_))
  refine jc_inv (fun q : Nat × Nat × Option Addr => ⟨[(4, .v (.int .i64 q.1)), (0, .s 0 0 L.length c), (3, .s 1 0 (rsort (L.take q.1)).length q.2.1)], [.ro (α 0) (encs Rc.e L), .row q.2.2 38 (q.2.1 * 2) (encs Rc.e (rsort (L.take q.1)))], []⟩) (fun q => q.1 ≤ L.length ∧ (rsort (L.take q.1)).length ≤ q.2.1) (fun q => L.length - q.1) (0, 0, some ⟨n, 0, none⟩) ⟨by simp, by simp [rsort]⟩ (wk [0, 1] rfl rfl (by repeat' (first | exact EnvIn.nil | refine EnvIn.cons rfl rfl ?_))) ?_
  rintro ⟨k, c1, a1⟩ ⟨hk, hc1⟩
  dsimp only at hk hc1 ⊢
  have hl := rsort_len (L.take k)
  rw [List.length_take_of_le hk] at hl
  repeat' (first | (guard_target =~ JL _ _ _ _ _ _ _ _; first | refine jl_nil ?_ | refine jl_same rfl rfl rfl rfl rfl ?_ | refine jl_v rfl rfl rfl rfl (ov_int rfl rfl (by simp only [inK]; omega)) ?_ | refine jl_p rfl rfl rfl rfl rfl ?_ | refine jl_s rfl rfl rfl ?_ | refine jl_st rfl rfl rfl rfl ?_ | refine jl_n rfl rfl rfl rfl rfl (fun n => rfl) (fun n => ?_) | refine jl_v rfl rfl rfl rfl (ov_index rfl rfl rfl rfl rfl (by first | omega | (simp only []; omega)) (by first | omega | (simp only []; omega))) ?_ | refine jl_v rfl rfl rfl rfl (ov_load rfl rfl rfl (at0 Rc.el (by first | omega | (simp only []; omega))) rfl rfl) ?_ | refine jl_x rfl rfl (ox_cons 99 (fun _ _ => by kernel_rfl) (put_c (rsort (L.take k)) (L[k]'(by omega)) _ (by omega)) rfl rfl rfl (by (repeat' (first | exact AM.nil | refine AM.x rfl ?_ | refine am_l rfl (by omega) ?_ | refine AM.r rfl (Sub.refl _) (by omega) (by omega) ?_ | refine AM.r rfl (Sub.refl _) (fun _ => rfl) (by omega) ?_ | refine AM.q rfl (Sub.refl _) (by simp) ?_ | refine AM.w rfl (Sub.refl _) (by simp) ?_)); done) rfl rfl (fun _ _ => rfl) (fun c hc a => ?_)) | ((fail_if_success (refine jl_gt rfl ?_)); first | (refine jl_split_lt rfl rfl rfl (fun hc => ?_) (fun hc => ?_)) | (refine jl_split_ge rfl rfl rfl (fun hc => ?_) (fun hc => ?_)) | (refine jl_split_eq rfl rfl rfl (fun hc => ?_) (fun hc => ?_)) | (refine jl_split_ne rfl rfl rfl (fun hc => ?_) (fun hc => ?_)) | (refine jl_split rfl rfl rfl (fun hc => ?_) (fun hc => ?_)))) | (guard_target =~ JO _ _ _ _ _ _ _ _; first | refine JO.nil ?_ | refine JO.fork ?_ ?_ | refine jo_same rfl rfl rfl rfl rfl rfl ?_ | refine jo_v rfl rfl rfl rfl rfl (ov_int rfl rfl (by simp only [inK]; omega)) ?_ | refine jo_p rfl rfl rfl rfl rfl rfl ?_ | refine jo_s rfl rfl rfl rfl ?_ | refine jo_st rfl rfl rfl rfl rfl rfl ?_ | refine jo_n rfl rfl rfl rfl rfl rfl (fun n => rfl) (fun n => ?_) | refine jo_v rfl rfl rfl rfl rfl (ov_index rfl rfl rfl rfl rfl (by first | omega | (simp only []; omega)) (by first | omega | (simp only []; omega))) ?_ | refine jo_v rfl rfl rfl rfl rfl (ov_load rfl rfl rfl (at0 Rc.el (by first | omega | (simp only []; omega))) rfl rfl) ?_ | refine jo_x rfl rfl rfl (ox_cons 99 (fun _ _ => by kernel_rfl) (put_c (rsort (L.take k)) (L[k]'(by omega)) _ (by omega)) rfl rfl rfl (by (repeat' (first | exact AM.nil | refine AM.x rfl ?_ | refine am_l rfl (by omega) ?_ | refine AM.r rfl (Sub.refl _) (by omega) (by omega) ?_ | refine AM.r rfl (Sub.refl _) (fun _ => rfl) (by omega) ?_ | refine AM.q rfl (Sub.refl _) (by simp) ?_ | refine AM.w rfl (Sub.refl _) (by simp) ?_)); done) rfl rfl (fun _ _ => rfl) (fun c hc a => ?_)) | ((fail_if_success (refine jo_gt rfl rfl ?_)); first | (refine jo_split_lt rfl rfl rfl rfl (fun hc => ?_) (fun hc => ?_)) | (refine jo_split_ge rfl rfl rfl rfl (fun hc => ?_) (fun hc => ?_)) | (refine jo_split_eq rfl rfl rfl rfl (fun hc => ?_) (fun hc => ?_)) | (refine jo_split_ne rfl rfl rfl rfl (fun hc => ?_) (fun hc => ?_)) | (refine jo_split rfl rfl rfl rfl (fun hc => ?_) (fun hc => ?_)))) | (guard_target =~ JC _ _ _ _ _ _ _; first | refine jc_seq ?_ | refine jc_region ?_ | refine jc_drawn (by kernel_rfl) rfl ?_ | refine jc_cond_t rfl ?_ | refine jc_cond_f rfl ?_ | refine jc_cond_lt rfl (fun hc => ?_) (fun hc => ?_) | refine jc_cond_ge rfl (fun hc => ?_) (fun hc => ?_) | refine jc_cond_eq rfl (fun hc => ?_) (fun hc => ?_) | refine jc_cond_ne rfl (fun hc => ?_) (fun hc => ?_) | refine jc_cond rfl (fun hc => ?_) (fun hc => ?_) | refine jc_skip ?_ | refine jc_ret ?_ | refine jc_exit ?_ | refine jc_block ?_) | (guard_target =~ Kthen _ _ _ _; first | refine k_then ?_ | refine k_then_r ?_ | refine k_then_e ?_) | (guard_target =~ Kblock _ _ _ _; first | refine k_block_n ?_ | refine k_block_r ?_ | refine k_block_hit ?_ | refine k_block_miss rfl ?_) | (guard_target =~ JR _ _ _ _ _ _ _ _; refine jr_step ?_))
  · have e := rsort_take (L := L) (k := k) (by omega)
    rw [← e] at hc ⊢
    exact ⟨(k + 1, c, a), ⟨by dsimp only; omega, hc⟩, by dsimp only; omega, (wk [0, 2] rfl rfl (by repeat' (first | exact EnvIn.nil | refine EnvIn.cons rfl rfl ?_)))⟩
  · have e : k = L.length := by omega
    subst e
    rw [List.take_length] at hc1 ⊢
    exact fin_s (.inr rfl) rfl (rise rfl) rfl (by decide) (by assumption)
def rminus (L M : List Rc) : List Rc := M.foldl List.erase (rsort L)
theorem rminus_take {L M : List Rc} {k : Nat} (h : k < M.length) : rminus L (M.take (k + 1)) = (rminus L (M.take k)).erase M[k] := by
  rw [rminus, List.take_succ_eq_append_getElem h, List.foldl_append]; rfl
theorem rminus_len (L M : List Rc) : (rminus L M).length ≤ L.length := by
  have : ∀ (M A : List Rc), (M.foldl List.erase A).length ≤ A.length := by
    intro M
    induction M with
    | nil => simp
    | cons x M ih => intro A; rw [List.foldl_cons]; exact Nat.le_trans (ih _) (List.length_erase_le ..)
  exact Nat.le_trans (this M _) (by rw [rsort_len]; exact Nat.le_refl _)
theorem erase_at {L : List Rc} {r : Rc} {k : Nat} (hk : k < L.length) (h : ∀ j (hj : j < L.length), j < k → L[j] ≠ r) (e : L[k] = r) : L.erase r = L.take k ++ L.drop (k + 1) := by
  induction L generalizing k with
  | nil => simp at hk
  | cons x L ih =>
    cases k with
    | zero => simp at e; simp [e]
    | succ k =>
      have h0 := h 0 (by simp) (by omega)
      simp at h0
      have := ih (k := k) (by simpa using hk) (fun j hj hlt => by have := h (j + 1) (by simpa using hj) (by omega); simpa using this) (by simpa using e)
      rw [List.erase_cons_tail (by simpa using h0), this]
      simp
theorem erase_no {L : List Rc} {r : Rc} (h : ∀ j (hj : j < L.length), L[j] ≠ r) : L.erase r = L := List.erase_of_not_mem fun hm => by
  obtain ⟨j, hj, e⟩ := List.getElem_of_mem hm
  exact h j hj e
end Go.Proofs.Ytflmehahkcijcaa
