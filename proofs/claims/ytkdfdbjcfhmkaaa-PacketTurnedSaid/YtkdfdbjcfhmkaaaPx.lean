/- A place and a time of numbers: package packet. -/
import Derived.Test.YtkdfdbjcfhmkaaaPg
import Derived.Test.YtkdfdbjcfhmkaaaWr
namespace Go.Proofs.Ytkdfdbjcfhmkaaa
open Go Go.RowKit
set_option linter.unusedSimpArgs false
set_option maxHeartbeats 4000000
set_option linter.unusedVariables false
set_option maxRecDepth 4000
theorem getD_at {L : List Int} {i : Nat} (h : i < L.length) : L.getD i 0 = L[i] := by simp [List.getD_eq_getElem?_getD, h]
theorem mid3 {L : List Int} (h : 7 ≤ L.length) : (L.drop 4).take 3 = [L.getD 4 0, L.getD 5 0, L.getD 6 0] := by
  match L, h with
  | a :: b :: c :: d :: e :: f :: g :: r, _ => rfl
def tmAt (L : List Int) (k : Nat) : Tm := ⟨L.getD k 0, L.getD (k + 1) 0, L.getD (k + 2) 0, L.getD (k + 3) 0, L.getD (k + 4) 0⟩
attribute [local irreducible] JC JL OX OV Kthen Kblock JR FendG
theorem point_c (L : List Int) (n c : Nat) (hn : L.length = n) (h7 : 7 ≤ n) : Con C.P 41 [.r n c (encs Zi.e L)] (fun W => PV W (.tuple #[Lc.v (L.getD 0 0) (L.getD 1 0), (tmAt L 2).v])) := by
  subst hn
  have hsub : Sub (encs Zi.e L) (0 + 4 * 1) (encs Zi.e [L.getD 4 0, L.getD 5 0, L.getD 6 0]) := by
    rw [← mid3 h7]
    exact sub_encs Zi.el L (by omega)
  refine con_b Try.func41 rfl _ Try.ntmps41 rfl (fun W α hB => ?_)
  have hB := hB; simp only [AsB] at hB; obtain ⟨hc1, -⟩ := hB
  have h7c : 7 ≤ c := by omega
  have h3c : 3 ≤ c - 4 := by omega
  repeat' (first | (guard_target =~ JL _ _ _ _ _ _ _ _; first | refine jl_nil ?_ | refine jl_same rfl rfl rfl rfl rfl ?_ | refine jl_v rfl rfl rfl rfl (ov_int rfl rfl (by simp only [inK]; omega)) ?_ | refine jl_p rfl rfl rfl rfl rfl ?_ | refine jl_s rfl rfl rfl ?_ | refine jl_st rfl rfl rfl rfl ?_ | refine jl_n rfl rfl rfl rfl rfl (fun n => rfl) (fun n => ?_) | refine jl_v rfl rfl rfl rfl (ov_index rfl rfl rfl rfl rfl (by first | omega | (simp only []; omega)) (by first | omega | (simp only []; omega))) ?_ | refine jl_v rfl rfl rfl rfl (ov_load rfl rfl rfl (at0 Zi.el (by first | omega | (simp only []; omega))) rfl rfl) ?_ | refine jl_v rfl rfl rfl rfl (ov_slice rfl rfl rfl rfl rfl (by decide : 4 ≤ 7) h7c) ?_ | refine jl_x rfl rfl (ox_copyb (encs Zi.e [L.getD 4 0, L.getD 5 0, L.getD 6 0]) rfl rfl rfl rfl rfl rfl hsub rfl rfl rfl rfl h3c (Nat.le_of_ble_eq_true rfl) (Nat.le_of_ble_eq_true rfl) rfl rfl ?_) | ((fail_if_success (refine jl_gt rfl ?_)); first | (refine jl_split_lt rfl rfl rfl (fun hc => ?_) (fun hc => ?_)) | (refine jl_split_ge rfl rfl rfl (fun hc => ?_) (fun hc => ?_)) | (refine jl_split_eq rfl rfl rfl (fun hc => ?_) (fun hc => ?_)) | (refine jl_split_ne rfl rfl rfl (fun hc => ?_) (fun hc => ?_)) | (refine jl_split rfl rfl rfl (fun hc => ?_) (fun hc => ?_)))) | (guard_target =~ JO _ _ _ _ _ _ _ _; first | refine JO.nil ?_ | refine JO.fork ?_ ?_ | refine jo_same rfl rfl rfl rfl rfl rfl ?_ | refine jo_v rfl rfl rfl rfl rfl (ov_int rfl rfl (by simp only [inK]; omega)) ?_ | refine jo_p rfl rfl rfl rfl rfl rfl ?_ | refine jo_s rfl rfl rfl rfl ?_ | refine jo_st rfl rfl rfl rfl rfl rfl ?_ | refine jo_n rfl rfl rfl rfl rfl rfl (fun n => rfl) (fun n => ?_) | refine jo_v rfl rfl rfl rfl rfl (ov_index rfl rfl rfl rfl rfl (by first | omega | (simp only []; omega)) (by first | omega | (simp only []; omega))) ?_ | refine jo_v rfl rfl rfl rfl rfl (ov_load rfl rfl rfl (at0 Zi.el (by first | omega | (simp only []; omega))) rfl rfl) ?_ | refine jo_v rfl rfl rfl rfl rfl (ov_slice rfl rfl rfl rfl rfl (by decide : 4 ≤ 7) h7c) ?_ | refine jo_x rfl rfl rfl (ox_copyb (encs Zi.e [L.getD 4 0, L.getD 5 0, L.getD 6 0]) rfl rfl rfl rfl rfl rfl hsub rfl rfl rfl rfl h3c (Nat.le_of_ble_eq_true rfl) (Nat.le_of_ble_eq_true rfl) rfl rfl ?_) | ((fail_if_success (refine jo_gt rfl rfl ?_)); first | (refine jo_split_lt rfl rfl rfl rfl (fun hc => ?_) (fun hc => ?_)) | (refine jo_split_ge rfl rfl rfl rfl (fun hc => ?_) (fun hc => ?_)) | (refine jo_split_eq rfl rfl rfl rfl (fun hc => ?_) (fun hc => ?_)) | (refine jo_split_ne rfl rfl rfl rfl (fun hc => ?_) (fun hc => ?_)) | (refine jo_split rfl rfl rfl rfl (fun hc => ?_) (fun hc => ?_)))) | (guard_target =~ JC _ _ _ _ _ _ _; first | refine jc_drawz (id := 2) (.step 2 0 (.step 2 1 (.step 2 2 (.step 2 3 (.step 1 4 .nil))))) [1, 2] rfl (by kernel_rfl) ?_ | refine jc_drawz (id := 3) (.step 2 0 (.step 2 1 (.step 2 2 (.step 2 3 (.step 2 4 (.step 2 5 (.step 2 6 (.step 1 7 (.step 1 8 (.step 1 9 .nil)))))))))) [3] rfl (by kernel_rfl) ?_ | refine jc_seq ?_ | refine jc_region ?_ | refine jc_draw (id := 1) (.step 1 0 (.step 1 1 (.step 1 2 (.step 1 3 (.step 1 4 (.step 1 5 (.step 1 6 (.step 1 7 (.step 1 8 .nil))))))))) (by kernel_rfl) rfl ?_ | refine jc_draw (id := 2) (.step 2 0 (.step 2 1 (.step 2 2 (.step 2 3 (.step 1 4 .nil))))) (by kernel_rfl) rfl ?_ | refine jc_draw (id := 3) (.step 2 0 (.step 2 1 (.step 2 2 (.step 2 3 (.step 2 4 (.step 2 5 (.step 2 6 (.step 1 7 (.step 1 8 (.step 1 9 .nil)))))))))) (by kernel_rfl) rfl ?_ | refine jc_drawn (by kernel_rfl) rfl ?_ | refine jc_cond_t rfl ?_ | refine jc_cond_f rfl ?_ | refine jc_cond_lt rfl (fun hc => ?_) (fun hc => ?_) | refine jc_cond_ge rfl (fun hc => ?_) (fun hc => ?_) | refine jc_cond_eq rfl (fun hc => ?_) (fun hc => ?_) | refine jc_cond_ne rfl (fun hc => ?_) (fun hc => ?_) | refine jc_cond rfl (fun hc => ?_) (fun hc => ?_) | refine jc_skip ?_ | refine jc_ret ?_ | refine jc_exit ?_ | refine jc_block ?_) | (guard_target =~ Kthen _ _ _ _; first | refine k_then ?_ | refine k_then_r ?_ | refine k_then_e ?_) | (guard_target =~ Kblock _ _ _ _; first | refine k_block_n ?_ | refine k_block_r ?_ | refine k_block_hit ?_ | refine k_block_miss rfl ?_) | (guard_target =~ JR _ _ _ _ _ _ _ _; refine jr_step ?_))
  have g0 := getD_at (L := L) (i := 0) (by omega)
  have g1 := getD_at (L := L) (i := 1) (by omega)
  have g2 := getD_at (L := L) (i := 2) (by omega)
  have g3 := getD_at (L := L) (i := 3) (by omega)
  refine fin2 (.inr rfl) rfl (ris rfl) (ris rfl) (fin_pv ?_)
  simp only [Lc.v, Tm.v, tmAt, g0, g1, g2, g3]
end Go.Proofs.Ytkdfdbjcfhmkaaa
