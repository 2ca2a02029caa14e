/- Records that may be; what the reference makes of records at once: chapter 18. -/
import Derived.Test.YtflmehahkcijcaaRd
import Derived.Test.YtflmehahkcijcaaBc
namespace Go.Proofs.Ytflmehahkcijcaa
open Go Go.RowKit
set_option linter.unusedSimpArgs false
set_option maxHeartbeats 4000000
set_option linter.unusedVariables false
set_option maxRecDepth 4000
def fewR (L : List Rc) : List Rc := (L.take 150).filter Rc.may
theorem fewR_len (L : List Rc) : (fewR L).length ≤ 150 := by
  unfold fewR
  have := List.length_filter_le Rc.may (L.take 150)
  rw [List.length_take] at this
  omega
theorem fewR_may (L : List Rc) : ∀ r ∈ fewR L, r.may = true := fun r hr => by
  unfold fewR at hr
  exact (List.mem_filter.1 hr).2
def fewTo (L : List Rc) (k : Nat) : List Rc := (L.take k).filter Rc.may
theorem fewTo_s {L : List Rc} {k : Nat} (h : k < L.length) : fewTo L (k + 1) = fewTo L k ++ if L[k].may = true then [L[k]] else [] := by
  unfold fewTo
  rw [List.take_succ_eq_append_getElem h, List.filter_append]
  congr 1
  by_cases hm : L[k].may = true <;> simp [hm]
theorem fewTo_end {L : List Rc} {k : Nat} (h : k ≤ L.length) (h1 : k ≤ 150) (h2 : k = L.length ∨ k = 150) : fewTo L k = fewR L := by
  unfold fewTo fewR
  rcases h2 with rfl | rfl
  · rw [List.take_length, List.take_of_length_le h1]
  · rfl
theorem fewTo_len (L : List Rc) (k : Nat) : (fewTo L k).length ≤ k := by
  unfold fewTo
  have := List.length_filter_le Rc.may (L.take k)
  rw [List.length_take] at this
  omega
theorem fin_s3 {C : Ctx} {nt : Nat} {env : Env} {own : Own} {w : World} {fn : Func} {e : Exit} {r : ResultVar} {i c T k : Nat} {a : Option Addr} {α : Type} {enc : α → List Value} {X Y : List α} (he : e = .normal ∨ e = .ret) (hf : fn.results = #[r]) (h : ResE C (Bas.of w) nt ⟨env, own, []⟩ r (.s i 0 X.length c)) (hi : nth own i = some (.row a T (c * k) (encs enc X))) (hx : X = Y) (hk : 0 < k) (hn : X.length ≤ c) :
    FendG C (Bas.of w) nt fn (PS T k Y.length (encs enc Y) w) e ⟨env, own, []⟩ := by
  subst hx
  exact fin_s he hf h hi hk hn
attribute [local irreducible] JC JL OX OV Kthen Kblock JR FendG mapv filv applyT innerS Rc.may
theorem few_c18 (L : List Rc) (c : Nat) : Con C.P 11 [.r L.length c (encs Rc.e L)] (PS 38 2 (fewR L).length (encs Rc.e (fewR L))) := by
  refine con_b Try.func11 rfl _ Try.ntmps11 rfl (fun W α hB => ?_)
  have hB := hB; simp only [AsB] at hB; obtain ⟨hn, -⟩ := hB
  repeat' (first | (guard_target =~ JL _ _ _ _ _ _ _ _; first | refine jl_nil ?_ | refine jl_same rfl rfl rfl rfl rfl ?_ | refine jl_v rfl rfl rfl rfl (ov_int rfl rfl (by simp only [inK]; omega)) ?_ | refine jl_p rfl rfl rfl rfl rfl ?_ | refine jl_s rfl rfl rfl ?_ | refine jl_st rfl rfl rfl rfl ?_ | refine jl_n rfl rfl rfl rfl rfl (fun n => rfl) (fun n => ?_) | ((fail_if_success (refine jl_gt rfl ?_)); first | (refine jl_split_lt rfl rfl rfl (fun hc => ?_) (fun hc => ?_)) | (refine jl_split_ge rfl rfl rfl (fun hc => ?_) (fun hc => ?_)) | (refine jl_split_eq rfl rfl rfl (fun hc => ?_) (fun hc => ?_)) | (refine jl_split_ne rfl rfl rfl (fun hc => ?_) (fun hc => ?_)) | (refine jl_split rfl rfl rfl (fun hc => ?_) (fun hc => ?_)))) | (guard_target =~ JO _ _ _ _ _ _ _ _; first | refine JO.nil ?_ | refine JO.fork ?_ ?_ | refine jo_same rfl rfl rfl rfl rfl rfl ?_ | refine jo_v rfl rfl rfl rfl rfl (ov_int rfl rfl (by simp only [inK]; omega)) ?_ | refine jo_p rfl rfl rfl rfl rfl rfl ?_ | refine jo_s rfl rfl rfl rfl ?_ | refine jo_st rfl rfl rfl rfl rfl rfl ?_ | refine jo_n rfl rfl rfl rfl rfl rfl (fun n => rfl) (fun n => ?_) | ((fail_if_success (refine jo_gt rfl rfl ?_)); first | (refine jo_split_lt rfl rfl rfl rfl (fun hc => ?_) (fun hc => ?_)) | (refine jo_split_ge rfl rfl rfl rfl (fun hc => ?_) (fun hc => ?_)) | (refine jo_split_eq rfl rfl rfl rfl (fun hc => ?_) (fun hc => ?_)) | (refine jo_split_ne rfl rfl rfl rfl (fun hc => ?_) (fun hc => ?_)) | (refine jo_split rfl rfl rfl rfl (fun hc => ?_) (fun hc => ?_)))) | (guard_target =~ JC _ _ _ _ _ _ _; first | refine jc_seq ?_ | refine jc_region ?_ | refine jc_drawn (by kernel_rfl) rfl ?_ | refine jc_cond_t rfl ?_ | refine jc_cond_f rfl ?_ | refine jc_cond_lt rfl (fun hc => ?_) (fun hc => ?_) | refine jc_cond_ge rfl (fun hc => ?_) (fun hc => ?_) | refine jc_cond_eq rfl (fun hc => ?_) (fun hc => ?_) | refine jc_cond_ne rfl (fun hc => ?_) (fun hc => ?_) | refine jc_cond rfl (fun hc => ?_) (fun hc => ?_) | refine jc_skip ?_ | refine jc_ret ?_ | refine jc_exit ?_ | refine jc_block ?_) | (guard_target =~ Kthen _ _ _ _; first | refine k_then ?_ | refine k_then_r ?_ | refine k_then_e ?_) | (guard_target =~ Kblock _ _ _ _; first | refine k_block_n ?_ | refine k_block_r ?_ | refine k_block_hit ?_ | refine k_block_miss rfl ?_) | (guard_target =~ JR _ _ _ _ _ _ _ _; refine jr_step ?_))
  refine jc_inv (fun z : Nat × Nat × Option Addr => ⟨[(4, .v (.int .i64 z.1)), (3, .s 1 0 (fewTo L z.1).length z.2.1), (0, .s 0 0 L.length c)], [.ro (α 0) (encs Rc.e L), .row z.2.2 38 (z.2.1 * 2) (encs Rc.e (fewTo L z.1))], []⟩) (fun z => z.1 ≤ L.length ∧ z.1 ≤ 150 ∧ (fewTo L z.1).length ≤ z.2.1) (fun z => L.length - z.1) (0, 0, _) ⟨Nat.zero_le _, Nat.zero_le _, Nat.le_refl _⟩ (wk [0, 1] rfl rfl (by repeat' (first | exact EnvIn.nil | refine EnvIn.cons rfl rfl ?_))) ?_
  rintro ⟨k, cc, ad⟩ ⟨hk, hk2, hcap⟩
  dsimp only at hk hk2 hcap ⊢
  have hlt := fewTo_len L k
  repeat' (first | (guard_target =~ JL _ _ _ _ _ _ _ _; first | refine jl_nil ?_ | refine jl_same rfl rfl rfl rfl rfl ?_ | refine jl_v rfl rfl rfl rfl (ov_int rfl rfl (by simp only [inK]; omega)) ?_ | refine jl_p rfl rfl rfl rfl rfl ?_ | refine jl_s rfl rfl rfl ?_ | refine jl_st rfl rfl rfl rfl ?_ | refine jl_n rfl rfl rfl rfl rfl (fun n => rfl) (fun n => ?_) | refine jl_v rfl rfl rfl rfl (ov_index rfl rfl rfl rfl rfl (by first | omega | (simp only []; omega)) (by first | omega | (simp only []; omega))) ?_ | refine jl_v rfl rfl rfl rfl (ov_load rfl rfl rfl (at0 Rc.el (by first | omega | (simp only []; omega))) rfl rfl) ?_ | refine jl_x rfl rfl (ox_pvf 15 (rmay_c (L[k]'(by omega))) rfl rfl rfl rfl (fun _ _ => by kernel_rfl) ?_) | refine jl_x rfl rfl (ox_app Rc.el Rc.e1 (L := fewTo L k) (M := [L[k]'(by omega)]) rfl rfl rfl rfl rfl rfl rfl rfl rfl rfl rfl rfl rfl (Sub.refl _) (by first | omega | (simp only [List.length_set, List.length_nil, List.length_append, List.length_cons, List.length_drop, List.length_take, List.length_singleton]; done) | (simp only [List.length_set, List.length_nil, List.length_append, List.length_cons, List.length_drop, List.length_take, List.length_singleton]; omega)) (by first | omega | (simp only [List.length_set, List.length_nil, List.length_append, List.length_cons, List.length_drop, List.length_take, List.length_singleton]; done) | (simp only [List.length_set, List.length_nil, List.length_append, List.length_cons, List.length_drop, List.length_take, List.length_singleton]; omega)) (by first | omega | (simp only [List.length_set, List.length_nil, List.length_append, List.length_cons, List.length_drop, List.length_take, List.length_singleton]; done) | (simp only [List.length_set, List.length_nil, List.length_append, List.length_cons, List.length_drop, List.length_take, List.length_singleton]; omega)) (by first | omega | (simp only [List.length_set, List.length_nil, List.length_append, List.length_cons, List.length_drop, List.length_take, List.length_singleton]; done) | (simp only [List.length_set, List.length_nil, List.length_append, List.length_cons, List.length_drop, List.length_take, List.length_singleton]; omega)) rfl (fun _ _ => rfl) (fun c hc a => ?_)) | ((fail_if_success (refine jl_gt rfl ?_)); first | (refine jl_split_lt rfl rfl rfl (fun hc => ?_) (fun hc => ?_)) | (refine jl_split_ge rfl rfl rfl (fun hc => ?_) (fun hc => ?_)) | (refine jl_split_eq rfl rfl rfl (fun hc => ?_) (fun hc => ?_)) | (refine jl_split_ne rfl rfl rfl (fun hc => ?_) (fun hc => ?_)) | (refine jl_split rfl rfl rfl (fun hc => ?_) (fun hc => ?_)))) | (guard_target =~ JO _ _ _ _ _ _ _ _; first | refine JO.nil ?_ | refine JO.fork ?_ ?_ | refine jo_same rfl rfl rfl rfl rfl rfl ?_ | refine jo_v rfl rfl rfl rfl rfl (ov_int rfl rfl (by simp only [inK]; omega)) ?_ | refine jo_p rfl rfl rfl rfl rfl rfl ?_ | refine jo_s rfl rfl rfl rfl ?_ | refine jo_st rfl rfl rfl rfl rfl rfl ?_ | refine jo_n rfl rfl rfl rfl rfl rfl (fun n => rfl) (fun n => ?_) | refine jo_v rfl rfl rfl rfl rfl (ov_index rfl rfl rfl rfl rfl (by first | omega | (simp only []; omega)) (by first | omega | (simp only []; omega))) ?_ | refine jo_v rfl rfl rfl rfl rfl (ov_load rfl rfl rfl (at0 Rc.el (by first | omega | (simp only []; omega))) rfl rfl) ?_ | refine jo_x rfl rfl rfl (ox_pvf 15 (rmay_c (L[k]'(by omega))) rfl rfl rfl rfl (fun _ _ => by kernel_rfl) ?_) | refine jo_x rfl rfl rfl (ox_app Rc.el Rc.e1 (L := fewTo L k) (M := [L[k]'(by omega)]) rfl rfl rfl rfl rfl rfl rfl rfl rfl rfl rfl rfl rfl (Sub.refl _) (by first | omega | (simp only [List.length_set, List.length_nil, List.length_append, List.length_cons, List.length_drop, List.length_take, List.length_singleton]; done) | (simp only [List.length_set, List.length_nil, List.length_append, List.length_cons, List.length_drop, List.length_take, List.length_singleton]; omega)) (by first | omega | (simp only [List.length_set, List.length_nil, List.length_append, List.length_cons, List.length_drop, List.length_take, List.length_singleton]; done) | (simp only [List.length_set, List.length_nil, List.length_append, List.length_cons, List.length_drop, List.length_take, List.length_singleton]; omega)) (by first | omega | (simp only [List.length_set, List.length_nil, List.length_append, List.length_cons, List.length_drop, List.length_take, List.length_singleton]; done) | (simp only [List.length_set, List.length_nil, List.length_append, List.length_cons, List.length_drop, List.length_take, List.length_singleton]; omega)) (by first | omega | (simp only [List.length_set, List.length_nil, List.length_append, List.length_cons, List.length_drop, List.length_take, List.length_singleton]; done) | (simp only [List.length_set, List.length_nil, List.length_append, List.length_cons, List.length_drop, List.length_take, List.length_singleton]; omega)) rfl (fun _ _ => rfl) (fun c hc a => ?_)) | ((fail_if_success (refine jo_gt rfl rfl ?_)); first | (refine jo_split_lt rfl rfl rfl rfl (fun hc => ?_) (fun hc => ?_)) | (refine jo_split_ge rfl rfl rfl rfl (fun hc => ?_) (fun hc => ?_)) | (refine jo_split_eq rfl rfl rfl rfl (fun hc => ?_) (fun hc => ?_)) | (refine jo_split_ne rfl rfl rfl rfl (fun hc => ?_) (fun hc => ?_)) | (refine jo_split rfl rfl rfl rfl (fun hc => ?_) (fun hc => ?_)))) | (guard_target =~ JC _ _ _ _ _ _ _; first | refine jc_seq ?_ | refine jc_region ?_ | refine jc_drawn (by kernel_rfl) rfl ?_ | refine jc_cond_t rfl ?_ | refine jc_cond_f rfl ?_ | refine jc_cond_lt rfl (fun hc => ?_) (fun hc => ?_) | refine jc_cond_ge rfl (fun hc => ?_) (fun hc => ?_) | refine jc_cond_eq rfl (fun hc => ?_) (fun hc => ?_) | refine jc_cond_ne rfl (fun hc => ?_) (fun hc => ?_) | refine jc_cond rfl (fun hc => ?_) (fun hc => ?_) | refine jc_skip ?_ | refine jc_ret ?_ | refine jc_exit ?_ | refine jc_block ?_) | (guard_target =~ Kthen _ _ _ _; first | refine k_then ?_ | refine k_then_r ?_ | refine k_then_e ?_) | (guard_target =~ Kblock _ _ _ _; first | refine k_block_n ?_ | refine k_block_r ?_ | refine k_block_hit ?_ | refine k_block_miss rfl ?_) | (guard_target =~ JR _ _ _ _ _ _ _ _; refine jr_step ?_))
  all_goals first | (have hz : k = L.length ∨ k = 150 := by omega
                     have e := fewTo_end hk hk2 hz
                     rw [e] at hcap
                     exact fin_s3 (i := 1) (.inr rfl) rfl (rise rfl) rfl e (by decide) (by rw [e]; exact hcap)) | skip
  · have hm : (L[k]'(by omega)).may = true := by assumption
    have e := fewTo_s (L := L) (k := k) (by omega)
    rw [if_pos hm] at e
    refine ⟨(k + 1, c, a), ⟨?_, ?_, ?_⟩, ?_, ?_⟩
    · dsimp only; omega
    · dsimp only; omega
    · dsimp only; rw [e]; assumption
    · dsimp only; omega
    · dsimp only; rw [e]; exact (wk [0, 3] rfl rfl (by repeat' (first | exact EnvIn.nil | refine EnvIn.cons rfl rfl ?_)))
  · have hm : ¬ (L[k]'(by omega)).may = true := by simp; assumption
    have e := fewTo_s (L := L) (k := k) (by omega)
    rw [if_neg hm, List.append_nil] at e
    refine ⟨(k + 1, cc, ad), ⟨?_, ?_, ?_⟩, ?_, ?_⟩
    · dsimp only; omega
    · dsimp only; omega
    · dsimp only; rw [e]; assumption
    · dsimp only; omega
    · dsimp only; rw [e]; exact (wk [0, 1] rfl rfl (by repeat' (first | exact EnvIn.nil | refine EnvIn.cons rfl rfl ?_)))
theorem doesR_s (nn : Nd) {L : List Rc} {k : Nat} (h : k < L.length) : doesR nn (L.take (k + 1)) = doesR nn (L.take k) ++ (if nn.k = 2 then [mapv nn.a nn.b L[k]] else if nn.k = 3 then (if filv nn.a nn.b L[k] = true then [L[k]] else []) else [L[k]]) := by
  unfold doesR
  rw [List.take_succ_eq_append_getElem h]
  split
  · rw [List.map_append]; rfl
  · split
    · rw [List.filter_append]
      congr 1
      by_cases hm : filv nn.a nn.b L[k] = true <;> simp [hm]
    · rfl
theorem doesR_len (nn : Nd) (L : List Rc) : (doesR nn L).length ≤ L.length := by
  unfold doesR
  split
  · simp
  · split
    · exact List.length_filter_le _ _
    · exact Nat.le_refl _
end Go.Proofs.Ytflmehahkcijcaa
