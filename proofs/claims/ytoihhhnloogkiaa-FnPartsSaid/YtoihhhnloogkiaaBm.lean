/- Package bag: Minus. -/
import Derived.Test.YtoihhhnloogkiaaBl
import Derived.Test.YtoihhhnloogkiaaWl
namespace Go.Proofs.Ytoihhhnloogkiaa
open Go Go.RowKit
set_option linter.unusedSimpArgs false
set_option maxHeartbeats 4000000
set_option linter.unusedVariables false
def decAt (f : Rc → Nat) (r : Rc) : Rc → Nat := fun x => if x = r then f x - 1 else f x
theorem decAt_self (f : Rc → Nat) (r : Rc) : decAt f r r = f r - 1 := by simp [decAt]
theorem decAt_ne (f : Rc → Nat) {r x : Rc} (h : x ≠ r) : decAt f r x = f x := by simp [decAt, h]
theorem decAt_le (f : Rc → Nat) (r x : Rc) : decAt f r x ≤ f x := by unfold decAt; split <;> omega
/-- What is left where counts are taken off. -/
def mwalk : List Rc → (Rc → Nat) → List Rc
  | [], _ => []
  | r :: s, f => if 0 < f r then mwalk s (decAt f r) else r :: mwalk s f
theorem mwalk_zero : ∀ s : List Rc, mwalk s (fun _ => 0) = s
  | [] => rfl
  | r :: s => by rw [mwalk, if_neg (by decide), mwalk_zero s]
theorem mwalk_more (y : Rc) : ∀ (s : List Rc) (f : Rc → Nat), mwalk s (fun x => f x + if x = y then 1 else 0) = mwalk (s.erase y) f
  | [], f => rfl
  | r :: s, f => by
    by_cases h : r = y
    · subst h
      rw [mwalk, if_pos (by simp)]
      simp only [List.erase_cons_head]
      congr 1
      funext x
      by_cases hx : x = r
      · subst hx; simp [decAt]
      · simp [decAt, hx]
    · rw [List.erase_cons_tail (by simpa using h), mwalk, mwalk]
      simp only [h, if_false, Nat.add_zero]
      split
      · rename_i h0
        rw [← mwalk_more y s]
        congr 1
        funext x
        by_cases hx : x = r
        · subst hx; simp [h, decAt]
        · simp [hx, decAt]
      · rw [mwalk_more y s]
theorem mwalk_eq : ∀ (M s : List Rc), mwalk s (fun x => M.count x) = M.foldl List.erase s
  | [], s => mwalk_zero s
  | y :: M, s => by
    rw [List.foldl_cons, ← mwalk_eq M, ← mwalk_more]
    congr 1
    funext x
    rw [List.count_cons]
    by_cases h : x = y
    · simp [h]
    · simp [h, Ne.symm h]
theorem mwalk_len : ∀ (s : List Rc) (f : Rc → Nat), (mwalk s f).length ≤ s.length
  | [], f => by simp [mwalk]
  | r :: s, f => by
    rw [mwalk]
    split
    · have := mwalk_len s (decAt f r); simp; omega
    · have := mwalk_len s f; simp; omega
theorem Rc.ext_iff' {x y : Rc} : (x = y) = (x.k = y.k ∧ x.v = y.v) := propext ⟨fun h => by rw [h]; exact ⟨rfl, rfl⟩, fun h => Rc.ext' h.1 h.2⟩
def Rc.key (r : Rc) : Value := .agg (Rc.e r).toArray
theorem flatRec : flatN C.P 20 24 = some 2 := by kernel_rfl
theorem rcKey : KOk C.P 60 24 Rc.key (.int .i64 0) where
  u := ⟨3, by kernel_rfl, fun w => by kernel_rfl⟩
  chk := fun b x w => by kernel_rfl
  fnd := fun x D w => by
    obtain ⟨fs, hu, -⟩ := (C.ok 24 _ rfl).m _ _ rfl
    refine run_findStruct hu (fun x y w => ?_) x D w
    obtain ⟨b, h1, _, _, h2⟩ := flat_equal 20 _ _ flatRec
    have hb : b = true := by
      have h3 := h1 w
      have h4 : (isAgg 24).run C.P w = .ok true w := by kernel_rfl
      rw [h4] at h3; cases h3; rfl
    subst hb
    exact h2 10000 (Rc.e x) (Rc.e y) _ w (by decide) rfl (by simp [Rc.e, cmpInts, sameKind, eqB_eq, ← Bool.decide_and, Rc.ext_iff'])
  bits := fun x => by simp [Rc.key, Rc.e, Instr.sameBits]
attribute [local irreducible] JC JL OX OV Kthen Kblock JR FendG
theorem minus_c (L M : List Rc) (c c' : Nat) (hL : L.length ≤ 10000000) (hM : M.length ≤ 10000000) : Con C.P 28 [.r L.length c (encs Rc.e L), .r M.length c' (encs Rc.e M)] (PS 24 2 (rminus L M).length (encs Rc.e (rminus L M))) := by
  have hlen := rsort_len L
  refine con_b Try.func28 rfl _ Try.ntmps28 rfl (fun W α hB => ?_)
  have hB := hB; simp only [AsB] at hB; obtain ⟨hcap1, hcap2, -⟩ := hB
  repeat' (first | (guard_target =~ JL _ _ _ _ _ _ _ _; first | refine jl_nil ?_ | refine jl_same rfl rfl rfl rfl rfl ?_ | refine jl_v rfl rfl rfl rfl (ov_int rfl rfl (by simp only [inK]; omega)) ?_ | refine jl_p rfl rfl rfl rfl rfl ?_ | refine jl_s rfl rfl rfl ?_ | refine jl_st rfl rfl rfl rfl ?_ | refine jl_n rfl rfl rfl rfl rfl (fun n => rfl) (fun n => ?_) | ((fail_if_success (refine jl_gt rfl ?_)); first | (refine jl_split_lt rfl rfl rfl (fun hc => ?_) (fun hc => ?_)) | (refine jl_split_ge rfl rfl rfl (fun hc => ?_) (fun hc => ?_)) | (refine jl_split_eq rfl rfl rfl (fun hc => ?_) (fun hc => ?_)) | (refine jl_split_ne rfl rfl rfl (fun hc => ?_) (fun hc => ?_)) | (refine jl_split rfl rfl rfl (fun hc => ?_) (fun hc => ?_)))) | (guard_target =~ JO _ _ _ _ _ _ _ _; first | refine JO.nil ?_ | refine JO.fork ?_ ?_ | refine jo_same rfl rfl rfl rfl rfl rfl ?_ | refine jo_v rfl rfl rfl rfl rfl (ov_int rfl rfl (by simp only [inK]; omega)) ?_ | refine jo_p rfl rfl rfl rfl rfl rfl ?_ | refine jo_s rfl rfl rfl rfl ?_ | refine jo_st rfl rfl rfl rfl rfl ?_ | refine jo_n rfl rfl rfl rfl rfl rfl (fun n => rfl) (fun n => ?_) | ((fail_if_success (refine jo_gt rfl rfl ?_)); first | (refine jo_split_lt rfl rfl rfl rfl (fun hc => ?_) (fun hc => ?_)) | (refine jo_split_ge rfl rfl rfl rfl (fun hc => ?_) (fun hc => ?_)) | (refine jo_split_eq rfl rfl rfl rfl (fun hc => ?_) (fun hc => ?_)) | (refine jo_split_ne rfl rfl rfl rfl (fun hc => ?_) (fun hc => ?_)) | (refine jo_split rfl rfl rfl rfl (fun hc => ?_) (fun hc => ?_)))) | (guard_target =~ JC _ _ _ _ _ _ _; first | refine jc_seq ?_ | refine jc_region ?_ | refine jc_draw (id := 5) (.step 2 0 (.step 2 1 (.fork (.step 1 2 (.step 1 3 (.step 1 4 (.step 2 5 (.step 1 6 .nil))))) (.step 1 4 (.step 1 5 (.step 1 2 (.step 2 3 (.step 1 6 .nil)))))))) (by kernel_rfl) rfl ?_ | refine jc_draw (id := 12) (.step 2 0 (.step 2 1 (.fork (.step 1 2 (.step 1 3 (.step 1 4 (.step 2 5 (.step 1 6 .nil))))) (.step 1 4 (.step 1 5 (.step 1 2 (.step 2 3 (.step 1 6 .nil)))))))) (by kernel_rfl) rfl ?_ | refine jc_drawn (by kernel_rfl) rfl ?_ | refine jc_cond_t rfl ?_ | refine jc_cond_f rfl ?_ | refine jc_cond_lt rfl (fun hc => ?_) (fun hc => ?_) | refine jc_cond_ge rfl (fun hc => ?_) (fun hc => ?_) | refine jc_cond_eq rfl (fun hc => ?_) (fun hc => ?_) | refine jc_cond_ne rfl (fun hc => ?_) (fun hc => ?_) | refine jc_cond rfl (fun hc => ?_) (fun hc => ?_) | refine jc_skip ?_ | refine jc_ret ?_ | refine jc_exit ?_ | refine jc_block ?_) | (guard_target =~ Kthen _ _ _ _; first | refine k_then ?_ | refine k_then_r ?_ | refine k_then_e ?_) | (guard_target =~ Kblock _ _ _ _; first | refine k_block_n ?_ | refine k_block_r ?_ | refine k_block_hit ?_ | refine k_block_miss rfl ?_) | (guard_target =~ JR _ _ _ _ _ _ _ _; refine jr_step ?_))
  refine jc_inv (fun q : Nat × MD Rc × Nat => ⟨[(14, .v (.int .i64 q.1)), (13, .v (.int .i64 M.length)), (12, .s 1 0 M.length c'), (5, .v (.map (some n))), (0, .s 0 0 L.length c)], [.ro (α 0) (encs Rc.e L), .ro (α 1) (encs Rc.e M), .obj n (.map (encM Rc.key q.2.1).toArray q.2.2)], []⟩) (fun q => q.1 ≤ M.length ∧ MGood q.2.1 q.2.2 ∧ ∀ x, mat (.int .i64 0) q.2.1 x = .int .i64 ((M.take q.1).count x)) (fun q => M.length - q.1) (0, [], 0) ⟨by simp, ⟨List.Pairwise.nil, by simp⟩, fun x => by simp [mat, mfind]⟩ (wk [0, 1, 2] rfl rfl (by repeat' (first | exact EnvIn.nil | refine EnvIn.cons rfl rfl ?_))) ?_
  rintro ⟨k, D, cl⟩ ⟨hk, hg, hm⟩
  dsimp only at hk hg hm ⊢
  have hcnt : ∀ x, (M.take k).count x ≤ 10000000 := fun x => by
    have := List.count_le_length (a := x) (l := M.take k)
    simp at this; omega
  repeat' (first | (guard_target =~ JL _ _ _ _ _ _ _ _; first | refine jl_nil ?_ | refine jl_same rfl rfl rfl rfl rfl ?_ | refine jl_v rfl rfl rfl rfl (ov_int rfl rfl (by simp only [inK]; omega)) ?_ | refine jl_p rfl rfl rfl rfl rfl ?_ | refine jl_s rfl rfl rfl ?_ | refine jl_st rfl rfl rfl rfl ?_ | refine jl_n rfl rfl rfl rfl rfl (fun n => rfl) (fun n => ?_) | refine jl_v rfl rfl rfl rfl (ov_index rfl rfl rfl rfl rfl (by first | omega | (simp only []; omega)) (by first | omega | (simp only []; omega))) ?_ | refine jl_v rfl rfl rfl rfl (ov_load rfl rfl rfl (at0 Rc.el (by first | omega | (simp only []; omega))) rfl rfl) ?_ | refine jl_x rfl rfl (ox_lookup (i := 2) (M[k]'(by omega)) rcKey rfl rfl rfl rfl (by first|exact hm _|exact (hm1 _).trans (hm _)) ?_) | refine jl_x rfl rfl (ox_mapEntry (i := 2) (M[k]'(by omega)) rcKey rfl rfl rfl rfl rfl (by assumption) (hm _) (fun _ _ => rfl) (fun D1 cl1 b1 hg1 hm1 hb1 => ?_)) | refine jl_x rfl rfl (ox_entryStore (i := 2) (M[k]'(by omega)) (.int .i64 0) rfl rfl rfl rfl rfl hg1 hb1 (fun _ => rfl) (fun D2 hg2 hm2 => ?_)) | ((fail_if_success (refine jl_gt rfl ?_)); first | (refine jl_split_lt rfl rfl rfl (fun hc => ?_) (fun hc => ?_)) | (refine jl_split_ge rfl rfl rfl (fun hc => ?_) (fun hc => ?_)) | (refine jl_split_eq rfl rfl rfl (fun hc => ?_) (fun hc => ?_)) | (refine jl_split_ne rfl rfl rfl (fun hc => ?_) (fun hc => ?_)) | (refine jl_split rfl rfl rfl (fun hc => ?_) (fun hc => ?_)))) | (guard_target =~ JO _ _ _ _ _ _ _ _; first | refine JO.nil ?_ | refine JO.fork ?_ ?_ | refine jo_same rfl rfl rfl rfl rfl rfl ?_ | refine jo_v rfl rfl rfl rfl rfl (ov_int rfl rfl (by simp only [inK]; omega)) ?_ | refine jo_p rfl rfl rfl rfl rfl rfl ?_ | refine jo_s rfl rfl rfl rfl ?_ | refine jo_st rfl rfl rfl rfl rfl ?_ | refine jo_n rfl rfl rfl rfl rfl rfl (fun n => rfl) (fun n => ?_) | refine jo_v rfl rfl rfl rfl rfl (ov_index rfl rfl rfl rfl rfl (by first | omega | (simp only []; omega)) (by first | omega | (simp only []; omega))) ?_ | refine jo_v rfl rfl rfl rfl rfl (ov_load rfl rfl rfl (at0 Rc.el (by first | omega | (simp only []; omega))) rfl rfl) ?_ | refine jo_x rfl rfl rfl (ox_lookup (i := 2) (M[k]'(by omega)) rcKey rfl rfl rfl rfl (by first|exact hm _|exact (hm1 _).trans (hm _)) ?_) | refine jo_x rfl rfl rfl (ox_mapEntry (i := 2) (M[k]'(by omega)) rcKey rfl rfl rfl rfl rfl (by assumption) (hm _) (fun _ _ => rfl) (fun D1 cl1 b1 hg1 hm1 hb1 => ?_)) | refine jo_x rfl rfl rfl (ox_entryStore (i := 2) (M[k]'(by omega)) (.int .i64 0) rfl rfl rfl rfl rfl hg1 hb1 (fun _ => rfl) (fun D2 hg2 hm2 => ?_)) | ((fail_if_success (refine jo_gt rfl rfl ?_)); first | (refine jo_split_lt rfl rfl rfl rfl (fun hc => ?_) (fun hc => ?_)) | (refine jo_split_ge rfl rfl rfl rfl (fun hc => ?_) (fun hc => ?_)) | (refine jo_split_eq rfl rfl rfl rfl (fun hc => ?_) (fun hc => ?_)) | (refine jo_split_ne rfl rfl rfl rfl (fun hc => ?_) (fun hc => ?_)) | (refine jo_split rfl rfl rfl rfl (fun hc => ?_) (fun hc => ?_)))) | (guard_target =~ JC _ _ _ _ _ _ _; first | refine jc_seq ?_ | refine jc_region ?_ | refine jc_draw (id := 5) (.step 2 0 (.step 2 1 (.fork (.step 1 2 (.step 1 3 (.step 1 4 (.step 2 5 (.step 1 6 .nil))))) (.step 1 4 (.step 1 5 (.step 1 2 (.step 2 3 (.step 1 6 .nil)))))))) (by kernel_rfl) rfl ?_ | refine jc_draw (id := 12) (.step 2 0 (.step 2 1 (.fork (.step 1 2 (.step 1 3 (.step 1 4 (.step 2 5 (.step 1 6 .nil))))) (.step 1 4 (.step 1 5 (.step 1 2 (.step 2 3 (.step 1 6 .nil)))))))) (by kernel_rfl) rfl ?_ | refine jc_drawn (by kernel_rfl) rfl ?_ | refine jc_cond_t rfl ?_ | refine jc_cond_f rfl ?_ | refine jc_cond_lt rfl (fun hc => ?_) (fun hc => ?_) | refine jc_cond_ge rfl (fun hc => ?_) (fun hc => ?_) | refine jc_cond_eq rfl (fun hc => ?_) (fun hc => ?_) | refine jc_cond_ne rfl (fun hc => ?_) (fun hc => ?_) | refine jc_cond rfl (fun hc => ?_) (fun hc => ?_) | refine jc_skip ?_ | refine jc_ret ?_ | refine jc_exit ?_ | refine jc_block ?_) | (guard_target =~ Kthen _ _ _ _; first | refine k_then ?_ | refine k_then_r ?_ | refine k_then_e ?_) | (guard_target =~ Kblock _ _ _ _; first | refine k_block_n ?_ | refine k_block_r ?_ | refine k_block_hit ?_ | refine k_block_miss rfl ?_) | (guard_target =~ JR _ _ _ _ _ _ _ _; refine jr_step ?_))
  iterate 2
    · have hk' : k < M.length := by omega
      refine ⟨(k + 1, D2, cl1), ⟨by dsimp only; omega, hg2, fun x => ?_⟩, by dsimp only; omega, by dsimp only; exact (wk [0, 1, 2] rfl rfl (by repeat' (first | exact EnvIn.nil | refine EnvIn.cons rfl rfl ?_)))⟩
      dsimp only
      rw [hm2, List.take_succ_eq_append_getElem hk', List.count_append, List.count_singleton]
      by_cases hx : x = M[k]
      · subst hx
        have := hcnt M[k]
        first | (simp; done) | (simp; exact i64w _ (by omega) (by omega))
      · rw [if_neg hx, hm1, hm, if_neg (by simpa using fun e => hx e.symm)]; rfl
  have e : k = M.length := by omega
  rw [e, List.take_length] at hm hcnt
  repeat' (first | (guard_target =~ JL _ _ _ _ _ _ _ _; first | refine jl_nil ?_ | refine jl_same rfl rfl rfl rfl rfl ?_ | refine jl_v rfl rfl rfl rfl (ov_int rfl rfl (by simp only [inK]; omega)) ?_ | refine jl_p rfl rfl rfl rfl rfl ?_ | refine jl_s rfl rfl rfl ?_ | refine jl_st rfl rfl rfl rfl ?_ | refine jl_n rfl rfl rfl rfl rfl (fun n => rfl) (fun n => ?_) | refine jl_x rfl rfl (ox_cons 19 (fun _ _ => by kernel_rfl) (sort_c L _ (by omega)) rfl rfl rfl (by repeat' (first | exact AM.nil | refine AM.x rfl ?_ | refine am_l rfl (by omega) ?_ | refine AM.r rfl (Sub.refl _) (by omega) (by omega) ?_ | refine AM.r rfl (Sub.refl _) (fun _ => rfl) (by omega) ?_ | refine AM.q rfl (Sub.refl _) (by simp) ?_ | refine AM.w rfl (Sub.refl _) (by simp) ?_)) rfl rfl (fun _ _ => rfl) (fun c hc a => ?_)) | ((fail_if_success (refine jl_gt rfl ?_)); first | (refine jl_split_lt rfl rfl rfl (fun hc => ?_) (fun hc => ?_)) | (refine jl_split_ge rfl rfl rfl (fun hc => ?_) (fun hc => ?_)) | (refine jl_split_eq rfl rfl rfl (fun hc => ?_) (fun hc => ?_)) | (refine jl_split_ne rfl rfl rfl (fun hc => ?_) (fun hc => ?_)) | (refine jl_split rfl rfl rfl (fun hc => ?_) (fun hc => ?_)))) | (guard_target =~ JO _ _ _ _ _ _ _ _; first | refine JO.nil ?_ | refine JO.fork ?_ ?_ | refine jo_same rfl rfl rfl rfl rfl rfl ?_ | refine jo_v rfl rfl rfl rfl rfl (ov_int rfl rfl (by simp only [inK]; omega)) ?_ | refine jo_p rfl rfl rfl rfl rfl rfl ?_ | refine jo_s rfl rfl rfl rfl ?_ | refine jo_st rfl rfl rfl rfl rfl ?_ | refine jo_n rfl rfl rfl rfl rfl rfl (fun n => rfl) (fun n => ?_) | refine jo_x rfl rfl rfl (ox_cons 19 (fun _ _ => by kernel_rfl) (sort_c L _ (by omega)) rfl rfl rfl (by repeat' (first | exact AM.nil | refine AM.x rfl ?_ | refine am_l rfl (by omega) ?_ | refine AM.r rfl (Sub.refl _) (by omega) (by omega) ?_ | refine AM.r rfl (Sub.refl _) (fun _ => rfl) (by omega) ?_ | refine AM.q rfl (Sub.refl _) (by simp) ?_ | refine AM.w rfl (Sub.refl _) (by simp) ?_)) rfl rfl (fun _ _ => rfl) (fun c hc a => ?_)) | ((fail_if_success (refine jo_gt rfl rfl ?_)); first | (refine jo_split_lt rfl rfl rfl rfl (fun hc => ?_) (fun hc => ?_)) | (refine jo_split_ge rfl rfl rfl rfl (fun hc => ?_) (fun hc => ?_)) | (refine jo_split_eq rfl rfl rfl rfl (fun hc => ?_) (fun hc => ?_)) | (refine jo_split_ne rfl rfl rfl rfl (fun hc => ?_) (fun hc => ?_)) | (refine jo_split rfl rfl rfl rfl (fun hc => ?_) (fun hc => ?_)))) | (guard_target =~ JC _ _ _ _ _ _ _; first | refine jc_seq ?_ | refine jc_region ?_ | refine jc_draw (id := 5) (.step 2 0 (.step 2 1 (.fork (.step 1 2 (.step 1 3 (.step 1 4 (.step 2 5 (.step 1 6 .nil))))) (.step 1 4 (.step 1 5 (.step 1 2 (.step 2 3 (.step 1 6 .nil)))))))) (by kernel_rfl) rfl ?_ | refine jc_draw (id := 12) (.step 2 0 (.step 2 1 (.fork (.step 1 2 (.step 1 3 (.step 1 4 (.step 2 5 (.step 1 6 .nil))))) (.step 1 4 (.step 1 5 (.step 1 2 (.step 2 3 (.step 1 6 .nil)))))))) (by kernel_rfl) rfl ?_ | refine jc_drawn (by kernel_rfl) rfl ?_ | refine jc_cond_t rfl ?_ | refine jc_cond_f rfl ?_ | refine jc_cond_lt rfl (fun hc => ?_) (fun hc => ?_) | refine jc_cond_ge rfl (fun hc => ?_) (fun hc => ?_) | refine jc_cond_eq rfl (fun hc => ?_) (fun hc => ?_) | refine jc_cond_ne rfl (fun hc => ?_) (fun hc => ?_) | refine jc_cond rfl (fun hc => ?_) (fun hc => ?_) | refine jc_skip ?_ | refine jc_ret ?_ | refine jc_exit ?_ | refine jc_block ?_) | (guard_target =~ Kthen _ _ _ _; first | refine k_then ?_ | refine k_then_r ?_ | refine k_then_e ?_) | (guard_target =~ Kblock _ _ _ _; first | refine k_block_n ?_ | refine k_block_r ?_ | refine k_block_hit ?_ | refine k_block_miss rfl ?_) | (guard_target =~ JR _ _ _ _ _ _ _ _; refine jr_step ?_))
  refine jc_nilrow 8 24 rfl rfl rfl ?_
  refine jc_inv (fun q : Nat × (Rc → Nat) × List Rc × Nat × Option Addr × MD Rc × Nat => ⟨[(28, .v (.int .i64 q.1)), (27, .v (.int .i64 (rsort L).length)), (26, .s 0 0 (rsort L).length c), (5, .v (.map (some n))), (8, .s 1 0 q.2.2.1.length q.2.2.2.1)], [.row a 24 (c * 2) (encs Rc.e (rsort L)), .row q.2.2.2.2.1 24 (q.2.2.2.1 * 2) (encs Rc.e q.2.2.1), .obj n (.map (encM Rc.key q.2.2.2.2.2.1).toArray q.2.2.2.2.2.2)], []⟩)
    (fun q => q.1 ≤ (rsort L).length ∧ q.2.2.1.length ≤ q.2.2.2.1 ∧ q.2.2.1.length ≤ q.1 ∧ MGood q.2.2.2.2.2.1 q.2.2.2.2.2.2 ∧ (∀ x, mat (.int .i64 0) q.2.2.2.2.2.1 x = .int .i64 (q.2.1 x)) ∧ (∀ x, q.2.1 x ≤ 10000000) ∧ q.2.2.1 ++ mwalk ((rsort L).drop q.1) q.2.1 = rminus L M) (fun q => (rsort L).length - q.1) (0, fun x => M.count x, [], 0, none, D, cl) ⟨by simp, by simp, by simp, hg, hm, hcnt, by simpa [rminus] using mwalk_eq M (rsort L)⟩ (wk [3, 4, 2] rfl rfl (by repeat' (first | exact EnvIn.nil | refine EnvIn.cons rfl rfl ?_))) ?_
  rintro ⟨k, f, out, c1, a1, D, cl⟩ ⟨hk, hc1, ho, hg, hm, hf, hw⟩
  dsimp only at hk hc1 ho hg hm hf hw ⊢
  repeat' (first | (guard_target =~ JL _ _ _ _ _ _ _ _; first | refine jl_nil ?_ | refine jl_same rfl rfl rfl rfl rfl ?_ | refine jl_v rfl rfl rfl rfl (ov_int rfl rfl (by simp only [inK]; omega)) ?_ | refine jl_p rfl rfl rfl rfl rfl ?_ | refine jl_s rfl rfl rfl ?_ | refine jl_st rfl rfl rfl rfl ?_ | refine jl_n rfl rfl rfl rfl rfl (fun n => rfl) (fun n => ?_) | refine jl_v rfl rfl rfl rfl (ov_index rfl rfl rfl rfl rfl (by first | omega | (simp only []; omega)) (by first | omega | (simp only []; omega))) ?_ | refine jl_v rfl rfl rfl rfl (ov_load rfl rfl rfl (at0 Rc.el (by first | omega | (simp only []; omega))) rfl rfl) ?_ | refine jl_x rfl rfl (ox_lookup (i := 2) ((rsort L)[k]'(by omega)) rcKey rfl rfl rfl rfl (by first|exact hm _|exact (hm1 _).trans (hm _)) ?_) | refine jl_x rfl rfl (ox_mapEntry (i := 2) ((rsort L)[k]'(by omega)) rcKey rfl rfl rfl rfl rfl (by assumption) (hm _) (fun _ _ => rfl) (fun D1 cl1 b1 hg1 hm1 hb1 => ?_)) | refine jl_x rfl rfl (ox_entryStore (i := 2) ((rsort L)[k]'(by omega)) (.int .i64 0) rfl rfl rfl rfl rfl hg1 hb1 (fun _ => rfl) (fun D2 hg2 hm2 => ?_)) | refine jl_x rfl rfl (ox_app Rc.el Rc.e1 (L := out) (M := [(rsort L)[k]'(by omega)]) rfl rfl rfl rfl rfl rfl rfl rfl rfl rfl rfl rfl rfl (Sub.refl _) (by first | omega | (simp only [List.length_nil, List.length_append, List.length_cons, List.length_drop, List.length_take, List.length_singleton]; done) | (simp only [List.length_nil, List.length_append, List.length_cons, List.length_drop, List.length_take, List.length_singleton]; omega)) (by first | omega | (simp only [List.length_nil, List.length_append, List.length_cons, List.length_drop, List.length_take, List.length_singleton]; done) | (simp only [List.length_nil, List.length_append, List.length_cons, List.length_drop, List.length_take, List.length_singleton]; omega)) (by first | omega | (simp only [List.length_nil, List.length_append, List.length_cons, List.length_drop, List.length_take, List.length_singleton]; done) | (simp only [List.length_nil, List.length_append, List.length_cons, List.length_drop, List.length_take, List.length_singleton]; omega)) (by first | omega | (simp only [List.length_nil, List.length_append, List.length_cons, List.length_drop, List.length_take, List.length_singleton]; done) | (simp only [List.length_nil, List.length_append, List.length_cons, List.length_drop, List.length_take, List.length_singleton]; omega)) rfl (fun _ _ => rfl) (fun c hc a => ?_)) | ((fail_if_success (refine jl_gt rfl ?_)); first | (refine jl_split_lt rfl rfl rfl (fun hc => ?_) (fun hc => ?_)) | (refine jl_split_ge rfl rfl rfl (fun hc => ?_) (fun hc => ?_)) | (refine jl_split_eq rfl rfl rfl (fun hc => ?_) (fun hc => ?_)) | (refine jl_split_ne rfl rfl rfl (fun hc => ?_) (fun hc => ?_)) | (refine jl_split rfl rfl rfl (fun hc => ?_) (fun hc => ?_)))) | (guard_target =~ JO _ _ _ _ _ _ _ _; first | refine JO.nil ?_ | refine JO.fork ?_ ?_ | refine jo_same rfl rfl rfl rfl rfl rfl ?_ | refine jo_v rfl rfl rfl rfl rfl (ov_int rfl rfl (by simp only [inK]; omega)) ?_ | refine jo_p rfl rfl rfl rfl rfl rfl ?_ | refine jo_s rfl rfl rfl rfl ?_ | refine jo_st rfl rfl rfl rfl rfl ?_ | refine jo_n rfl rfl rfl rfl rfl rfl (fun n => rfl) (fun n => ?_) | refine jo_v rfl rfl rfl rfl rfl (ov_index rfl rfl rfl rfl rfl (by first | omega | (simp only []; omega)) (by first | omega | (simp only []; omega))) ?_ | refine jo_v rfl rfl rfl rfl rfl (ov_load rfl rfl rfl (at0 Rc.el (by first | omega | (simp only []; omega))) rfl rfl) ?_ | refine jo_x rfl rfl rfl (ox_lookup (i := 2) ((rsort L)[k]'(by omega)) rcKey rfl rfl rfl rfl (by first|exact hm _|exact (hm1 _).trans (hm _)) ?_) | refine jo_x rfl rfl rfl (ox_mapEntry (i := 2) ((rsort L)[k]'(by omega)) rcKey rfl rfl rfl rfl rfl (by assumption) (hm _) (fun _ _ => rfl) (fun D1 cl1 b1 hg1 hm1 hb1 => ?_)) | refine jo_x rfl rfl rfl (ox_entryStore (i := 2) ((rsort L)[k]'(by omega)) (.int .i64 0) rfl rfl rfl rfl rfl hg1 hb1 (fun _ => rfl) (fun D2 hg2 hm2 => ?_)) | refine jo_x rfl rfl rfl (ox_app Rc.el Rc.e1 (L := out) (M := [(rsort L)[k]'(by omega)]) rfl rfl rfl rfl rfl rfl rfl rfl rfl rfl rfl rfl rfl (Sub.refl _) (by first | omega | (simp only [List.length_nil, List.length_append, List.length_cons, List.length_drop, List.length_take, List.length_singleton]; done) | (simp only [List.length_nil, List.length_append, List.length_cons, List.length_drop, List.length_take, List.length_singleton]; omega)) (by first | omega | (simp only [List.length_nil, List.length_append, List.length_cons, List.length_drop, List.length_take, List.length_singleton]; done) | (simp only [List.length_nil, List.length_append, List.length_cons, List.length_drop, List.length_take, List.length_singleton]; omega)) (by first | omega | (simp only [List.length_nil, List.length_append, List.length_cons, List.length_drop, List.length_take, List.length_singleton]; done) | (simp only [List.length_nil, List.length_append, List.length_cons, List.length_drop, List.length_take, List.length_singleton]; omega)) (by first | omega | (simp only [List.length_nil, List.length_append, List.length_cons, List.length_drop, List.length_take, List.length_singleton]; done) | (simp only [List.length_nil, List.length_append, List.length_cons, List.length_drop, List.length_take, List.length_singleton]; omega)) rfl (fun _ _ => rfl) (fun c hc a => ?_)) | ((fail_if_success (refine jo_gt rfl rfl ?_)); first | (refine jo_split_lt rfl rfl rfl rfl (fun hc => ?_) (fun hc => ?_)) | (refine jo_split_ge rfl rfl rfl rfl (fun hc => ?_) (fun hc => ?_)) | (refine jo_split_eq rfl rfl rfl rfl (fun hc => ?_) (fun hc => ?_)) | (refine jo_split_ne rfl rfl rfl rfl (fun hc => ?_) (fun hc => ?_)) | (refine jo_split rfl rfl rfl rfl (fun hc => ?_) (fun hc => ?_)))) | (guard_target =~ JC _ _ _ _ _ _ _; first | refine jc_seq ?_ | refine jc_region ?_ | refine jc_draw (id := 5) (.step 2 0 (.step 2 1 (.fork (.step 1 2 (.step 1 3 (.step 1 4 (.step 2 5 (.step 1 6 .nil))))) (.step 1 4 (.step 1 5 (.step 1 2 (.step 2 3 (.step 1 6 .nil)))))))) (by kernel_rfl) rfl ?_ | refine jc_draw (id := 12) (.step 2 0 (.step 2 1 (.fork (.step 1 2 (.step 1 3 (.step 1 4 (.step 2 5 (.step 1 6 .nil))))) (.step 1 4 (.step 1 5 (.step 1 2 (.step 2 3 (.step 1 6 .nil)))))))) (by kernel_rfl) rfl ?_ | refine jc_drawn (by kernel_rfl) rfl ?_ | refine jc_cond_t rfl ?_ | refine jc_cond_f rfl ?_ | refine jc_cond_lt rfl (fun hc => ?_) (fun hc => ?_) | refine jc_cond_ge rfl (fun hc => ?_) (fun hc => ?_) | refine jc_cond_eq rfl (fun hc => ?_) (fun hc => ?_) | refine jc_cond_ne rfl (fun hc => ?_) (fun hc => ?_) | refine jc_cond rfl (fun hc => ?_) (fun hc => ?_) | refine jc_skip ?_ | refine jc_ret ?_ | refine jc_exit ?_ | refine jc_block ?_) | (guard_target =~ Kthen _ _ _ _; first | refine k_then ?_ | refine k_then_r ?_ | refine k_then_e ?_) | (guard_target =~ Kblock _ _ _ _; first | refine k_block_n ?_ | refine k_block_r ?_ | refine k_block_hit ?_ | refine k_block_miss rfl ?_) | (guard_target =~ JR _ _ _ _ _ _ _ _; refine jr_step ?_))
  iterate 2
    · have hk' : k < (rsort L).length := by omega
      have hpos : 0 < f (rsort L)[k] := by omega
      have hfk := hf (rsort L)[k]
      rw [List.drop_eq_getElem_cons hk', mwalk, if_pos hpos] at hw
      refine ⟨(k + 1, decAt f (rsort L)[k], out, c1, a1, D2, cl1), ⟨by dsimp only; omega, by dsimp only; omega, by dsimp only; omega, hg2, fun x => ?_, fun x => ?_, hw⟩, by dsimp only; omega, by dsimp only; exact (wk [0, 1, 2] rfl rfl (by repeat' (first | exact EnvIn.nil | refine EnvIn.cons rfl rfl ?_)))⟩
      · dsimp only
        rw [hm2]
        by_cases hx : x = (rsort L)[k]
        · subst hx
          simp only [if_true, decAt_self]
          first | (congr 1; omega) | (rw [i64w _ (by omega) (by omega)]; congr 1; omega)
        · rw [if_neg hx, decAt_ne f hx, hm1, hm]
      · exact Nat.le_trans (decAt_le f _ x) (hf x)
  · have hk' : k < (rsort L).length := by omega
    have hpos : ¬ 0 < f (rsort L)[k] := by omega
    rw [List.drop_eq_getElem_cons hk', mwalk, if_neg hpos] at hw
    refine ⟨(k + 1, f, out ++ [(rsort L)[k]], c, a, D, cl), ⟨by dsimp only; omega, by dsimp only; simp at *; omega, by simp; omega, hg, hm, hf, by simpa using hw⟩, by dsimp only; omega, ?_⟩
    dsimp only
    exact (wk [0, 5, 2] rfl rfl (by repeat' (first | exact EnvIn.nil | refine EnvIn.cons rfl rfl ?_)))
  · have e : k = (rsort L).length := by omega
    subst e
    rw [List.drop_length, mwalk, List.append_nil] at hw
    subst hw
    exact fin_s (i := 1) (.inr rfl) rfl (rise rfl) rfl (by decide) (by assumption)
end Go.Proofs.Ytoihhhnloogkiaa
