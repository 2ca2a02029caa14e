/- The walks of SummaryOrders and SummaryTotal. -/
import Derived.Test.YtjnihfmmmadlhaaDt
namespace Go.Proofs.Ytjnihfmmmadlhaa
open Go Go.RowKit
set_option linter.unusedSimpArgs false
set_option maxHeartbeats 4000000
set_option linter.unusedVariables false
attribute [local irreducible] JC JL OX OV Kthen Kblock JR FendG
theorem orders_w (s r : Sm) : Con C.P 9 [.x s.v, .x r.v] (fun W => PV W (.bool true)) := by
  refine con_e Try.func9 rfl _ Try.ntmps9 rfl (fun W α => ?_)
  repeat' (first | (guard_target =~ JL _ _ _ _ _ _ _ _; first | refine jl_nil ?_ | refine jl_same rfl rfl rfl rfl rfl ?_ | refine jl_v rfl rfl rfl rfl (ov_int rfl rfl (by simp only [inK]; omega)) ?_ | refine jl_p rfl rfl rfl rfl rfl ?_ | refine jl_s rfl rfl rfl ?_ | refine jl_st rfl rfl rfl rfl ?_ | refine jl_n rfl rfl rfl rfl rfl (fun n => rfl) (fun n => ?_) | refine jl_x rfl rfl (ox_pvf 11 (shown_c) rfl rfl rfl rfl (fun _ _ => by kernel_rfl) ?_) | refine jl_x rfl rfl (ox_pvf 26 (less_c s r) rfl rfl rfl rfl (fun _ _ => by kernel_rfl) ?_) | refine jl_x rfl rfl (ox_pvf 29 (rless_c s r) rfl rfl rfl rfl (fun _ _ => by kernel_rfl) ?_) | refine jl_x rfl rfl (ox_pvf 30 (order_c s r) rfl rfl rfl rfl (fun _ _ => by kernel_rfl) ?_) | refine jl_x rfl rfl (ox_pvf 31 (rorder_c s r) rfl rfl rfl rfl (fun _ _ => by kernel_rfl) ?_) | ((fail_if_success (refine jl_gt rfl ?_)); first | (refine jl_split_lt rfl rfl rfl (fun hc => ?_) (fun hc => ?_)) | (refine jl_split_ge rfl rfl rfl (fun hc => ?_) (fun hc => ?_)) | (refine jl_split_eq rfl rfl rfl (fun hc => ?_) (fun hc => ?_)) | (refine jl_split_ne rfl rfl rfl (fun hc => ?_) (fun hc => ?_)) | (refine jl_split rfl rfl rfl (fun hc => ?_) (fun hc => ?_)))) | (guard_target =~ JO _ _ _ _ _ _ _ _; first | refine JO.nil ?_ | refine JO.fork ?_ ?_ | refine jo_same rfl rfl rfl rfl rfl rfl ?_ | refine jo_v rfl rfl rfl rfl rfl (ov_int rfl rfl (by simp only [inK]; omega)) ?_ | refine jo_p rfl rfl rfl rfl rfl rfl ?_ | refine jo_s rfl rfl rfl rfl ?_ | refine jo_st rfl rfl rfl rfl rfl ?_ | refine jo_n rfl rfl rfl rfl rfl rfl (fun n => rfl) (fun n => ?_) | refine jo_x rfl rfl rfl (ox_pvf 11 (shown_c) rfl rfl rfl rfl (fun _ _ => by kernel_rfl) ?_) | refine jo_x rfl rfl rfl (ox_pvf 26 (less_c s r) rfl rfl rfl rfl (fun _ _ => by kernel_rfl) ?_) | refine jo_x rfl rfl rfl (ox_pvf 29 (rless_c s r) rfl rfl rfl rfl (fun _ _ => by kernel_rfl) ?_) | refine jo_x rfl rfl rfl (ox_pvf 30 (order_c s r) rfl rfl rfl rfl (fun _ _ => by kernel_rfl) ?_) | refine jo_x rfl rfl rfl (ox_pvf 31 (rorder_c s r) rfl rfl rfl rfl (fun _ _ => by kernel_rfl) ?_) | ((fail_if_success (refine jo_gt rfl rfl ?_)); first | (refine jo_split_lt rfl rfl rfl rfl (fun hc => ?_) (fun hc => ?_)) | (refine jo_split_ge rfl rfl rfl rfl (fun hc => ?_) (fun hc => ?_)) | (refine jo_split_eq rfl rfl rfl rfl (fun hc => ?_) (fun hc => ?_)) | (refine jo_split_ne rfl rfl rfl rfl (fun hc => ?_) (fun hc => ?_)) | (refine jo_split rfl rfl rfl rfl (fun hc => ?_) (fun hc => ?_)))) | (guard_target =~ JC _ _ _ _ _ _ _; first | refine jc_seq ?_ | refine jc_region ?_ | refine jc_draw (id := 2) (.step 1 0 (.step 2 1 (.step 1 2 (.step 1 3 (.step 1 5 (.step 1 6 (.step 1 4 (.step 1 7 (.step 2 8 (.step 2 9 (.step 2 10 (.step 2 11 (.step 2 12 (.step 1 14 (.step 1 15 (.step 1 13 (.step 1 16 (.step 2 17 (.step 2 18 (.step 2 19 .nil)))))))))))))))))))) (by kernel_rfl) rfl ?_ | refine jc_drawn (by kernel_rfl) rfl ?_ | refine jc_cond_t rfl ?_ | refine jc_cond_f rfl ?_ | refine jc_cond_lt rfl (fun hc => ?_) (fun hc => ?_) | refine jc_cond_ge rfl (fun hc => ?_) (fun hc => ?_) | refine jc_cond_eq rfl (fun hc => ?_) (fun hc => ?_) | refine jc_cond_ne rfl (fun hc => ?_) (fun hc => ?_) | refine jc_cond rfl (fun hc => ?_) (fun hc => ?_) | refine jc_skip ?_ | refine jc_ret ?_ | refine jc_exit ?_ | refine jc_block ?_) | (guard_target =~ Kthen _ _ _ _; first | refine k_then ?_ | refine k_then_r ?_ | refine k_then_e ?_) | (guard_target =~ Kblock _ _ _ _; first | refine k_block_n ?_ | refine k_block_r ?_ | refine k_block_hit ?_ | refine k_block_miss rfl ?_) | (guard_target =~ JR _ _ _ _ _ _ _ _; refine jr_step ?_))
  all_goals first | exact fin1 (.inr rfl) rfl (ris rfl) (fin_pv rfl) | trace_state
/-- Numbers the other way round. -/
theorem cmpL_neg : ∀ {L M : List Int}, cmpL M L = - cmpL L M
  | [], [] => rfl
  | [], _ :: _ => rfl
  | _ :: _, [] => rfl
  | x :: xs, y :: ys => by
    rw [cmpL_cons, cmpL_cons, cmpL_neg (L := xs) (M := ys)]
    repeat' split
    all_goals first | rfl | omega | (exfalso; omega)
theorem cmpL_range : ∀ (L M : List Int), cmpL L M = -1 ∨ cmpL L M = 0 ∨ cmpL L M = 1
  | [], [] => .inr (.inl rfl)
  | [], _ :: _ => .inl rfl
  | _ :: _, [] => .inr (.inr rfl)
  | x :: xs, y :: ys => by
    rw [cmpL_cons]
    have := cmpL_range xs ys
    repeat' split
    all_goals omega
theorem cmpL_zero : ∀ {L M : List Int}, cmpL L M = 0 → L = M
  | [], [], _ => rfl
  | [], _ :: _, h => absurd h (show ¬ (-1 : Int) = 0 by decide)
  | _ :: _, [], h => absurd h (show ¬ (1 : Int) = 0 by decide)
  | x :: xs, y :: ys, h => by
    rw [cmpL_cons] at h
    split at h
    · omega
    · split at h
      · omega
      · rw [cmpL_zero h, show x = y by omega]
theorem nums_inj {s r : Sm} (h : s.nums = r.nums) : s = r := by
  obtain ⟨a, b, c, d, e, f, g⟩ := s
  obtain ⟨a', b', c', d', e', f', g'⟩ := r
  simpa [Sm.nums] using h
theorem cmpL_self (L : List Int) : cmpL L L = 0 := by
  induction L with
  | nil => rfl
  | cons x xs ih => rw [cmpL_cons, if_neg (by omega), if_neg (by omega)]; exact ih
/-- What is less stands ahead. -/
theorem less_ahead {s r : Sm} (h : lessS s r = true) : cmpL s.nums r.nums ≤ 0 := by
  have h1 : s.may = true := by simp [lessS] at h; exact h.1.1.1.1
  have h2 : r.may = true := by simp [lessS] at h; exact h.1.1.1.2
  rw [lessS_eq s r h1 h2] at h
  have k1 := (Sm.may_iff s).1 h1
  have k2 := (Sm.may_iff r).1 h2
  simp only [Bool.and_eq_true, Bool.or_eq_true, decide_eq_true_eq] at h
  simp only [Sm.nums, cmpL]
  repeat' split
  all_goals first | decide | omega
theorem then_ok {s r q : Sm} (h : thenS s r = (q, 0)) : s.may = true ∧ r.may = true ∧ s.t = r.f ∧ (ontoT r s.e s.a s.b s.c).may = true ∧ q = ⟨s.f, r.t, min s.k r.k, r.e + s.e, if 0 < r.k then r.a + s.a else r.a, if 1 < r.k then r.b + s.b else r.b, if 2 < r.k then r.c + s.c else r.c⟩ := by
  unfold thenS at h
  split at h
  · rename_i hg
    split at h
    · rename_i hm
      exact ⟨hg.1, hg.2.1, hg.2.2, hm, (Prod.mk.inj h).1.symm⟩
    · exact absurd (Prod.mk.inj h).2 (by decide)
  · exact absurd (Prod.mk.inj h).2 (by decide)
theorem then_may {s r q : Sm} (h : thenS s r = (q, 0)) : q.may = true := by
  obtain ⟨h1, h2, h3, h4, rfl⟩ := then_ok h
  have k1 := (Sm.may_iff s).1 h1
  have k2 := (Sm.may_iff r).1 h2
  have k4 := (Tm.may_iff _).1 h4
  simp only [ontoT] at k4
  rw [Sm.may_iff]
  dsimp only
  omega
/-- What is done behind what is less is less. -/
theorem less_then {a b c x y : Sm} (h : lessS a b = true) (h1 : thenS a c = (x, 0)) (h2 : thenS b c = (y, 0)) : lessS x y = true := by
  have hx := then_may h1
  have hy := then_may h2
  rw [lessS_eq x y hx hy]
  obtain ⟨ha, hc, e1, -, rfl⟩ := then_ok h1
  obtain ⟨hb, -, e2, -, rfl⟩ := then_ok h2
  rw [lessS_eq a b ha hb] at h
  have k1 := (Sm.may_iff a).1 ha
  have k2 := (Sm.may_iff b).1 hb
  have k3 := (Sm.may_iff c).1 hc
  simp only [Bool.and_eq_true, Bool.or_eq_true, decide_eq_true_eq] at h ⊢
  clear h1 h2 ha hb hc hx hy
  obtain ⟨⟨⟨⟨⟨⟨h1, h2⟩, h3⟩, h4⟩, h5⟩, h6⟩, h7⟩ := h
  refine ⟨⟨⟨⟨⟨⟨h1, trivial⟩, by omega⟩, by omega⟩, ?_⟩, ?_⟩, ?_⟩
  all_goals (right; split <;> omega)
theorem same_key (a b : Sm) : eqB (cmpL a.nums b.nums) 0 = (eqB a.f b.f && (eqB a.t b.t && (eqB a.k b.k && (eqB a.e b.e && (eqB a.a b.a && (eqB a.b b.b && (eqB a.c b.c && true))))))) := by
  rw [Bool.eq_iff_iff]
  simp only [eqB_eq, Bool.and_eq_true, decide_eq_true_eq, and_true]
  constructor
  · intro h
    have := nums_inj (cmpL_zero h)
    subst this
    simp
  · rintro ⟨h1, h2, h3, h4, h5, h6, h7⟩
    have : a.nums = b.nums := by simp only [Sm.nums, h1, h2, h3, h4, h5, h6, h7]
    rw [this, cmpL_self]
theorem total_w (a b c : Sm) : Con C.P 10 [.x a.v, .x b.v, .x c.v] (fun W => PV W (.bool true)) := by
  have o1 := order_c a b
  have o2 : ∀ w, Calls C.P 30 [b.v, a.v].toArray w (PV w (.int .i64 (- cmpL a.nums b.nums))) := fun w => by rw [← cmpL_neg]; exact order_c b a w
  have hr := cmpL_range a.nums b.nums
  have hk := same_key a b
  cases hl : lessS a b with
  | false =>
    have l1 : ∀ w, Calls C.P 26 [a.v, b.v].toArray w (PV w (.bool false)) := fun w => by rw [← hl]; exact less_c a b w
    refine con_e Try.func10 rfl _ Try.ntmps10 rfl (fun W α => ?_)
    repeat' (first | (guard_target =~ JL _ _ _ _ _ _ _ _; first | refine jl_nil ?_ | refine jl_same rfl rfl rfl rfl rfl ?_ | refine jl_v rfl rfl rfl rfl (ov_int rfl rfl (by simp only [inK]; omega)) ?_ | refine jl_p rfl rfl rfl rfl rfl ?_ | refine jl_s rfl rfl rfl ?_ | refine jl_st rfl rfl rfl rfl ?_ | refine jl_n rfl rfl rfl rfl rfl (fun n => rfl) (fun n => ?_) | refine jl_x rfl rfl (ox_pvf 11 (shown_c) rfl rfl rfl rfl (fun _ _ => by kernel_rfl) ?_) | refine jl_x rfl rfl (ox_pvf 30 (o1) rfl rfl rfl rfl (fun _ _ => by kernel_rfl) ?_) | refine jl_x rfl rfl (ox_pvf 30 (o2) rfl rfl rfl rfl (fun _ _ => by kernel_rfl) ?_) | refine jl_x rfl rfl (ox_pvf 26 (l1) rfl rfl rfl rfl (fun _ _ => by kernel_rfl) ?_) | ((fail_if_success (refine jl_gt rfl ?_)); first | (refine jl_split_lt rfl rfl rfl (fun hc => ?_) (fun hc => ?_)) | (refine jl_split_ge rfl rfl rfl (fun hc => ?_) (fun hc => ?_)) | (refine jl_split_eq rfl rfl rfl (fun hc => ?_) (fun hc => ?_)) | (refine jl_split_ne rfl rfl rfl (fun hc => ?_) (fun hc => ?_)) | (refine jl_split rfl rfl rfl (fun hc => ?_) (fun hc => ?_)))) | (guard_target =~ JO _ _ _ _ _ _ _ _; first | refine JO.nil ?_ | refine JO.fork ?_ ?_ | refine jo_same rfl rfl rfl rfl rfl rfl ?_ | refine jo_v rfl rfl rfl rfl rfl (ov_int rfl rfl (by simp only [inK]; omega)) ?_ | refine jo_p rfl rfl rfl rfl rfl rfl ?_ | refine jo_s rfl rfl rfl rfl ?_ | refine jo_st rfl rfl rfl rfl rfl ?_ | refine jo_n rfl rfl rfl rfl rfl rfl (fun n => rfl) (fun n => ?_) | refine jo_x rfl rfl rfl (ox_pvf 11 (shown_c) rfl rfl rfl rfl (fun _ _ => by kernel_rfl) ?_) | refine jo_x rfl rfl rfl (ox_pvf 30 (o1) rfl rfl rfl rfl (fun _ _ => by kernel_rfl) ?_) | refine jo_x rfl rfl rfl (ox_pvf 30 (o2) rfl rfl rfl rfl (fun _ _ => by kernel_rfl) ?_) | refine jo_x rfl rfl rfl (ox_pvf 26 (l1) rfl rfl rfl rfl (fun _ _ => by kernel_rfl) ?_) | ((fail_if_success (refine jo_gt rfl rfl ?_)); first | (refine jo_split_lt rfl rfl rfl rfl (fun hc => ?_) (fun hc => ?_)) | (refine jo_split_ge rfl rfl rfl rfl (fun hc => ?_) (fun hc => ?_)) | (refine jo_split_eq rfl rfl rfl rfl (fun hc => ?_) (fun hc => ?_)) | (refine jo_split_ne rfl rfl rfl rfl (fun hc => ?_) (fun hc => ?_)) | (refine jo_split rfl rfl rfl rfl (fun hc => ?_) (fun hc => ?_)))) | (guard_target =~ JC _ _ _ _ _ _ _; first | refine jc_seq ?_ | refine jc_region ?_ | refine jc_draw (id := 2) (.step 1 0 (.step 1 1 (.step 1 3 (.step 1 4 (.step 1 2 (.step 1 5 (.step 2 6 (.step 2 7 (.step 2 8 (.step 2 9 (.step 2 10 (.step 1 13 (.step 1 14 (.step 1 15 (.step 1 11 (.step 2 12 (.step 2 16 (.step 2 17 .nil)))))))))))))))))) (by kernel_rfl) rfl ?_ | refine jc_drawn (by kernel_rfl) rfl ?_ | refine jc_cond_t rfl ?_ | refine jc_cond_f rfl ?_ | refine jc_cond_lt rfl (fun hc => ?_) (fun hc => ?_) | refine jc_cond_ge rfl (fun hc => ?_) (fun hc => ?_) | refine jc_cond_eq rfl (fun hc => ?_) (fun hc => ?_) | refine jc_cond_ne rfl (fun hc => ?_) (fun hc => ?_) | refine jc_cond rfl (fun hc => ?_) (fun hc => ?_) | refine jc_skip ?_ | refine jc_ret ?_ | refine jc_exit ?_ | refine jc_block ?_) | (guard_target =~ Kthen _ _ _ _; first | refine k_then ?_ | refine k_then_r ?_ | refine k_then_e ?_) | (guard_target =~ Kblock _ _ _ _; first | refine k_block_n ?_ | refine k_block_r ?_ | refine k_block_hit ?_ | refine k_block_miss rfl ?_) | (guard_target =~ JR _ _ _ _ _ _ _ _; refine jr_step ?_))
    all_goals first | exact fin1 (.inr rfl) rfl (ris rfl) (fin_pv rfl) | (exfalso; omega) | (exfalso; rw [hk] at hc; simp at hc; done) | trace_state
  | true =>
    have l1 : ∀ w, Calls C.P 26 [a.v, b.v].toArray w (PV w (.bool true)) := fun w => by rw [← hl]; exact less_c a b w
    have ho := less_ahead hl
    have t1 := then_c a c
    have t2 := then_c b c
    obtain ⟨x, e, h1⟩ : ∃ x e, thenS a c = (x, e) := ⟨_, _, rfl⟩
    obtain ⟨y, f, h2⟩ : ∃ x e, thenS b c = (x, e) := ⟨_, _, rfl⟩
    rw [h1] at t1
    rw [h2] at t2
    dsimp only at t1 t2
    refine con_e Try.func10 rfl _ Try.ntmps10 rfl (fun W α => ?_)
    repeat' (first | (guard_target =~ JL _ _ _ _ _ _ _ _; first | refine jl_nil ?_ | refine jl_same rfl rfl rfl rfl rfl ?_ | refine jl_v rfl rfl rfl rfl (ov_int rfl rfl (by simp only [inK]; omega)) ?_ | refine jl_p rfl rfl rfl rfl rfl ?_ | refine jl_s rfl rfl rfl ?_ | refine jl_st rfl rfl rfl rfl ?_ | refine jl_n rfl rfl rfl rfl rfl (fun n => rfl) (fun n => ?_) | refine jl_x rfl rfl (ox_pvf 11 (shown_c) rfl rfl rfl rfl (fun _ _ => by kernel_rfl) ?_) | refine jl_x rfl rfl (ox_pvf 30 (o1) rfl rfl rfl rfl (fun _ _ => by kernel_rfl) ?_) | refine jl_x rfl rfl (ox_pvf 30 (o2) rfl rfl rfl rfl (fun _ _ => by kernel_rfl) ?_) | refine jl_x rfl rfl (ox_pvf 26 (l1) rfl rfl rfl rfl (fun _ _ => by kernel_rfl) ?_) | refine jl_x rfl rfl (ox_pvf 24 (t1) rfl rfl rfl rfl (fun _ _ => by kernel_rfl) ?_) | refine jl_x rfl rfl (ox_pvf 24 (t2) rfl rfl rfl rfl (fun _ _ => by kernel_rfl) ?_) | refine jl_x rfl rfl (ox_pvf 26 (less_c x y) rfl rfl rfl rfl (fun _ _ => by kernel_rfl) ?_) | ((fail_if_success (refine jl_gt rfl ?_)); first | (refine jl_split_lt rfl rfl rfl (fun hc => ?_) (fun hc => ?_)) | (refine jl_split_ge rfl rfl rfl (fun hc => ?_) (fun hc => ?_)) | (refine jl_split_eq rfl rfl rfl (fun hc => ?_) (fun hc => ?_)) | (refine jl_split_ne rfl rfl rfl (fun hc => ?_) (fun hc => ?_)) | (refine jl_split rfl rfl rfl (fun hc => ?_) (fun hc => ?_)))) | (guard_target =~ JO _ _ _ _ _ _ _ _; first | refine JO.nil ?_ | refine JO.fork ?_ ?_ | refine jo_same rfl rfl rfl rfl rfl rfl ?_ | refine jo_v rfl rfl rfl rfl rfl (ov_int rfl rfl (by simp only [inK]; omega)) ?_ | refine jo_p rfl rfl rfl rfl rfl rfl ?_ | refine jo_s rfl rfl rfl rfl ?_ | refine jo_st rfl rfl rfl rfl rfl ?_ | refine jo_n rfl rfl rfl rfl rfl rfl (fun n => rfl) (fun n => ?_) | refine jo_x rfl rfl rfl (ox_pvf 11 (shown_c) rfl rfl rfl rfl (fun _ _ => by kernel_rfl) ?_) | refine jo_x rfl rfl rfl (ox_pvf 30 (o1) rfl rfl rfl rfl (fun _ _ => by kernel_rfl) ?_) | refine jo_x rfl rfl rfl (ox_pvf 30 (o2) rfl rfl rfl rfl (fun _ _ => by kernel_rfl) ?_) | refine jo_x rfl rfl rfl (ox_pvf 26 (l1) rfl rfl rfl rfl (fun _ _ => by kernel_rfl) ?_) | refine jo_x rfl rfl rfl (ox_pvf 24 (t1) rfl rfl rfl rfl (fun _ _ => by kernel_rfl) ?_) | refine jo_x rfl rfl rfl (ox_pvf 24 (t2) rfl rfl rfl rfl (fun _ _ => by kernel_rfl) ?_) | refine jo_x rfl rfl rfl (ox_pvf 26 (less_c x y) rfl rfl rfl rfl (fun _ _ => by kernel_rfl) ?_) | ((fail_if_success (refine jo_gt rfl rfl ?_)); first | (refine jo_split_lt rfl rfl rfl rfl (fun hc => ?_) (fun hc => ?_)) | (refine jo_split_ge rfl rfl rfl rfl (fun hc => ?_) (fun hc => ?_)) | (refine jo_split_eq rfl rfl rfl rfl (fun hc => ?_) (fun hc => ?_)) | (refine jo_split_ne rfl rfl rfl rfl (fun hc => ?_) (fun hc => ?_)) | (refine jo_split rfl rfl rfl rfl (fun hc => ?_) (fun hc => ?_)))) | (guard_target =~ JC _ _ _ _ _ _ _; first | refine jc_seq ?_ | refine jc_region ?_ | refine jc_draw (id := 2) (.step 1 0 (.step 1 1 (.step 1 3 (.step 1 4 (.step 1 2 (.step 1 5 (.step 2 6 (.step 2 7 (.step 2 8 (.step 2 9 (.step 2 10 (.step 1 13 (.step 1 14 (.step 1 15 (.step 1 11 (.step 2 12 (.step 2 16 (.step 2 17 .nil)))))))))))))))))) (by kernel_rfl) rfl ?_ | refine jc_drawn (by kernel_rfl) rfl ?_ | refine jc_cond_t rfl ?_ | refine jc_cond_f rfl ?_ | refine jc_cond_lt rfl (fun hc => ?_) (fun hc => ?_) | refine jc_cond_ge rfl (fun hc => ?_) (fun hc => ?_) | refine jc_cond_eq rfl (fun hc => ?_) (fun hc => ?_) | refine jc_cond_ne rfl (fun hc => ?_) (fun hc => ?_) | refine jc_cond rfl (fun hc => ?_) (fun hc => ?_) | refine jc_skip ?_ | refine jc_ret ?_ | refine jc_exit ?_ | refine jc_block ?_) | (guard_target =~ Kthen _ _ _ _; first | refine k_then ?_ | refine k_then_r ?_ | refine k_then_e ?_) | (guard_target =~ Kblock _ _ _ _; first | refine k_block_n ?_ | refine k_block_r ?_ | refine k_block_hit ?_ | refine k_block_miss rfl ?_) | (guard_target =~ JR _ _ _ _ _ _ _ _; refine jr_step ?_))
    all_goals first | exact fin1 (.inr rfl) rfl (ris rfl) (fin_pv rfl) | (exfalso; omega) | (exfalso; rw [hk] at hc; simp at hc; done) | (exact fin1 (.inr rfl) rfl (ris rfl) (fin_pv (by subst_vars; rw [less_then hl h1 h2]))) | trace_state
end Go.Proofs.Ytjnihfmmmadlhaa
