/- The walk of PacketSums. -/
import Derived.Test.YtkdfdbjcfhmkaaaPd
namespace Go.Proofs.Ytkdfdbjcfhmkaaa
open Go Go.RowKit
set_option linter.unusedSimpArgs false
set_option maxHeartbeats 4000000
set_option linter.unusedVariables false
set_option maxRecDepth 4000
theorem xor8_in (a b : Int) : isByte (bitsI .xor .u8 a b) := by
  show isByte (IntKind.u8.wrap _)
  unfold isByte IntKind.wrap
  simp [IntKind.bits, IntKind.signed]
  omega
theorem ofInt8 {a : Int} (h : isByte a) : U (BitVec.ofInt 8 a) = a := by
  unfold U
  rw [BitVec.toNat_ofInt]
  have e : ((2 ^ 8 : Nat) : Int) = 256 := rfl
  rw [e]
  obtain ⟨h1, h2⟩ := h
  omega
theorem U_inj {n : Nat} {x y : BitVec n} (h : U x = U y) : x = y := BitVec.eq_of_toNat_eq (by unfold U at h; omega)
theorem xor8_ne {a b : Int} (ha : isByte a) (hb : isByte b) (h0 : b ≠ 0) : bitsI .xor .u8 a b ≠ a := by
  intro h
  have h : IntKind.u8.wrap (U (BitVec.ofInt 8 a ^^^ BitVec.ofInt 8 b)) = a := h
  rw [wrap_in (show inK .u8 _ from by have := (BitVec.ofInt 8 a ^^^ BitVec.ofInt 8 b).isLt; simp only [inK, U]; omega)] at h
  have h1 : BitVec.ofInt 8 a ^^^ BitVec.ofInt 8 b = BitVec.ofInt 8 a := U_inj (h.trans (ofInt8 ha).symm)
  have h2 := congrArg (fun x => BitVec.ofInt 8 a ^^^ x) h1
  simp only [← BitVec.xor_assoc, BitVec.xor_self, BitVec.zero_xor] at h2
  have h3 := ofInt8 hb
  rw [h2] at h3
  exact h0 h3.symm
theorem parts {M : List Int} {j : Nat} (h : j < M.length) : M = M.take j ++ M[j] :: M.drop (j + 1) := by
  rw [← List.drop_eq_getElem_cons h, List.take_append_drop]
theorem set_parts {M : List Int} {j : Nat} (h : j < M.length) (v : Int) : M.set j v = M.take j ++ v :: M.drop (j + 1) := by
  rw [List.set_eq_take_append_cons_drop, if_pos h]
theorem sum_turned {M : List Int} (hb : ∀ z ∈ M, isByte z) {j : Nat} (h : j < M.length) {v : Int} (hv : isByte v) (hne : v ≠ M[j]) : U (crcSum (M.set j v)) ≠ U (crcSum M) := fun e => by
  have e := U_inj e
  have hp := parts h
  rw [set_parts h] at e
  generalize hA : M.take j = A at *
  generalize hB : M.drop (j + 1) = D at *
  have hbj := hb M[j] (List.getElem_mem h)
  generalize M[j] = x at *
  rw [hp] at e
  exact crc_turned hv hbj hne e
theorem parts2 {M : List Int} {j : Nat} (h : j + 1 < M.length) : M = M.take j ++ M[j] :: M[j + 1] :: M.drop (j + 2) := by
  rw [← List.drop_eq_getElem_cons h, ← List.drop_eq_getElem_cons (by omega), List.take_append_drop]
theorem set_parts2 {M : List Int} {j : Nat} (h : j + 1 < M.length) (u v w : Int) : ((M.set j u).set j v).set (j + 1) w = M.take j ++ v :: w :: M.drop (j + 2) := by
  refine List.ext_getElem? fun i => ?_
  have ht : (M.take j).length = j := by rw [List.length_take]; omega
  simp only [List.getElem?_set, List.length_set]
  rcases Nat.lt_trichotomy i j with hi | hi | hi
  · rw [List.getElem?_append_left (by omega), List.getElem?_take, if_pos hi, if_neg (by omega), if_neg (by omega), if_neg (by omega)]
  · subst hi
    rw [List.getElem?_append_right (by omega), ht, if_neg (by omega), if_pos rfl]
    simp
    omega
  · rw [List.getElem?_append_right (by omega), ht]
    by_cases h1 : i = j + 1
    · subst h1
      rw [if_pos rfl]
      simp [show j + 1 - j = 1 by omega]
      omega
    · rw [if_neg (by omega), if_neg (by omega), if_neg (by omega), show i - j = (i - j - 2) + 2 by omega, List.getElem?_cons_succ, List.getElem?_cons_succ, List.getElem?_drop]
      congr 1
      omega
theorem sum_swapped {M : List Int} (hb : ∀ z ∈ M, isByte z) {j : Nat} (h : j + 1 < M.length) (u : Int) (hne : M[j] ≠ M[j + 1]) : U (crcSum (((M.set j u).set j M[j + 1]).set (j + 1) M[j])) ≠ U (crcSum M) := fun e => by
  have e := U_inj e
  have hp := parts2 h
  rw [set_parts2 h] at e
  have hb1 := hb M[j] (List.getElem_mem _)
  have hb2 := hb M[j + 1] (List.getElem_mem _)
  generalize M.take j = A at *
  generalize M.drop (j + 2) = D at *
  generalize M[j] = x at *
  generalize M[j + 1] = y at *
  rw [hp] at e
  exact crc_swapped hb2 hb1 (Ne.symm hne) e
attribute [local irreducible] JC JL OX OV Kthen Kblock JR FendG U crcSum bitsI
theorem cut400 {L : List Int} : Sub (encs Zb.e L) 0 (encs Zb.e (L.take 400)) := by
  have := sub_encs Zb.el L (l := 0) (n := 400) (off := 0) (by omega)
  simpa using this
theorem sum_n {L : List Int} {c n : Nat} (hn : L.length = n) (hL : n ≤ 4611686018427387904) : Con C.P 10 [.r n c (encs Zb.e L)] (fun W => PV W (.int .u32 (U (crcSum L)))) := by
  subst hn
  exact sum_c L c hL
theorem packetSums_w (L : List Int) (c : Nat) (hb : ∀ z ∈ L, isByte z) (p v : Int) (hv : isByte v) : Con C.P 3 [.r L.length c (encs Zb.e L), .x (.int .i64 p), .x (.int .u8 v)] (fun W => PV W (.bool true)) := by
  obtain ⟨M, hM⟩ : ∃ A, A = L.take 400 := ⟨_, rfl⟩
  have hl : M.length ≤ 400 := by rw [hM]; simp; omega
  have hbM : ∀ z ∈ M, isByte z := fun z hz => hb z (List.mem_of_mem_take (by rw [← hM]; exact hz))
  refine con_b Try.func3 rfl _ Try.ntmps3 rfl (fun W α hB => ?_)
  have hB := hB; simp only [AsB] at hB; obtain ⟨hcap, -⟩ := hB
  have hc1 : M.length ≤ c := by rw [hM]; simp; omega
  have sub1 := cut400 (L := L)
  rw [← hM] at sub1
  repeat' (first | (guard_target =~ JL _ _ _ _ _ _ _ _; first | refine jl_nil ?_ | refine jl_same rfl rfl rfl rfl rfl ?_ | refine jl_v rfl rfl rfl rfl (ov_int rfl rfl (by simp only [inK]; omega)) ?_ | refine jl_p rfl rfl rfl rfl rfl ?_ | refine jl_s rfl rfl rfl ?_ | refine jl_st rfl rfl rfl rfl ?_ | refine jl_n rfl rfl rfl rfl rfl (fun n => rfl) (fun n => ?_) | refine jl_x rfl rfl (ox_pvf 9 (shown_c) rfl rfl rfl rfl (fun _ _ => by kernel_rfl) ?_) | refine jl_v rfl rfl rfl rfl (ov_sliceto rfl rfl rfl rfl (by first | omega | (simp only []; omega))) ?_ | refine jl_x rfl rfl (ox_app0 Zb.el Zb.e1 (M := M) rfl rfl rfl rfl rfl rfl rfl rfl rfl rfl rfl rfl rfl (Sub.refl _) (by first | omega | (simp only [List.length_set, List.length_nil, List.length_append, List.length_cons, List.length_drop, List.length_take, List.length_singleton]; done) | (simp only [List.length_set, List.length_nil, List.length_append, List.length_cons, List.length_drop, List.length_take, List.length_singleton]; omega)) (by first | omega | (simp only [List.length_set, List.length_nil, List.length_append, List.length_cons, List.length_drop, List.length_take, List.length_singleton]; done) | (simp only [List.length_set, List.length_nil, List.length_append, List.length_cons, List.length_drop, List.length_take, List.length_singleton]; omega)) (by first | omega | (simp only [List.length_set, List.length_nil, List.length_append, List.length_cons, List.length_drop, List.length_take, List.length_singleton]; done) | (simp only [List.length_set, List.length_nil, List.length_append, List.length_cons, List.length_drop, List.length_take, List.length_singleton]; omega)) rfl (fun _ _ => rfl) (fun c hc a => ?_)) | refine jl_v rfl rfl rfl rfl (ov_indexm (p.toNat) rfl rfl rfl rfl (by first | omega | (simp only []; omega)) (by first | omega | (simp only []; omega)) (by first | omega | (simp only []; omega))) ?_ | refine jl_v rfl rfl rfl rfl (ov_indexm ((p.toNat + 1)) rfl rfl rfl rfl (by first | omega | (simp only []; omega)) (by first | omega | (simp only []; omega)) (by first | omega | (simp only []; omega))) ?_ | refine jl_v rfl rfl rfl rfl (ov_load rfl rfl rfl (at0 Zb.el (by first | omega | (simp only []; omega))) rfl rfl) ?_ | refine jl_x rfl rfl (ox_setE Zb.el Zb.e1 (p.toNat) rfl rfl rfl rfl rfl rfl rfl rfl (by first | omega | (simp only []; omega)) (by first | omega | (simp only [List.length_set, List.length_nil, List.length_append, List.length_cons, List.length_drop, List.length_take, List.length_singleton]; done) | (simp only [List.length_set, List.length_nil, List.length_append, List.length_cons, List.length_drop, List.length_take, List.length_singleton]; omega)) rfl ?_) | refine jl_x rfl rfl (ox_setE Zb.el Zb.e1 (p.toNat + 1) rfl rfl rfl rfl rfl rfl rfl rfl (by first | omega | (simp only []; omega)) (by first | omega | (simp only [List.length_set, List.length_nil, List.length_append, List.length_cons, List.length_drop, List.length_take, List.length_singleton]; done) | (simp only [List.length_set, List.length_nil, List.length_append, List.length_cons, List.length_drop, List.length_take, List.length_singleton]; omega)) rfl ?_) | refine jl_x rfl rfl (ox_conv 10 (fun _ _ => by kernel_rfl) (sum_c M _ (by omega)) rfl rfl rfl (am_l (i := 0) rfl (by omega) AM.nil) rfl ?_) | refine jl_x rfl rfl (ox_conv 10 (fun _ _ => by kernel_rfl) (sum_n (n := M.length) (by simp only [List.length_set]) (by omega)) rfl rfl rfl (.r (i := 2) rfl (Sub.refl _) (fun h0 => absurd h0 (by omega)) (by omega) AM.nil) rfl ?_) | ((fail_if_success (refine jl_gt rfl ?_)); first | (refine jl_split_lt rfl rfl rfl (fun hc => ?_) (fun hc => ?_)) | (refine jl_split_ge rfl rfl rfl (fun hc => ?_) (fun hc => ?_)) | (refine jl_split_eq rfl rfl rfl (fun hc => ?_) (fun hc => ?_)) | (refine jl_split_ne rfl rfl rfl (fun hc => ?_) (fun hc => ?_)) | (refine jl_split rfl rfl rfl (fun hc => ?_) (fun hc => ?_)))) | (guard_target =~ JO _ _ _ _ _ _ _ _; first | refine JO.nil ?_ | refine JO.fork ?_ ?_ | refine jo_same rfl rfl rfl rfl rfl rfl ?_ | refine jo_v rfl rfl rfl rfl rfl (ov_int rfl rfl (by simp only [inK]; omega)) ?_ | refine jo_p rfl rfl rfl rfl rfl rfl ?_ | refine jo_s rfl rfl rfl rfl ?_ | refine jo_st rfl rfl rfl rfl rfl rfl ?_ | refine jo_n rfl rfl rfl rfl rfl rfl (fun n => rfl) (fun n => ?_) | refine jo_x rfl rfl rfl (ox_pvf 9 (shown_c) rfl rfl rfl rfl (fun _ _ => by kernel_rfl) ?_) | refine jo_v rfl rfl rfl rfl rfl (ov_sliceto rfl rfl rfl rfl (by first | omega | (simp only []; omega))) ?_ | refine jo_x rfl rfl rfl (ox_app0 Zb.el Zb.e1 (M := M) rfl rfl rfl rfl rfl rfl rfl rfl rfl rfl rfl rfl rfl (Sub.refl _) (by first | omega | (simp only [List.length_set, List.length_nil, List.length_append, List.length_cons, List.length_drop, List.length_take, List.length_singleton]; done) | (simp only [List.length_set, List.length_nil, List.length_append, List.length_cons, List.length_drop, List.length_take, List.length_singleton]; omega)) (by first | omega | (simp only [List.length_set, List.length_nil, List.length_append, List.length_cons, List.length_drop, List.length_take, List.length_singleton]; done) | (simp only [List.length_set, List.length_nil, List.length_append, List.length_cons, List.length_drop, List.length_take, List.length_singleton]; omega)) (by first | omega | (simp only [List.length_set, List.length_nil, List.length_append, List.length_cons, List.length_drop, List.length_take, List.length_singleton]; done) | (simp only [List.length_set, List.length_nil, List.length_append, List.length_cons, List.length_drop, List.length_take, List.length_singleton]; omega)) rfl (fun _ _ => rfl) (fun c hc a => ?_)) | refine jo_v rfl rfl rfl rfl rfl (ov_indexm (p.toNat) rfl rfl rfl rfl (by first | omega | (simp only []; omega)) (by first | omega | (simp only []; omega)) (by first | omega | (simp only []; omega))) ?_ | refine jo_v rfl rfl rfl rfl rfl (ov_indexm ((p.toNat + 1)) rfl rfl rfl rfl (by first | omega | (simp only []; omega)) (by first | omega | (simp only []; omega)) (by first | omega | (simp only []; omega))) ?_ | refine jo_v rfl rfl rfl rfl rfl (ov_load rfl rfl rfl (at0 Zb.el (by first | omega | (simp only []; omega))) rfl rfl) ?_ | refine jo_x rfl rfl rfl (ox_setE Zb.el Zb.e1 (p.toNat) rfl rfl rfl rfl rfl rfl rfl rfl (by first | omega | (simp only []; omega)) (by first | omega | (simp only [List.length_set, List.length_nil, List.length_append, List.length_cons, List.length_drop, List.length_take, List.length_singleton]; done) | (simp only [List.length_set, List.length_nil, List.length_append, List.length_cons, List.length_drop, List.length_take, List.length_singleton]; omega)) rfl ?_) | refine jo_x rfl rfl rfl (ox_setE Zb.el Zb.e1 (p.toNat + 1) rfl rfl rfl rfl rfl rfl rfl rfl (by first | omega | (simp only []; omega)) (by first | omega | (simp only [List.length_set, List.length_nil, List.length_append, List.length_cons, List.length_drop, List.length_take, List.length_singleton]; done) | (simp only [List.length_set, List.length_nil, List.length_append, List.length_cons, List.length_drop, List.length_take, List.length_singleton]; omega)) rfl ?_) | refine jo_x rfl rfl rfl (ox_conv 10 (fun _ _ => by kernel_rfl) (sum_c M _ (by omega)) rfl rfl rfl (am_l (i := 0) rfl (by omega) AM.nil) rfl ?_) | refine jo_x rfl rfl rfl (ox_conv 10 (fun _ _ => by kernel_rfl) (sum_n (n := M.length) (by simp only [List.length_set]) (by omega)) rfl rfl rfl (.r (i := 2) rfl (Sub.refl _) (fun h0 => absurd h0 (by omega)) (by omega) AM.nil) rfl ?_) | ((fail_if_success (refine jo_gt rfl rfl ?_)); first | (refine jo_split_lt rfl rfl rfl rfl (fun hc => ?_) (fun hc => ?_)) | (refine jo_split_ge rfl rfl rfl rfl (fun hc => ?_) (fun hc => ?_)) | (refine jo_split_eq rfl rfl rfl rfl (fun hc => ?_) (fun hc => ?_)) | (refine jo_split_ne rfl rfl rfl rfl (fun hc => ?_) (fun hc => ?_)) | (refine jo_split rfl rfl rfl rfl (fun hc => ?_) (fun hc => ?_)))) | (guard_target =~ JC _ _ _ _ _ _ _; first | refine jc_cut 12 (fun _ : Unit => ⟨[(7, .v (.bool true)), (0, .s 0 0 M.length c), (1, .v (.int .i64 p)), (2, .v (.int .u8 v))], [.ro (α 0) (encs Zb.e M)], []⟩) (fun _ => True) ?_ (fun _ _ => ?_) | refine jc_seq ?_ | refine jc_region ?_ | refine jc_draw (id := 10) (.step 2 0 (.step 2 1 (.step 2 2 (.step 2 3 (.step 2 4 (.step 2 5 (.step 2 6 (.step 2 7 (.step 2 8 (.step 2 9 (.step 2 10 (.step 2 11 (.step 2 12 (.step 2 13 (.step 2 14 (.step 2 15 (.step 2 16 .nil))))))))))))))))) (by kernel_rfl) rfl ?_ | refine jc_drawn (by kernel_rfl) rfl ?_ | refine jc_cond_t rfl ?_ | refine jc_cond_f rfl ?_ | refine jc_cond_lt rfl (fun hc => ?_) (fun hc => ?_) | refine jc_cond_ge rfl (fun hc => ?_) (fun hc => ?_) | refine jc_cond_eq rfl (fun hc => ?_) (fun hc => ?_) | refine jc_cond_ne rfl (fun hc => ?_) (fun hc => ?_) | refine jc_cond rfl (fun hc => ?_) (fun hc => ?_) | refine jc_skip ?_ | refine jc_ret ?_ | refine jc_exit ?_ | refine jc_block ?_) | (guard_target =~ Kthen _ _ _ _; first | refine k_then ?_ | refine k_then_r ?_ | refine k_then_e ?_) | (guard_target =~ Kblock _ _ _ _; first | refine k_block_n ?_ | refine k_block_r ?_ | refine k_block_hit ?_ | refine k_block_miss rfl ?_) | (guard_target =~ JR _ _ _ _ _ _ _ _; refine jr_step ?_))
  · refine ⟨(), trivial, ?_⟩
    have e : M.length = 400 := by rw [hM]; simp; omega
    rw [e]
    exact (wk_ro 0 (encs Zb.e M) rfl sub1 rfl).trans (wk [0] rfl rfl (by repeat' (first | exact EnvIn.nil | refine EnvIn.cons rfl rfl ?_)))
  · refine ⟨(), trivial, ?_⟩
    have e : M = L := by rw [hM]; exact List.take_of_length_le (by omega)
    rw [e]
    exact (wk [0] rfl rfl (by repeat' (first | exact EnvIn.nil | refine EnvIn.cons rfl rfl ?_)))
  · exact fin1 (.inr rfl) rfl (ris rfl) (fin_pv rfl)
  · exact fin1 (.inr rfl) rfl (ris rfl) (fin_pv rfl)
  · exact fin1 (.inr rfl) rfl (ris rfl) (fin_pv rfl)
  · exfalso
    exact sum_turned hbM (j := p.toNat) (by omega) (xor8_in _ _) (xor8_ne (hbM _ (List.getElem_mem _)) hv (by assumption)) hc
  · exact fin1 (.inr rfl) rfl (ris rfl) (fin_pv rfl)
  · exact fin1 (.inr rfl) rfl (ris rfl) (fin_pv rfl)
  · have h := sum_swapped hbM (j := p.toNat) (by omega) (bitsI .xor .u8 M[p.toNat] v) (by assumption)
    refine fin1 (.inr rfl) rfl (ris rfl) (fin_pv (congrArg Value.bool ?_))
    rw [eqB_eq]
    simpa using h
end Go.Proofs.Ytkdfdbjcfhmkaaa
