/- Numbers of 32 bits as the program has them, and the sum of bytes: package packet and its reference. -/
import Derived.Test.YtkdfdbjcfhmkaaaPa
import Derived.Test.YtkdfdbjcfhmkaaaWr
import Derived.Test.YtkdfdbjcfhmkaaaWp
import Derived.Test.YtkdfdbjcfhmkaaaWt
namespace Go.Proofs.Ytkdfdbjcfhmkaaa
open Go Go.RowKit
set_option linter.unusedSimpArgs false
set_option maxHeartbeats 4000000
set_option linter.unusedVariables false
/-- Bits as a number. -/
def U {n : Nat} (x : BitVec n) : Int := (x.toNat : Int)
theorem ofInt_U {n : Nat} (x : BitVec n) : BitVec.ofInt n (U x) = x := by
  unfold U
  apply BitVec.eq_of_toNat_eq
  rw [BitVec.toNat_ofInt]
  have := x.isLt
  rw [← Int.natCast_emod, Int.toNat_natCast, Nat.mod_eq_of_lt this]
theorem U_range (x : BitVec 32) : 0 ≤ U x ∧ U x ≤ 4294967295 := by
  have := x.isLt
  unfold U; omega
theorem wrap_U (x : BitVec 32) : IntKind.u32.wrap (U x) = U x := wrap_in (U_range x)
theorem xor_U (a b : Int) : bitsI .xor .u32 a b = U (BitVec.ofInt 32 a ^^^ BitVec.ofInt 32 b) := wrap_U _
theorem and_U (a b : Int) : bitsI .and .u32 a b = U (BitVec.ofInt 32 a &&& BitVec.ofInt 32 b) := wrap_U _
theorem and1_U (x : BitVec 32) : U (x &&& 1#32) = U x % 2 := by
  unfold U
  rw [BitVec.toNat_and]
  have : (1#32 : BitVec 32).toNat = 1 := rfl
  rw [this, Nat.and_one_is_mod]
  omega
theorem shr_U (x : BitVec 32) : shI .shr .u32 (U x) 1 = U (x >>> 1) := by
  show (U x).fdiv (2 ^ 1) = _
  unfold U
  rw [BitVec.toNat_ushiftRight, Nat.shiftRight_eq_div_pow]
  rw [Int.fdiv_eq_ediv_of_nonneg _ (by decide)]
  omega
theorem lsb_U (x : BitVec 32) : x.getLsbD 0 = decide (U x % 2 = 1) := by
  have : x.getLsbD 0 = decide (x.toNat % 2 = 1) := by
    simp [BitVec.getLsbD, Nat.testBit_zero]
  rw [this]
  unfold U
  congr 1
  rw [eq_iff_iff]
  omega
theorem crc_step (x : BitVec 32) : bitsI .xor .u32 (shI .shr .u32 (U x) 1) (IntKind.u32.wrap (bitsI .and .u32 (U x) 1 * 3988292384)) = U (crcT x) := by
  have e : IntKind.u32.wrap (bitsI .and .u32 (U x) 1 * 3988292384) = U (if x.getLsbD 0 then poly else 0#32) := by
    rw [and_U, ofInt_U, show BitVec.ofInt 32 1 = 1#32 from rfl, and1_U, lsb_U]
    have : U x % 2 = 0 ∨ U x % 2 = 1 := by omega
    rcases this with h | h
    · rw [h]; rfl
    · rw [h]; rfl
  rw [e, shr_U, xor_U, ofInt_U, ofInt_U]
  rfl
theorem crc_step1 (x : BitVec 32) (h : U x % (2 : Int) = 1) : bitsI .xor .u32 (U x / (2 : Int)) 3988292384 = U (crcT x) := by
  have e : U x / (2 : Int) = U (x >>> 1) := by
    unfold U
    rw [BitVec.toNat_ushiftRight, Nat.shiftRight_eq_div_pow]
    omega
  rw [e, xor_U, ofInt_U]
  unfold crcT
  rw [lsb_U, if_pos (by simpa using h)]
  rfl
theorem crc_step0 (x : BitVec 32) (h : U x % (2 : Int) ≠ 1) : U x / (2 : Int) = U (crcT x) := by
  unfold crcT
  rw [lsb_U, if_neg (by simpa using h)]
  unfold U
  rw [BitVec.xor_zero, BitVec.toNat_ushiftRight, Nat.shiftRight_eq_div_pow]
  omega
theorem byte_in (r : BitVec 32) (c : Int) : bitsI .xor .u32 (U r) (IntKind.u32.wrap c) = U (r ^^^ by32 c) := by
  rw [xor_U, ofInt_U]
  have : BitVec.ofInt 32 (IntKind.u32.wrap c) = by32 c := by
    unfold by32 IntKind.wrap
    simp only [IntKind.bits, IntKind.signed, Bool.false_and]
    apply BitVec.eq_of_toNat_eq
    rw [BitVec.toNat_ofInt, BitVec.toNat_ofInt]
    simp
  rw [this]
def crcN : Nat → BitVec 32 → BitVec 32
  | 0, r => r
  | n + 1, r => crcT (crcN n r)
theorem crcN_0 (r : BitVec 32) : crcN 0 r = r := rfl
theorem crcN_s (n : Nat) (r : BitVec 32) : crcN (n + 1) r = crcT (crcN n r) := rfl
theorem crcN_8 (r : BitVec 32) : crcN 8 r = crc8 r := rfl
theorem take_crc {L : List Int} {k : Nat} (h : k < L.length) (r : BitVec 32) : crcL r (L.take (k + 1)) = crc8 (crcL r (L.take k) ^^^ by32 L[k]) := by
  rw [List.take_succ_eq_append_getElem h, crcL_app]; rfl
theorem not_U (r : BitVec 32) : bitsI .xor .u32 4294967295 (U r) = U (r ^^^ 0xffffffff#32) := by
  rw [xor_U, ofInt_U, BitVec.xor_comm]; rfl
theorem crc_0 {L : List Int} : (4294967295 : Int) = U (crcL 0xffffffff#32 (L.take 0)) := rfl
def isByte (z : Int) : Prop := 0 ≤ z ∧ z ≤ 255
attribute [local irreducible] JC JL OX OV Kthen Kblock JR FendG crcT U bitsI shI crcL crcN by32
theorem sum_c (L : List Int) (c : Nat) (hL : L.length ≤ 4611686018427387904) : Con C.P 10 [.r L.length c (encs Zb.e L)] (fun W => PV W (.int .u32 (U (crcSum L)))) := by
  refine con_b Try.func10 rfl _ Try.ntmps10 rfl (fun W α hB => ?_)
  have hB := hB; simp only [AsB] at hB; obtain ⟨hc1, -⟩ := hB
  repeat' (first | (guard_target =~ JL _ _ _ _ _ _ _ _; first | refine jl_nil ?_ | refine jl_same rfl rfl rfl rfl rfl ?_ | refine jl_v rfl rfl rfl rfl (ov_int rfl rfl (by simp only [inK]; omega)) ?_ | refine jl_p rfl rfl rfl rfl rfl ?_ | refine jl_s rfl rfl rfl ?_ | refine jl_st rfl rfl rfl rfl ?_ | refine jl_n rfl rfl rfl rfl rfl (fun n => rfl) (fun n => ?_) | ((fail_if_success (refine jl_gt rfl ?_)); first | (refine jl_split_lt rfl rfl rfl (fun hc => ?_) (fun hc => ?_)) | (refine jl_split_ge rfl rfl rfl (fun hc => ?_) (fun hc => ?_)) | (refine jl_split_eq rfl rfl rfl (fun hc => ?_) (fun hc => ?_)) | (refine jl_split_ne rfl rfl rfl (fun hc => ?_) (fun hc => ?_)) | (refine jl_split rfl rfl rfl (fun hc => ?_) (fun hc => ?_)))) | (guard_target =~ JO _ _ _ _ _ _ _ _; first | refine JO.nil ?_ | refine JO.fork ?_ ?_ | refine jo_same rfl rfl rfl rfl rfl rfl ?_ | refine jo_v rfl rfl rfl rfl rfl (ov_int rfl rfl (by simp only [inK]; omega)) ?_ | refine jo_p rfl rfl rfl rfl rfl rfl ?_ | refine jo_s rfl rfl rfl rfl ?_ | refine jo_st rfl rfl rfl rfl rfl rfl ?_ | refine jo_n rfl rfl rfl rfl rfl rfl (fun n => rfl) (fun n => ?_) | ((fail_if_success (refine jo_gt rfl rfl ?_)); first | (refine jo_split_lt rfl rfl rfl rfl (fun hc => ?_) (fun hc => ?_)) | (refine jo_split_ge rfl rfl rfl rfl (fun hc => ?_) (fun hc => ?_)) | (refine jo_split_eq rfl rfl rfl rfl (fun hc => ?_) (fun hc => ?_)) | (refine jo_split_ne rfl rfl rfl rfl (fun hc => ?_) (fun hc => ?_)) | (refine jo_split rfl rfl rfl rfl (fun hc => ?_) (fun hc => ?_)))) | (guard_target =~ JC _ _ _ _ _ _ _; first | refine jc_seq ?_ | refine jc_region ?_ | refine jc_drawn (by kernel_rfl) rfl ?_ | refine jc_cond_t rfl ?_ | refine jc_cond_f rfl ?_ | refine jc_cond_lt rfl (fun hc => ?_) (fun hc => ?_) | refine jc_cond_ge rfl (fun hc => ?_) (fun hc => ?_) | refine jc_cond_eq rfl (fun hc => ?_) (fun hc => ?_) | refine jc_cond_ne rfl (fun hc => ?_) (fun hc => ?_) | refine jc_cond rfl (fun hc => ?_) (fun hc => ?_) | refine jc_skip ?_ | refine jc_ret ?_ | refine jc_exit ?_ | refine jc_block ?_) | (guard_target =~ Kthen _ _ _ _; first | refine k_then ?_ | refine k_then_r ?_ | refine k_then_e ?_) | (guard_target =~ Kblock _ _ _ _; first | refine k_block_n ?_ | refine k_block_r ?_ | refine k_block_hit ?_ | refine k_block_miss rfl ?_) | (guard_target =~ JR _ _ _ _ _ _ _ _; refine jr_step ?_))
  refine jc_inv (fun q : Nat × Int => ⟨[(8, .v (.int .i64 q.1)), (7, .v (.int .i64 L.length)), (6, .s 0 0 L.length c), (3, .v (.int .u32 q.2))], [.ro (α 0) (encs Zb.e L)], []⟩) (fun q => q.1 ≤ L.length ∧ q.2 = U (crcL 0xffffffff#32 (L.take q.1))) (fun q => L.length - q.1) (0, 4294967295) ⟨Nat.zero_le _, crc_0⟩ (wk [0] rfl rfl (by repeat' (first | exact EnvIn.nil | refine EnvIn.cons rfl rfl ?_))) ?_
  rintro ⟨k, v⟩ ⟨hk, hv⟩
  dsimp only at hk hv ⊢
  subst hv
  repeat' (first | (guard_target =~ JL _ _ _ _ _ _ _ _; first | refine jl_nil ?_ | refine jl_same rfl rfl rfl rfl rfl ?_ | refine jl_v rfl rfl rfl rfl (ov_int rfl rfl (by simp only [inK]; omega)) ?_ | refine jl_p rfl rfl rfl rfl rfl ?_ | refine jl_s rfl rfl rfl ?_ | refine jl_st rfl rfl rfl rfl ?_ | refine jl_n rfl rfl rfl rfl rfl (fun n => rfl) (fun n => ?_) | refine jl_v rfl rfl rfl rfl (ov_index rfl rfl rfl rfl rfl (by first | omega | (simp only []; omega)) (by first | omega | (simp only []; omega))) ?_ | refine jl_v rfl rfl rfl rfl (ov_load rfl rfl rfl (at0 Zb.el (by first | omega | (simp only []; omega))) rfl rfl) ?_ | ((fail_if_success (refine jl_gt rfl ?_)); first | (refine jl_split_lt rfl rfl rfl (fun hc => ?_) (fun hc => ?_)) | (refine jl_split_ge rfl rfl rfl (fun hc => ?_) (fun hc => ?_)) | (refine jl_split_eq rfl rfl rfl (fun hc => ?_) (fun hc => ?_)) | (refine jl_split_ne rfl rfl rfl (fun hc => ?_) (fun hc => ?_)) | (refine jl_split rfl rfl rfl (fun hc => ?_) (fun hc => ?_)))) | (guard_target =~ JO _ _ _ _ _ _ _ _; first | refine JO.nil ?_ | refine JO.fork ?_ ?_ | refine jo_same rfl rfl rfl rfl rfl rfl ?_ | refine jo_v rfl rfl rfl rfl rfl (ov_int rfl rfl (by simp only [inK]; omega)) ?_ | refine jo_p rfl rfl rfl rfl rfl rfl ?_ | refine jo_s rfl rfl rfl rfl ?_ | refine jo_st rfl rfl rfl rfl rfl rfl ?_ | refine jo_n rfl rfl rfl rfl rfl rfl (fun n => rfl) (fun n => ?_) | refine jo_v rfl rfl rfl rfl rfl (ov_index rfl rfl rfl rfl rfl (by first | omega | (simp only []; omega)) (by first | omega | (simp only []; omega))) ?_ | refine jo_v rfl rfl rfl rfl rfl (ov_load rfl rfl rfl (at0 Zb.el (by first | omega | (simp only []; omega))) rfl rfl) ?_ | ((fail_if_success (refine jo_gt rfl rfl ?_)); first | (refine jo_split_lt rfl rfl rfl rfl (fun hc => ?_) (fun hc => ?_)) | (refine jo_split_ge rfl rfl rfl rfl (fun hc => ?_) (fun hc => ?_)) | (refine jo_split_eq rfl rfl rfl rfl (fun hc => ?_) (fun hc => ?_)) | (refine jo_split_ne rfl rfl rfl rfl (fun hc => ?_) (fun hc => ?_)) | (refine jo_split rfl rfl rfl rfl (fun hc => ?_) (fun hc => ?_)))) | (guard_target =~ JC _ _ _ _ _ _ _; first | refine jc_seq ?_ | refine jc_region ?_ | refine jc_drawn (by kernel_rfl) rfl ?_ | refine jc_cond_t rfl ?_ | refine jc_cond_f rfl ?_ | refine jc_cond_lt rfl (fun hc => ?_) (fun hc => ?_) | refine jc_cond_ge rfl (fun hc => ?_) (fun hc => ?_) | refine jc_cond_eq rfl (fun hc => ?_) (fun hc => ?_) | refine jc_cond_ne rfl (fun hc => ?_) (fun hc => ?_) | refine jc_cond rfl (fun hc => ?_) (fun hc => ?_) | refine jc_skip ?_ | refine jc_ret ?_ | refine jc_exit ?_ | refine jc_block ?_) | (guard_target =~ Kthen _ _ _ _; first | refine k_then ?_ | refine k_then_r ?_ | refine k_then_e ?_) | (guard_target =~ Kblock _ _ _ _; first | refine k_block_n ?_ | refine k_block_r ?_ | refine k_block_hit ?_ | refine k_block_miss rfl ?_) | (guard_target =~ JR _ _ _ _ _ _ _ _; refine jr_step ?_))
  · refine jc_inv (fun q : Nat × Int => ⟨[(16, .v (.int .i64 q.1)), (8, .v (.int .i64 k)), (7, .v (.int .i64 L.length)), (6, .s 0 0 L.length c), (3, .v (.int .u32 q.2))], [.ro (α 0) (encs Zb.e L)], []⟩) (fun q => q.1 ≤ 8 ∧ q.2 = U (crcN q.1 (crcL 0xffffffff#32 (L.take k) ^^^ by32 L[k]))) (fun q => 8 - q.1) (0, _) ⟨Nat.zero_le _, ?_⟩ (wk [0] rfl rfl (by repeat' (first | exact EnvIn.nil | refine EnvIn.cons rfl rfl ?_))) ?_
    · dsimp only; rw [byte_in, crcN_0]
    rintro ⟨j, v⟩ ⟨hj, hv⟩
    dsimp only at hj hv ⊢
    subst hv
    repeat' (first | (guard_target =~ JL _ _ _ _ _ _ _ _; first | refine jl_nil ?_ | refine jl_same rfl rfl rfl rfl rfl ?_ | refine jl_v rfl rfl rfl rfl (ov_int rfl rfl (by simp only [inK]; omega)) ?_ | refine jl_p rfl rfl rfl rfl rfl ?_ | refine jl_s rfl rfl rfl ?_ | refine jl_st rfl rfl rfl rfl ?_ | refine jl_n rfl rfl rfl rfl rfl (fun n => rfl) (fun n => ?_) | ((fail_if_success (refine jl_gt rfl ?_)); first | (refine jl_split_lt rfl rfl rfl (fun hc => ?_) (fun hc => ?_)) | (refine jl_split_ge rfl rfl rfl (fun hc => ?_) (fun hc => ?_)) | (refine jl_split_eq rfl rfl rfl (fun hc => ?_) (fun hc => ?_)) | (refine jl_split_ne rfl rfl rfl (fun hc => ?_) (fun hc => ?_)) | (refine jl_split rfl rfl rfl (fun hc => ?_) (fun hc => ?_)))) | (guard_target =~ JO _ _ _ _ _ _ _ _; first | refine JO.nil ?_ | refine JO.fork ?_ ?_ | refine jo_same rfl rfl rfl rfl rfl rfl ?_ | refine jo_v rfl rfl rfl rfl rfl (ov_int rfl rfl (by simp only [inK]; omega)) ?_ | refine jo_p rfl rfl rfl rfl rfl rfl ?_ | refine jo_s rfl rfl rfl rfl ?_ | refine jo_st rfl rfl rfl rfl rfl rfl ?_ | refine jo_n rfl rfl rfl rfl rfl rfl (fun n => rfl) (fun n => ?_) | ((fail_if_success (refine jo_gt rfl rfl ?_)); first | (refine jo_split_lt rfl rfl rfl rfl (fun hc => ?_) (fun hc => ?_)) | (refine jo_split_ge rfl rfl rfl rfl (fun hc => ?_) (fun hc => ?_)) | (refine jo_split_eq rfl rfl rfl rfl (fun hc => ?_) (fun hc => ?_)) | (refine jo_split_ne rfl rfl rfl rfl (fun hc => ?_) (fun hc => ?_)) | (refine jo_split rfl rfl rfl rfl (fun hc => ?_) (fun hc => ?_)))) | (guard_target =~ JC _ _ _ _ _ _ _; first | refine jc_seq ?_ | refine jc_region ?_ | refine jc_drawn (by kernel_rfl) rfl ?_ | refine jc_cond_t rfl ?_ | refine jc_cond_f rfl ?_ | refine jc_cond_lt rfl (fun hc => ?_) (fun hc => ?_) | refine jc_cond_ge rfl (fun hc => ?_) (fun hc => ?_) | refine jc_cond_eq rfl (fun hc => ?_) (fun hc => ?_) | refine jc_cond_ne rfl (fun hc => ?_) (fun hc => ?_) | refine jc_cond rfl (fun hc => ?_) (fun hc => ?_) | refine jc_skip ?_ | refine jc_ret ?_ | refine jc_exit ?_ | refine jc_block ?_) | (guard_target =~ Kthen _ _ _ _; first | refine k_then ?_ | refine k_then_r ?_ | refine k_then_e ?_) | (guard_target =~ Kblock _ _ _ _; first | refine k_block_n ?_ | refine k_block_r ?_ | refine k_block_hit ?_ | refine k_block_miss rfl ?_) | (guard_target =~ JR _ _ _ _ _ _ _ _; refine jr_step ?_))
    · refine ⟨(j + 1, _), ⟨?_, ?_⟩, ?_, (wk [0] rfl rfl (by repeat' (first | exact EnvIn.nil | refine EnvIn.cons rfl rfl ?_)))⟩
      · dsimp only; omega
      · dsimp only; rw [crc_step, crcN_s]
      · dsimp only; omega
    · have e : j = 8 := by omega
      subst e
      refine ⟨(k + 1, _), ⟨?_, ?_⟩, ?_, (wk [0] rfl rfl (by repeat' (first | exact EnvIn.nil | refine EnvIn.cons rfl rfl ?_)))⟩
      · dsimp only; omega
      · dsimp only; rw [take_crc (by omega), crcN_8]
      · dsimp only; omega
  · obtain rfl : k = L.length := by omega
    rw [List.take_length]
    exact fin1 (.inr rfl) rfl (ris rfl) (fin_pv (congrArg (Value.int .u32) (not_U _)))
theorem notr_U (r : BitVec 32) : bitsI .xor .u32 (U r) 4294967295 = U (r ^^^ 0xffffffff#32) := by
  rw [xor_U, ofInt_U]; rfl
theorem quo_U (r : BitVec 32) : IntKind.u32.wrap ((U r).tdiv 2) = U r / (2 : Int) := by
  have := U_range r
  rw [Int.tdiv_eq_ediv_of_nonneg this.1]
  exact wrap_in (show inK .u32 _ from ⟨by omega, by omega⟩)
theorem rem_U (r : BitVec 32) : (U r).tmod 2 = U r % (2 : Int) := by
  have := U_range r
  rw [Int.tmod_eq_emod_of_nonneg this.1]
theorem rsum_c (L : List Int) (c : Nat) (hL : L.length ≤ 4611686018427387904) : Con C.P 17 [.r L.length c (encs Zb.e L)] (fun W => PV W (.int .u32 (U (crcSum L)))) := by
  refine con_b Try.func17 rfl _ Try.ntmps17 rfl (fun W α hB => ?_)
  have hB := hB; simp only [AsB] at hB; obtain ⟨hc1, -⟩ := hB
  repeat' (first | (guard_target =~ JL _ _ _ _ _ _ _ _; first | refine jl_nil ?_ | refine jl_same rfl rfl rfl rfl rfl ?_ | refine jl_v rfl rfl rfl rfl (ov_int rfl rfl (by simp only [inK]; omega)) ?_ | refine jl_p rfl rfl rfl rfl rfl ?_ | refine jl_s rfl rfl rfl ?_ | refine jl_st rfl rfl rfl rfl ?_ | refine jl_n rfl rfl rfl rfl rfl (fun n => rfl) (fun n => ?_) | ((fail_if_success (refine jl_gt rfl ?_)); first | (refine jl_split_lt rfl rfl rfl (fun hc => ?_) (fun hc => ?_)) | (refine jl_split_ge rfl rfl rfl (fun hc => ?_) (fun hc => ?_)) | (refine jl_split_eq rfl rfl rfl (fun hc => ?_) (fun hc => ?_)) | (refine jl_split_ne rfl rfl rfl (fun hc => ?_) (fun hc => ?_)) | (refine jl_split rfl rfl rfl (fun hc => ?_) (fun hc => ?_)))) | (guard_target =~ JO _ _ _ _ _ _ _ _; first | refine JO.nil ?_ | refine JO.fork ?_ ?_ | refine jo_same rfl rfl rfl rfl rfl rfl ?_ | refine jo_v rfl rfl rfl rfl rfl (ov_int rfl rfl (by simp only [inK]; omega)) ?_ | refine jo_p rfl rfl rfl rfl rfl rfl ?_ | refine jo_s rfl rfl rfl rfl ?_ | refine jo_st rfl rfl rfl rfl rfl rfl ?_ | refine jo_n rfl rfl rfl rfl rfl rfl (fun n => rfl) (fun n => ?_) | ((fail_if_success (refine jo_gt rfl rfl ?_)); first | (refine jo_split_lt rfl rfl rfl rfl (fun hc => ?_) (fun hc => ?_)) | (refine jo_split_ge rfl rfl rfl rfl (fun hc => ?_) (fun hc => ?_)) | (refine jo_split_eq rfl rfl rfl rfl (fun hc => ?_) (fun hc => ?_)) | (refine jo_split_ne rfl rfl rfl rfl (fun hc => ?_) (fun hc => ?_)) | (refine jo_split rfl rfl rfl rfl (fun hc => ?_) (fun hc => ?_)))) | (guard_target =~ JC _ _ _ _ _ _ _; first | refine jc_seq ?_ | refine jc_region ?_ | refine jc_drawn (by kernel_rfl) rfl ?_ | refine jc_cond_t rfl ?_ | refine jc_cond_f rfl ?_ | refine jc_cond_lt rfl (fun hc => ?_) (fun hc => ?_) | refine jc_cond_ge rfl (fun hc => ?_) (fun hc => ?_) | refine jc_cond_eq rfl (fun hc => ?_) (fun hc => ?_) | refine jc_cond_ne rfl (fun hc => ?_) (fun hc => ?_) | refine jc_cond rfl (fun hc => ?_) (fun hc => ?_) | refine jc_skip ?_ | refine jc_ret ?_ | refine jc_exit ?_ | refine jc_block ?_) | (guard_target =~ Kthen _ _ _ _; first | refine k_then ?_ | refine k_then_r ?_ | refine k_then_e ?_) | (guard_target =~ Kblock _ _ _ _; first | refine k_block_n ?_ | refine k_block_r ?_ | refine k_block_hit ?_ | refine k_block_miss rfl ?_) | (guard_target =~ JR _ _ _ _ _ _ _ _; refine jr_step ?_))
  refine jc_inv (fun q : Nat × Int => ⟨[(4, .v (.int .i64 q.1)), (0, .s 0 0 L.length c), (3, .v (.int .u32 q.2))], [.ro (α 0) (encs Zb.e L)], []⟩) (fun q => q.1 ≤ L.length ∧ q.2 = U (crcL 0xffffffff#32 (L.take q.1))) (fun q => L.length - q.1) (0, 4294967295) ⟨Nat.zero_le _, crc_0⟩ (wk [0] rfl rfl (by repeat' (first | exact EnvIn.nil | refine EnvIn.cons rfl rfl ?_))) ?_
  rintro ⟨k, v⟩ ⟨hk, hv⟩
  dsimp only at hk hv ⊢
  subst hv
  repeat' (first | (guard_target =~ JL _ _ _ _ _ _ _ _; first | refine jl_nil ?_ | refine jl_same rfl rfl rfl rfl rfl ?_ | refine jl_v rfl rfl rfl rfl (ov_int rfl rfl (by simp only [inK]; omega)) ?_ | refine jl_p rfl rfl rfl rfl rfl ?_ | refine jl_s rfl rfl rfl ?_ | refine jl_st rfl rfl rfl rfl ?_ | refine jl_n rfl rfl rfl rfl rfl (fun n => rfl) (fun n => ?_) | refine jl_v rfl rfl rfl rfl (ov_index rfl rfl rfl rfl rfl (by first | omega | (simp only []; omega)) (by first | omega | (simp only []; omega))) ?_ | refine jl_v rfl rfl rfl rfl (ov_load rfl rfl rfl (at0 Zb.el (by first | omega | (simp only []; omega))) rfl rfl) ?_ | ((fail_if_success (refine jl_gt rfl ?_)); first | (refine jl_split_lt rfl rfl rfl (fun hc => ?_) (fun hc => ?_)) | (refine jl_split_ge rfl rfl rfl (fun hc => ?_) (fun hc => ?_)) | (refine jl_split_eq rfl rfl rfl (fun hc => ?_) (fun hc => ?_)) | (refine jl_split_ne rfl rfl rfl (fun hc => ?_) (fun hc => ?_)) | (refine jl_split rfl rfl rfl (fun hc => ?_) (fun hc => ?_)))) | (guard_target =~ JO _ _ _ _ _ _ _ _; first | refine JO.nil ?_ | refine JO.fork ?_ ?_ | refine jo_same rfl rfl rfl rfl rfl rfl ?_ | refine jo_v rfl rfl rfl rfl rfl (ov_int rfl rfl (by simp only [inK]; omega)) ?_ | refine jo_p rfl rfl rfl rfl rfl rfl ?_ | refine jo_s rfl rfl rfl rfl ?_ | refine jo_st rfl rfl rfl rfl rfl rfl ?_ | refine jo_n rfl rfl rfl rfl rfl rfl (fun n => rfl) (fun n => ?_) | refine jo_v rfl rfl rfl rfl rfl (ov_index rfl rfl rfl rfl rfl (by first | omega | (simp only []; omega)) (by first | omega | (simp only []; omega))) ?_ | refine jo_v rfl rfl rfl rfl rfl (ov_load rfl rfl rfl (at0 Zb.el (by first | omega | (simp only []; omega))) rfl rfl) ?_ | ((fail_if_success (refine jo_gt rfl rfl ?_)); first | (refine jo_split_lt rfl rfl rfl rfl (fun hc => ?_) (fun hc => ?_)) | (refine jo_split_ge rfl rfl rfl rfl (fun hc => ?_) (fun hc => ?_)) | (refine jo_split_eq rfl rfl rfl rfl (fun hc => ?_) (fun hc => ?_)) | (refine jo_split_ne rfl rfl rfl rfl (fun hc => ?_) (fun hc => ?_)) | (refine jo_split rfl rfl rfl rfl (fun hc => ?_) (fun hc => ?_)))) | (guard_target =~ JC _ _ _ _ _ _ _; first | refine jc_seq ?_ | refine jc_region ?_ | refine jc_drawn (by kernel_rfl) rfl ?_ | refine jc_cond_t rfl ?_ | refine jc_cond_f rfl ?_ | refine jc_cond_lt rfl (fun hc => ?_) (fun hc => ?_) | refine jc_cond_ge rfl (fun hc => ?_) (fun hc => ?_) | refine jc_cond_eq rfl (fun hc => ?_) (fun hc => ?_) | refine jc_cond_ne rfl (fun hc => ?_) (fun hc => ?_) | refine jc_cond rfl (fun hc => ?_) (fun hc => ?_) | refine jc_skip ?_ | refine jc_ret ?_ | refine jc_exit ?_ | refine jc_block ?_) | (guard_target =~ Kthen _ _ _ _; first | refine k_then ?_ | refine k_then_r ?_ | refine k_then_e ?_) | (guard_target =~ Kblock _ _ _ _; first | refine k_block_n ?_ | refine k_block_r ?_ | refine k_block_hit ?_ | refine k_block_miss rfl ?_) | (guard_target =~ JR _ _ _ _ _ _ _ _; refine jr_step ?_))
  · refine jc_inv (fun q : Nat × Int => ⟨[(5, .v (.int .i64 q.1)), (4, .v (.int .i64 k)), (0, .s 0 0 L.length c), (3, .v (.int .u32 q.2))], [.ro (α 0) (encs Zb.e L)], []⟩) (fun q => q.1 ≤ 8 ∧ q.2 = U (crcN q.1 (crcL 0xffffffff#32 (L.take k) ^^^ by32 L[k]))) (fun q => 8 - q.1) (0, _) ⟨Nat.zero_le _, ?_⟩ (wk [0] rfl rfl (by repeat' (first | exact EnvIn.nil | refine EnvIn.cons rfl rfl ?_))) ?_
    · dsimp only; rw [byte_in, crcN_0]
    rintro ⟨j, v⟩ ⟨hj, hv⟩
    dsimp only at hj hv ⊢
    subst hv
    repeat' (first | (guard_target =~ JL _ _ _ _ _ _ _ _; first | refine jl_nil ?_ | refine jl_same rfl rfl rfl rfl rfl ?_ | refine jl_v rfl rfl rfl rfl (ov_int rfl rfl (by simp only [inK]; omega)) ?_ | refine jl_p rfl rfl rfl rfl rfl ?_ | refine jl_s rfl rfl rfl ?_ | refine jl_st rfl rfl rfl rfl ?_ | refine jl_n rfl rfl rfl rfl rfl (fun n => rfl) (fun n => ?_) | ((fail_if_success (refine jl_gt rfl ?_)); first | (refine jl_split_lt rfl rfl rfl (fun hc => ?_) (fun hc => ?_)) | (refine jl_split_ge rfl rfl rfl (fun hc => ?_) (fun hc => ?_)) | (refine jl_split_eq rfl rfl rfl (fun hc => ?_) (fun hc => ?_)) | (refine jl_split_ne rfl rfl rfl (fun hc => ?_) (fun hc => ?_)) | (refine jl_split rfl rfl rfl (fun hc => ?_) (fun hc => ?_)))) | (guard_target =~ JO _ _ _ _ _ _ _ _; first | refine JO.nil ?_ | refine JO.fork ?_ ?_ | refine jo_same rfl rfl rfl rfl rfl rfl ?_ | refine jo_v rfl rfl rfl rfl rfl (ov_int rfl rfl (by simp only [inK]; omega)) ?_ | refine jo_p rfl rfl rfl rfl rfl rfl ?_ | refine jo_s rfl rfl rfl rfl ?_ | refine jo_st rfl rfl rfl rfl rfl rfl ?_ | refine jo_n rfl rfl rfl rfl rfl rfl (fun n => rfl) (fun n => ?_) | ((fail_if_success (refine jo_gt rfl rfl ?_)); first | (refine jo_split_lt rfl rfl rfl rfl (fun hc => ?_) (fun hc => ?_)) | (refine jo_split_ge rfl rfl rfl rfl (fun hc => ?_) (fun hc => ?_)) | (refine jo_split_eq rfl rfl rfl rfl (fun hc => ?_) (fun hc => ?_)) | (refine jo_split_ne rfl rfl rfl rfl (fun hc => ?_) (fun hc => ?_)) | (refine jo_split rfl rfl rfl rfl (fun hc => ?_) (fun hc => ?_)))) | (guard_target =~ JC _ _ _ _ _ _ _; first | refine jc_seq ?_ | refine jc_region ?_ | refine jc_drawn (by kernel_rfl) rfl ?_ | refine jc_cond_t rfl ?_ | refine jc_cond_f rfl ?_ | refine jc_cond_lt rfl (fun hc => ?_) (fun hc => ?_) | refine jc_cond_ge rfl (fun hc => ?_) (fun hc => ?_) | refine jc_cond_eq rfl (fun hc => ?_) (fun hc => ?_) | refine jc_cond_ne rfl (fun hc => ?_) (fun hc => ?_) | refine jc_cond rfl (fun hc => ?_) (fun hc => ?_) | refine jc_skip ?_ | refine jc_ret ?_ | refine jc_exit ?_ | refine jc_block ?_) | (guard_target =~ Kthen _ _ _ _; first | refine k_then ?_ | refine k_then_r ?_ | refine k_then_e ?_) | (guard_target =~ Kblock _ _ _ _; first | refine k_block_n ?_ | refine k_block_r ?_ | refine k_block_hit ?_ | refine k_block_miss rfl ?_) | (guard_target =~ JR _ _ _ _ _ _ _ _; refine jr_step ?_))
    · refine ⟨(j + 1, _), ⟨?_, ?_⟩, ?_, (wk [0] rfl rfl (by repeat' (first | exact EnvIn.nil | refine EnvIn.cons rfl rfl ?_)))⟩
      · dsimp only; omega
      · dsimp only; rw [quo_U, crc_step1 _ (by rw [← rem_U]; assumption), crcN_s]
      · dsimp only; omega
    · refine ⟨(j + 1, _), ⟨?_, ?_⟩, ?_, (wk [0] rfl rfl (by repeat' (first | exact EnvIn.nil | refine EnvIn.cons rfl rfl ?_)))⟩
      · dsimp only; omega
      · dsimp only; refine (quo_U _).trans ?_; rw [crc_step0 _ (by rw [← rem_U]; assumption), crcN_s]
      · dsimp only; omega
    · have e : j = 8 := by omega
      subst e
      refine ⟨(k + 1, _), ⟨?_, ?_⟩, ?_, (wk [0] rfl rfl (by repeat' (first | exact EnvIn.nil | refine EnvIn.cons rfl rfl ?_)))⟩
      · dsimp only; omega
      · dsimp only; rw [take_crc (by omega), crcN_8]
      · dsimp only; omega
  · obtain rfl : k = L.length := by omega
    rw [List.take_length]
    exact fin1 (.inr rfl) rfl (ris rfl) (fin_pv (congrArg (Value.int .u32) (notr_U _)))
end Go.Proofs.Ytkdfdbjcfhmkaaa
