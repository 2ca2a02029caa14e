/- To enter a loop, to go round, to leave it: plain laws. -/
import Derived.Test.YtjnihfmmmadlhaaDp
import Derived.Test.YtjnihfmmmadlhaaDf
namespace Go.Proofs.Ytjnihfmmmadlhaa
open Go Go.RowKit
theorem and_b (a : Int) (m : Nat) (hm : m < 4294967296) : 0 ≤ bitsI .and .i64 a m ∧ bitsI .and .i64 a m ≤ m := by
  have h : (BitVec.ofInt IntKind.i64.bits a &&& BitVec.ofInt IntKind.i64.bits (m : Int)).toNat ≤ m := by
    rw [BitVec.toNat_and]
    refine Nat.le_trans Nat.and_le_right ?_
    show (BitVec.ofInt 64 (m : Int)).toNat ≤ m
    rw [BitVec.ofInt_natCast, BitVec.toNat_ofNat]
    exact Nat.mod_le _ _
  unfold bitsI
  simp only
  rw [i64w _ (by omega) (by omega)]
  omega
def loopS (d i : Int) : Sm := ⟨d, d + 1, d, 0, if d = 0 then i else 0, if d = 1 then i else 0, if d = 2 then i else 0⟩
theorem three {d : Int} (h : 0 ≤ d ∧ d ≤ 2) : d = 0 ∨ d = 1 ∨ d = 2 := by omega
theorem enter_loop {d : Int} (h : 0 ≤ d ∧ d ≤ 2) : enterS d = loopS d 0 := by
  unfold enterS madeS loopS
  rw [if_neg (by omega), if_neg (by omega)]
  simp
theorem feed_loop {d i : Int} (h : 0 ≤ d ∧ d ≤ 2) (hi : 0 ≤ i ∧ i ≤ 998) : thenS (loopS d i) (feedS (d + 1)) = (loopS d (i + 1), 0) := by
  rcases three h with rfl | rfl | rfl
  all_goals
    have e : ∀ k : Int, k = 1 ∨ k = 2 ∨ k = 3 → feedS k = ⟨k, k, k, 0, if k = 1 then 1 else 0, if k = 2 then 1 else 0, if k = 3 then 1 else 0⟩ := fun k hk => by
      unfold feedS; rw [if_neg (by omega)]
    rw [e _ (by decide)]
    rw [thenS_mk (by rw [Sm.may_iff]; simp [loopS]; omega) (by decide) rfl (by rw [Tm.may_iff]; simp [loopS, ontoT]; omega)]
    simp [loopS, ontoT]
    try omega
theorem leave_loop {d i : Int} (h : 0 ≤ d ∧ d ≤ 2) (hi : 0 ≤ i ∧ i ≤ 1000) : thenS (loopS d i) (leaveS (d + 1)) = (sameS d, 0) := by
  rcases three h with rfl | rfl | rfl
  all_goals
    have e : ∀ k : Int, k = 1 ∨ k = 2 ∨ k = 3 → leaveS k = ⟨k, k - 1, k - 1, 0, 0, 0, 0⟩ := fun k hk => by
      unfold leaveS madeS; rw [if_neg (by omega), if_neg (by omega)]
    rw [e _ (by decide), sameS_mk (by decide) (by decide)]
    rw [thenS_mk (by rw [Sm.may_iff]; simp [loopS]; omega) (by decide) rfl (by rw [Tm.may_iff]; simp [loopS, ontoT])]
    simp [loopS, ontoT]
theorem apply_loop {d i : Int} (h : 0 ≤ d ∧ d ≤ 2) (hi : 0 ≤ i ∧ i ≤ 1000) : applyT (loopS d i) ⟨3, d, 0, 0, 0⟩ = (⟨3, d + 1, if d = 0 then i else 0, if d = 1 then i else 0, if d = 2 then i else 0⟩, 0) := by
  rcases three h with rfl | rfl | rfl
  all_goals
    rw [applyT_mk (by rw [Sm.may_iff]; simp [loopS]; omega) (by decide) rfl (by rw [Tm.may_iff]; simp [loopS, ontoT]; omega)]
    simp [loopS, ontoT]
end Go.Proofs.Ytjnihfmmmadlhaa
