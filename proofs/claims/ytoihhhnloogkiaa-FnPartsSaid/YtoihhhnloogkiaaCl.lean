/- What records come to does not hang on their order. -/
import Derived.Test.YtoihhhnloogkiaaCh
namespace Go.Proofs.Ytoihhhnloogkiaa
open Go Go.RowKit
theorem w64_def (n : Int) : w64 n = if 9223372036854775808 ≤ n % 18446744073709551616 then n % 18446744073709551616 - 18446744073709551616 else n % 18446744073709551616 := by
  unfold w64 IntKind.wrap
  simp only [IntKind.bits, IntKind.signed, Bool.true_and, decide_eq_true_eq, Nat.add_one_sub_one]
  have h3 : (2 : Int) ^ (64 : Nat) = 18446744073709551616 := by decide
  have h4 : (2 : Int) ^ (64 - 1 : Nat) = 9223372036854775808 := by decide
  simp only [h3, h4, ge_iff_le, decide_eq_true_eq]
theorem w64_add (a b : Int) : w64 (w64 a + b) = w64 (a + b) := by
  rw [w64_def (w64 a + b), w64_def (a + b), w64_def a]
  split <;> split <;> split <;> omega
theorem nxtv_comm (a x y z : Int) : nxtv a (nxtv a x y) z = nxtv a (nxtv a x z) y := by
  unfold nxtv
  split
  · rfl
  · split
    · rw [w64_add, w64_add]; congr 1; omega
    · split <;> omega
theorem fst_comm (a x y : Int) : nxtv a (fstv a x) y = nxtv a (fstv a y) x := by
  unfold nxtv fstv
  split
  · rfl
  · split
    · rw [Int.add_comm]
    · split <;> omega
theorem rstep_comm (a k : Int) (o : Option Int) (r s : Rc) : rstep (fstv a) (nxtv a) k (rstep (fstv a) (nxtv a) k o r) s = rstep (fstv a) (nxtv a) k (rstep (fstv a) (nxtv a) k o s) r := by
  simp only [rstep]
  by_cases h1 : r.k = k
  · by_cases h2 : s.k = k
    · simp only [if_pos h1, if_pos h2]
      cases o with
      | none => simp only [fst_comm a r.v s.v]
      | some x => simp only [nxtv_comm a x r.v s.v]
    · simp only [if_pos h1, if_neg h2]
  · simp only [if_neg h1]
theorem redf_perm (a k : Int) {L M : List Rc} (h : L.Perm M) : redf (fstv a) (nxtv a) L k = redf (fstv a) (nxtv a) M k :=
  h.foldl_eq' (fun x _ y _ z => rstep_comm a k z x y) none
theorem kof_perm {L M : List Rc} (h : L.Perm M) : kof L = kof M := by unfold kof; rw [rsort_congr h]
theorem reduceA_perm (a : Int) {L M : List Rc} (h : L.Perm M) : reduceA a L = reduceA a M := by
  unfold reduceA
  split
  · rw [reduced_kof, reduced_kof, kof_perm h]
    refine List.map_congr_left fun k _ => ?_
    rw [redv, redv, redf_perm a k h]
  · rfl
theorem heldv_b (x : Int) : -1099511627776 ≤ heldv x ∧ heldv x ≤ 1099511627776 := by unfold heldv; omega
theorem may_of {r : Rc} (h1 : -1099511627776 ≤ r.k) (h2 : r.k ≤ 1099511627776) (h3 : -1099511627776 ≤ r.v) (h4 : r.v ≤ 1099511627776) : r.may = true := by
  simp [Rc.may, within]
  omega
theorem mapv_may {a b : Int} {r : Rc} (h : r.may = true) : (mapv a b r).may = true := by
  obtain ⟨k1, k2, v1, v2⟩ := may_b h
  cases hm : mayMap a b with
  | false => rw [mapv, hm]; simpa using h
  | true =>
    rw [mapS hm]
    have hb : -1000 ≤ b ∧ b ≤ 1000 := by
      simp [mayMap, smallv] at hm; omega
    split
    · have := heldv_b (w64 (r.v + b)); exact may_of k1 k2 this.1 this.2
    · split
      · have := heldv_b (w64 (r.v * b)); exact may_of k1 k2 this.1 this.2
      · split
        · rename_i h3
          have := modv_b (x := r.v) (mayMap3 hm h3).1
          exact may_of (by dsimp only; omega) (by dsimp only; omega) v1 v2
        · split
          · exact may_of v1 v2 k1 k2
          · exact may_of k1 k2 (by dsimp only; omega) (by dsimp only; omega)
theorem routev_b (k m : Int) : 0 ≤ routev k m ∧ routev k m < max 1 m := by
  unfold routev
  split
  · omega
  · have := modv_b (x := k) (b := m) (by omega); omega
/-- What Reduce gives: keys, and that each may be. -/
theorem reduceA_keys (a : Int) (L : List Rc) (hm : ∀ r ∈ L, r.may = true) : (mayRed a = true → (reduceA a L).length = (kof L).length) ∧ (mayRed a = false → (reduceA a L).length = 0) ∧
    ∀ (i : Nat) (h : i < (reduceA a L).length), (reduceA a L)[i].may = true ∧ ∃ h' : i < (kof L).length, (reduceA a L)[i].k = (kof L)[i] := by
  cases ha : mayRed a with
  | false =>
    have e : reduceA a L = [] := by simp [reduceA, ha]
    rw [e]
    simp
  | true =>
    have e : reduceA a L = (kof L).map (redv (fstv a) (nxtv a) L) := by rw [reduceA, if_pos ha, reduced_kof]
    rw [e]
    refine ⟨fun _ => by simp, fun h => (by cases h), fun i h => ?_⟩
    have hi : i < (kof L).length := by simpa using h
    simp only [List.getElem_map]
    refine ⟨?_, hi, rfl⟩
    obtain ⟨r, hr, hk⟩ := kof_mem.1 (List.getElem_mem hi)
    obtain ⟨k1, k2, _, _⟩ := may_b (hm r hr)
    have := heldv_b ((redf (fstv a) (nxtv a) L (kof L)[i]).getD 0)
    exact may_of (by rw [redv]; dsimp only; omega) (by rw [redv]; dsimp only; omega) this.1 this.2
end Go.Proofs.Ytoihhhnloogkiaa
