/- What records come to: as the reference has it, and not by their order. (Chapter 6's plain laws, for chapter 18.) -/
import Derived.Test.YtflmehahkcijcaaCd
import Derived.Test.YtflmehahkcijcaaCc
namespace Go.Proofs.Ytflmehahkcijcaa
open Go Go.RowKit
set_option linter.unusedSimpArgs false
theorem may_b {r : Rc} (h : r.may = true) : -1099511627776 ≤ r.k ∧ r.k ≤ 1099511627776 ∧ -1099511627776 ≤ r.v ∧ r.v ≤ 1099511627776 := by
  simp [Rc.may, within] at h
  omega
def kof (L : List Rc) : List Int := keysOf (rsort L)
theorem keys_inv {s : List Rc} (hs : Srt s) : ∀ n, n ≤ s.length → (∀ x ∈ keysOf (s.take n), ∃ r ∈ s.take n, r.k = x) ∧ (∀ r ∈ s.take n, r.k ∈ keysOf (s.take n)) ∧ (keysOf (s.take n)).Pairwise (· < ·) ∧ (∀ (h : n - 1 < s.length), n ≠ 0 → ∀ x ∈ keysOf (s.take n), x ≤ s[n - 1].k)
  | 0, _ => by simp [keysOf]
  | n + 1, hn => by
    obtain ⟨h1, h2, h3, h4⟩ := keys_inv hs n (by omega)
    have hlt : n < s.length := by omega
    have htake := List.take_succ_eq_append_getElem hlt
    by_cases h0 : n = 0
    · subst h0
      have e := keys_zero hlt rfl
      have e0 : keysOf (s.take 0) = [] := by simp [keysOf]
      rw [e0, List.nil_append] at e
      rw [e, htake]
      simp
    · have hprev : n - 1 < s.length := by omega
      have hle : s[n - 1].k ≤ s[n].k := by
        have := List.pairwise_iff_getElem.1 hs (n - 1) n hprev hlt (by omega)
        unfold rle at this; omega
      by_cases he : s[n].k = s[n - 1].k
      · have e := keys_old hlt h0 he
        rw [e, htake]
        refine ⟨fun x hx => ?_, fun r hr => ?_, h3, fun h _ x hx => ?_⟩
        · obtain ⟨r, hr, hk⟩ := h1 x hx
          exact ⟨r, List.mem_append_left _ hr, hk⟩
        · rcases List.mem_append.1 hr with hr | hr
          · exact h2 r hr
          · rw [List.mem_singleton] at hr
            subst hr
            rw [he]
            refine h2 _ ?_
            rw [List.mem_take_iff_getElem]
            exact ⟨n - 1, by omega, rfl⟩
        · have := h4 hprev h0 x hx
          simp only [Nat.add_sub_cancel]
          omega
      · have e := keys_new hlt h0 he
        rw [e, htake]
        refine ⟨fun x hx => ?_, fun r hr => ?_, ?_, fun h _ x hx => ?_⟩
        · rcases List.mem_append.1 hx with hx | hx
          · obtain ⟨r, hr, hk⟩ := h1 x hx
            exact ⟨r, List.mem_append_left _ hr, hk⟩
          · rw [List.mem_singleton] at hx
            exact ⟨s[n], List.mem_append_right _ (List.mem_singleton.2 rfl), hx.symm⟩
        · rcases List.mem_append.1 hr with hr | hr
          · exact List.mem_append_left _ (h2 r hr)
          · rw [List.mem_singleton] at hr
            subst hr
            simp
        · refine List.pairwise_append.2 ⟨h3, List.pairwise_singleton _ _, fun x hx y hy => ?_⟩
          rw [List.mem_singleton] at hy
          have := h4 hprev h0 x hx
          omega
        · simp only [Nat.add_sub_cancel]
          rcases List.mem_append.1 hx with hx | hx
          · have := h4 hprev h0 x hx; omega
          · rw [List.mem_singleton] at hx; omega
theorem keys_mem (A : List Rc) {r : Rc} (h : r ∈ A) : r.k ∈ keysOf (rsort A) := by
  have := (keys_inv (rsort_srt A) _ (Nat.le_refl _)).2.1 r
  rw [List.take_length] at this
  exact this ((rsort_perm A).mem_iff.2 h)
theorem keys_of (A : List Rc) {x : Int} (h : x ∈ keysOf (rsort A)) : ∃ r ∈ A, r.k = x := by
  have := (keys_inv (rsort_srt A) _ (Nat.le_refl _)).1 x
  rw [List.take_length] at this
  obtain ⟨r, hr, hk⟩ := this h
  exact ⟨r, (rsort_perm A).mem_iff.1 hr, hk⟩
theorem kof_mem {L : List Rc} {x : Int} : x ∈ kof L ↔ ∃ r ∈ L, r.k = x :=
  ⟨fun h => keys_of L h, fun ⟨r, hr, hk⟩ => hk ▸ keys_mem L hr⟩
theorem reduced_kof (f : Int → Int) (g : Int → Int → Int) (L : List Rc) : reduced f g L = (kof L).map (redv f g L) := rfl
theorem w64_def (n : Int) : w64 n = if 9223372036854775808 ≤ n % 18446744073709551616 then n % 18446744073709551616 - 18446744073709551616 else n % 18446744073709551616 := by
  unfold w64 IntKind.wrap
  simp only [IntKind.bits, IntKind.signed, Bool.true_and, decide_eq_true_eq, Nat.add_one_sub_one]
  have h3 : (2 : Int) ^ (64 : Nat) = 18446744073709551616 := by decide
  have h4 : (2 : Int) ^ (64 - 1 : Nat) = 9223372036854775808 := by decide
  simp only [h3, h4, ge_iff_le, decide_eq_true_eq]
theorem w64_add (a b : Int) : w64 (w64 a + b) = w64 (a + b) := by
  rw [w64_def (w64 a + b), w64_def (a + b), w64_def a]
  split <;> split <;> split <;> omega
theorem nxtv_comm (a x y z : Int) : nxtv a (nxtv a x y) z = nxtv a (nxtv a x z) y := by
  unfold nxtv
  split
  · rfl
  · split
    · rw [w64_add, w64_add]; congr 1; omega
    · split <;> omega
theorem fst_comm (a x y : Int) : nxtv a (fstv a x) y = nxtv a (fstv a y) x := by
  unfold nxtv fstv
  split
  · rfl
  · split
    · rw [Int.add_comm]
    · split <;> omega
theorem rstep_comm (a k : Int) (o : Option Int) (r s : Rc) : rstep (fstv a) (nxtv a) k (rstep (fstv a) (nxtv a) k o r) s = rstep (fstv a) (nxtv a) k (rstep (fstv a) (nxtv a) k o s) r := by
  simp only [rstep]
  by_cases h1 : r.k = k
  · by_cases h2 : s.k = k
    · simp only [if_pos h1, if_pos h2]
      cases o with
      | none => simp only [fst_comm a r.v s.v]
      | some x => simp only [nxtv_comm a x r.v s.v]
    · simp only [if_pos h1, if_neg h2]
  · simp only [if_neg h1]
theorem redf_perm (a k : Int) {L M : List Rc} (h : L.Perm M) : redf (fstv a) (nxtv a) L k = redf (fstv a) (nxtv a) M k :=
  h.foldl_eq' (fun x _ y _ z => rstep_comm a k z x y) none
theorem kof_perm {L M : List Rc} (h : L.Perm M) : kof L = kof M := by unfold kof; rw [rsort_congr h]
theorem reduceA_perm (a : Int) {L M : List Rc} (h : L.Perm M) : reduceA a L = reduceA a M := by
  unfold reduceA
  split
  · rw [reduced_kof, reduced_kof, kof_perm h]
    refine List.map_congr_left fun k _ => ?_
    rw [redv, redv, redf_perm a k h]
  · rfl
theorem w64_in {x : Int} (h1 : -9223372036854775808 ≤ x) (h2 : x ≤ 9223372036854775807) : w64 x = x := i64w x h1 h2
theorem red_same (a : Int) (ha : mayRed a = true) (L : List Rc) (hm : ∀ r ∈ L, r.may = true) (hL : L.length ≤ 10000000) (k : Int) : ∀ i, i ≤ L.length →
    ((redr a (L.take i) k).1 = 0 ∧ redf (fstv a) (nxtv a) (L.take i) k = none ∧ (redr a (L.take i) k).2 = 0) ∨
    (1 ≤ (redr a (L.take i) k).1 ∧ (redr a (L.take i) k).1 ≤ i ∧ redf (fstv a) (nxtv a) (L.take i) k = some (if a = 1 then (redr a (L.take i) k).1 else (redr a (L.take i) k).2))
  | 0, _ => by simp [redr, redf]
  | i + 1, hi => by
    have hlt : i < L.length := by omega
    have ih := red_same a ha L hm hL k i (by omega)
    have hr := may_b (hm L[i] (List.getElem_mem hlt))
    have ha' : 1 ≤ a ∧ a ≤ 4 := by simp [mayRed] at ha; exact ha
    rw [redr_take a hlt, redf_take _ _ hlt]
    generalize redr a (L.take i) k = q at *
    generalize redf (fstv a) (nxtv a) (L.take i) k = o at *
    obtain ⟨n, x⟩ := q
    by_cases hk : L[i].k = k
    · right
      rcases ih with ⟨h1, h2, h3⟩ | ⟨h1, h2, h3⟩
      · dsimp only at h1 h3
        subst h1; subst h2; subst h3
        simp only [rst, rstep, if_pos hk, fstv]
        refine ⟨by omega, by omega, ?_⟩
        by_cases h1 : a = 1
        · simp [h1]
        · rw [if_neg h1, if_neg h1]
          by_cases h2 : a = 2
          · rw [if_pos h2, w64_in (by omega) (by omega), Int.zero_add]
          · rw [if_neg h2]; simp
      · dsimp only at h1 h2 h3
        subst h3
        simp only [rst, rstep, if_pos hk, nxtv]
        refine ⟨by omega, by omega, ?_⟩
        by_cases e1 : a = 1
        · simp only [e1, if_true]
          rw [w64_in (by omega) (by omega)]
        · simp only [if_neg e1]
          by_cases e2 : a = 2
          · simp [e2]
          · simp only [if_neg e2]
            congr 1
            by_cases e3 : a = 3
            · subst e3
              simp only [if_true]
              by_cases hx : x < L[i].v
              · rw [if_pos (Or.inr (Or.inl ⟨trivial, hx⟩))]; omega
              · rw [if_neg (by rintro (h | h | h); omega; exact hx h.2; exact absurd h.1 (by decide))]; omega
            · have e4 : a = 4 := by omega
              subst e4
              simp only [if_neg e3]
              by_cases hx : L[i].v < x
              · rw [if_pos (Or.inr (Or.inr ⟨trivial, hx⟩))]; omega
              · rw [if_neg (by rintro (h | h | h); omega; exact e3 h.1; exact hx h.2)]; omega
    · simp only [rst, rstep, if_neg hk]
      rcases ih with ih | ⟨h1, h2, h3⟩
      · exact .inl ih
      · exact .inr ⟨h1, by dsimp only at h2 ⊢; omega, h3⟩
theorem reduce_same (a : Int) (L : List Rc) (hm : ∀ r ∈ L, r.may = true) (hL : L.length ≤ 10000000) : reduceA a L = rreduceA a L := by
  unfold reduceA rreduceA
  split
  · rename_i ha
    unfold reduced
    refine List.map_congr_left fun k _ => ?_
    have h := red_same a ha L hm hL k L.length (Nat.le_refl _)
    rw [List.take_length] at h
    unfold redv redw
    rcases h with ⟨h1, h2, h3⟩ | ⟨h1, h2, h3⟩
    · rw [h2, h1, h3]; simp
    · rw [h3]; rfl
  · rfl
end Go.Proofs.Ytflmehahkcijcaa
