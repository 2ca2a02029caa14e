/- What is less makes less: the plain laws of SummaryLess. -/
import Derived.Test.YtjnihfmmmadlhaaDt
namespace Go.Proofs.Ytjnihfmmmadlhaa
set_option linter.unusedSimpArgs false
theorem apply_ok {s : Sm} {t q : Tm} (h : applyT s t = (q, 0)) : s.may = true ∧ t.may = true ∧ t.d = s.f ∧ q = ⟨s.e + t.e, s.t, if 0 < s.k then s.a + t.a else s.a, if 1 < s.k then s.b + t.b else s.b, if 2 < s.k then s.c + t.c else s.c⟩ := by
  unfold applyT at h
  split at h
  · rename_i hg
    split at h
    · exact ⟨hg.1, hg.2.1, hg.2.2, (Prod.mk.inj h).1.symm⟩
    · exact absurd (Prod.mk.inj h).2 (by decide)
  · exact absurd (Prod.mk.inj h).2 (by decide)
/-- What is less makes less. -/
theorem less_makes {s r : Sm} {t a b : Tm} (h : lessS s r = true) (h1 : applyT s t = (a, 0)) (h2 : applyT r t = (b, 0)) : lessT a b = true := by
  obtain ⟨hs, ht, e1, rfl⟩ := apply_ok h1
  obtain ⟨hr, -, e2, rfl⟩ := apply_ok h2
  have k1 := (Sm.may_iff s).1 hs
  have k2 := (Sm.may_iff r).1 hr
  have k3 := (Tm.may_iff t).1 ht
  rw [lessS_iff] at h
  rw [lessT_iff]
  dsimp only
  obtain ⟨-, -, h1, h2, h3, h4, h5, h6, h7, h8, h9⟩ := h
  refine ⟨h3, h4, h5, by omega, ?_, ?_, ?_⟩
  · rcases h7 with h | h
    · exact .inl h
    · right; split <;> split <;> omega
  · rcases h8 with h | h
    · exact .inl h
    · right; split <;> split <;> omega
  · rcases h9 with h | h
    · exact .inl h
    · right; split <;> split <;> omega
/-- A greater time comes to no less. -/
theorem more_makes {s : Sm} {t u a c : Tm} (h : lessT t u = true) (h1 : applyT s t = (a, 0)) (h2 : applyT s u = (c, 0)) : lessT a c = true := by
  obtain ⟨hs, ht, e1, rfl⟩ := apply_ok h1
  obtain ⟨-, hu, e2, rfl⟩ := apply_ok h2
  have k1 := (Sm.may_iff s).1 hs
  rw [lessT_iff] at h ⊢
  dsimp only
  obtain ⟨h3, h4, h5, h6, h7, h8, h9⟩ := h
  refine ⟨rfl, by omega, by omega, by omega, ?_, ?_, ?_⟩
  all_goals (right; split <;> omega)
theorem less_self {s : Sm} (h : s.may = true) : lessS s s = true := by
  have k1 := (Sm.may_iff s).1 h
  rw [lessS_iff]
  refine ⟨h, h, rfl, by omega, rfl, by omega, by omega, by omega, .inr (by omega), .inr (by omega), .inr (by omega)⟩
def highS (r : Sm) : Bool := decide (500 ≤ r.a) || decide (500 ≤ r.b) || decide (500 ≤ r.c)
def lowT (d : Int) : Tm := ⟨0, d, 0, 0, 0⟩
def midT (d : Int) : Tm := ⟨0, d, if 0 < d then 500 else 0, if 1 < d then 500 else 0, if 2 < d then 500 else 0⟩
theorem low_ok {s : Sm} (h : s.may = true) : applyT s (lowT s.f) = (⟨s.e, s.t, s.a, s.b, s.c⟩, 0) := by
  have k1 := (Sm.may_iff s).1 h
  have e : ontoT s (lowT s.f).e (lowT s.f).a (lowT s.f).b (lowT s.f).c = ⟨s.e, s.t, s.a, s.b, s.c⟩ := by
    simp [ontoT, lowT]
  have m : (lowT s.f).may = true := by
    show Tm.may ⟨0, s.f, 0, 0, 0⟩ = true
    rw [Tm.may_iff]; dsimp only; omega
  unfold applyT
  rw [if_pos ⟨h, m, rfl⟩, e, if_pos (by rw [Tm.may_iff]; dsimp only; omega)]
/-- One that is not less makes more of some time. -/
theorem more_some {s r : Sm} {p q : Tm} (hs : s.may = true) (hr : r.may = true) (hf : s.f = r.f) (ht : s.t = r.t) (hn : lessS s r = false) (hu : lessT ⟨s.e, s.t, s.a, s.b, s.c⟩ ⟨r.e, r.t, r.a, r.b, r.c⟩ = true)
    (h1 : applyT s (midT s.f) = (p, 0)) (h2 : applyT r (midT s.f) = (q, 0)) (ho : lessT p q = true) : highS r = true := by
  obtain ⟨-, -, -, rfl⟩ := apply_ok h1
  obtain ⟨-, -, -, rfl⟩ := apply_ok h2
  have k1 := (Sm.may_iff s).1 hs
  have k2 := (Sm.may_iff r).1 hr
  rw [lessT_iff] at hu ho
  dsimp only [midT] at hu ho
  obtain ⟨-, -, -, u1, u2, u3, u4⟩ := hu
  obtain ⟨-, -, -, o1, o2, o3, o4⟩ := ho
  have hk : r.k < s.k := by
    rcases Int.lt_or_le r.k s.k with h | h
    · exact h
    · have : lessS s r = true := by
        rw [lessS_iff]
        exact ⟨hs, hr, hf, h, ht, by omega, by omega, u1, u2, u3, u4⟩
      rw [hn] at this; cases this
  simp only [highS, Bool.or_eq_true, decide_eq_true_eq]
  have c : r.k = 0 ∨ r.k = 1 ∨ r.k = 2 := by omega
  rcases c with c | c | c
  · left; left
    rw [if_pos (by omega), if_pos (by omega), if_neg (by omega)] at o2
    omega
  · left; right
    rw [if_pos (by omega), if_pos (by omega), if_neg (by omega)] at o3
    omega
  · right
    rw [if_pos (by omega), if_pos (by omega), if_neg (by omega)] at o4
    omega
end Go.Proofs.Ytjnihfmmmadlhaa
