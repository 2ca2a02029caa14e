/- What Apply and Then do, as plain laws. -/
import Derived.Test.YtjnihfmmmadlhaaDm
namespace Go.Proofs.Ytjnihfmmmadlhaa
theorem thenS_two (s r : Sm) : (thenS s r).2 = 0 ∨ (thenS s r).2 = 1 ∨ (thenS s r).2 = 4 := by
  unfold thenS
  split
  · split <;> simp
  · simp
theorem thenS_ok {s r : Sm} (h : (thenS s r).2 = 0) : s.may = true ∧ r.may = true ∧ s.t = r.f ∧ (ontoT r s.e s.a s.b s.c).may = true ∧ (thenS s r).1 = ⟨s.f, r.t, min s.k r.k, (ontoT r s.e s.a s.b s.c).e, (ontoT r s.e s.a s.b s.c).a, (ontoT r s.e s.a s.b s.c).b, (ontoT r s.e s.a s.b s.c).c⟩ := by
  unfold thenS at h ⊢
  split at h
  · rename_i h1
    split at h
    · rename_i h2
      rw [if_pos h1, if_pos h2]
      exact ⟨h1.1, h1.2.1, h1.2.2, h2, rfl⟩
    · simp at h
  · simp at h
theorem applyT_ok {s : Sm} {t : Tm} (h : (applyT s t).2 = 0) : s.may = true ∧ t.may = true ∧ t.d = s.f ∧ (ontoT s t.e t.a t.b t.c).may = true ∧ (applyT s t).1 = ontoT s t.e t.a t.b t.c := by
  unfold applyT at h ⊢
  split at h
  · rename_i h1
    split at h
    · rename_i h2
      rw [if_pos h1, if_pos h2]
      exact ⟨h1.1, h1.2.1, h1.2.2, h2, rfl⟩
    · simp at h
  · simp at h
theorem applyT_mk {s : Sm} {t : Tm} (h1 : s.may = true) (h2 : t.may = true) (h3 : t.d = s.f) (h4 : (ontoT s t.e t.a t.b t.c).may = true) : applyT s t = (ontoT s t.e t.a t.b t.c, 0) := by
  unfold applyT
  rw [if_pos ⟨h1, h2, h3⟩, if_pos h4]
theorem thenS_mk {s r : Sm} (h1 : s.may = true) (h2 : r.may = true) (h3 : s.t = r.f) (h4 : (ontoT r s.e s.a s.b s.c).may = true) : thenS s r = (⟨s.f, r.t, min s.k r.k, (ontoT r s.e s.a s.b s.c).e, (ontoT r s.e s.a s.b s.c).a, (ontoT r s.e s.a s.b s.c).b, (ontoT r s.e s.a s.b s.c).c⟩, 0) := by
  unfold thenS
  rw [if_pos ⟨h1, h2, h3⟩, if_pos h4]
/-- Two summaries one behind the other are a summary that may be. -/
theorem thenS_may {s r : Sm} (h : (thenS s r).2 = 0) : (thenS s r).1.may = true := by
  obtain ⟨h1, h2, h3, h4, h5⟩ := thenS_ok h
  rw [h5, Sm.may_iff]
  rw [Sm.may_iff] at h1 h2
  rw [Tm.may_iff] at h4
  simp only [ontoT] at h4 ⊢
  omega
theorem onto_onto (s r : Sm) (e a b c : Int) : ontoT ⟨s.f, r.t, min s.k r.k, (ontoT r s.e s.a s.b s.c).e, (ontoT r s.e s.a s.b s.c).a, (ontoT r s.e s.a s.b s.c).b, (ontoT r s.e s.a s.b s.c).c⟩ e a b c = ontoT r (ontoT s e a b c).e (ontoT s e a b c).a (ontoT s e a b c).b (ontoT s e a b c).c := by
  simp only [ontoT, Tm.mk.injEq, true_and]
  refine ⟨by omega, ?_, ?_, ?_⟩ <;> (repeat' split) <;> omega
/-- What two do one behind the other is what the second does with what the first does. -/
theorem then_apply {s r : Sm} {t : Tm} (h1 : (thenS s r).2 = 0) (h2 : (applyT s t).2 = 0) (h3 : (applyT r (applyT s t).1).2 = 0) : applyT (thenS s r).1 t = ((applyT r (applyT s t).1).1, 0) := by
  obtain ⟨a1, a2, a3, a4, a5⟩ := thenS_ok h1
  obtain ⟨b1, b2, b3, b4, b5⟩ := applyT_ok h2
  obtain ⟨c1, c2, c3, c4, c5⟩ := applyT_ok h3
  have hm := thenS_may h1
  rw [c5, b5]
  rw [b5] at c4
  rw [a5] at hm ⊢
  rw [applyT_mk hm b2 b3 (by rw [onto_onto]; exact c4), onto_onto]
theorem sameS_mk {d : Int} (h1 : 0 ≤ d) (h2 : d ≤ 3) : sameS d = ⟨d, d, d, 0, 0, 0, 0⟩ := by
  unfold sameS madeS
  rw [if_neg (by omega)]
/-- A node that does nothing, ahead of a summary. -/
theorem same_then {s : Sm} (h : s.may = true) : thenS (sameS s.f) s = (s, 0) := by
  have h0 := h
  rw [Sm.may_iff] at h
  rw [sameS_mk (by omega) (by omega)]
  have h4 : ontoT s 0 0 0 0 = ⟨s.e, s.t, s.a, s.b, s.c⟩ := by simp [ontoT]
  rw [thenS_mk (s := ⟨s.f, s.f, s.f, 0, 0, 0, 0⟩) (r := s) (by rw [Sm.may_iff]; simp only [or_true, and_true]; omega) h0 rfl (by simp only [h4, Tm.may_iff]; omega)]
  simp only [h4]
  rw [show min s.f s.k = s.k by omega]
theorem then_same {s : Sm} (h : s.may = true) : thenS s (sameS s.t) = (s, 0) := by
  have h0 := h
  rw [Sm.may_iff] at h
  rw [sameS_mk (by omega) (by omega)]
  have h4 : ontoT ⟨s.t, s.t, s.t, 0, 0, 0, 0⟩ s.e s.a s.b s.c = ⟨s.e, s.t, s.a, s.b, s.c⟩ := by
    simp only [ontoT, Tm.mk.injEq, true_and]
    refine ⟨by omega, ?_, ?_, ?_⟩ <;> split <;> omega
  rw [thenS_mk (s := s) (r := ⟨s.t, s.t, s.t, 0, 0, 0, 0⟩) h0 (by rw [Sm.may_iff]; simp only [or_true, and_true]; omega) rfl (by simp only [h4, Tm.may_iff]; omega)]
  simp only [h4]
  rw [show min s.k s.t = s.k by omega]
/-- Three in either way. -/
theorem then_assoc {a b c : Sm} (h1 : (thenS a b).2 = 0) (h2 : (thenS b c).2 = 0) (h3 : (thenS (thenS a b).1 c).2 = 0) (h4 : (thenS a (thenS b c).1).2 = 0) : (thenS (thenS a b).1 c).1 = (thenS a (thenS b c).1).1 := by
  obtain ⟨-, -, -, -, p5⟩ := thenS_ok h1
  obtain ⟨-, -, -, -, q5⟩ := thenS_ok h2
  obtain ⟨-, -, -, -, r5⟩ := thenS_ok h3
  obtain ⟨-, -, -, -, s5⟩ := thenS_ok h4
  rw [r5, s5, p5, q5]
  simp only [ontoT, Sm.mk.injEq, true_and]
  refine ⟨by omega, by omega, ?_, ?_, ?_⟩ <;> (repeat' split) <;> omega
end Go.Proofs.Ytjnihfmmmadlhaa
