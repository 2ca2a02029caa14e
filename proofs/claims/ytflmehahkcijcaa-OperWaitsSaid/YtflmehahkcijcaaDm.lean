/- Times and summaries as plain numbers. -/
namespace Go.Proofs.Ytflmehahkcijcaa
/-- A time: epoch, depth, counters. -/
structure Tm where
  (e d a b c : Int)
/-- A summary: from, to, keep, epochs, what is added. -/
structure Sm where
  (f t k e a b c : Int)
def Tm.zero : Tm := ⟨0, 0, 0, 0, 0⟩
def Sm.zero : Sm := ⟨0, 0, 0, 0, 0, 0, 0⟩
def Tm.may (t : Tm) : Bool := 0 ≤ t.e && t.e ≤ 1048576 && 0 ≤ t.d && t.d ≤ 3 && 0 ≤ t.a && t.a ≤ 1000 && 0 ≤ t.b && t.b ≤ 1000 && 0 ≤ t.c && t.c ≤ 1000 && (0 < t.d || t.a = 0) && (1 < t.d || t.b = 0) && (2 < t.d || t.c = 0)
def Sm.whole (s : Sm) : Tm := ⟨s.e, s.t, s.a, s.b, s.c⟩
def Sm.may (s : Sm) : Bool := 0 ≤ s.f && s.f ≤ 3 && 0 ≤ s.k && s.k ≤ s.f && s.k ≤ s.t && s.whole.may
theorem Tm.may_mk (e d a b c : Int) : Tm.may ⟨e, d, a, b, c⟩ = (0 ≤ e && e ≤ 1048576 && 0 ≤ d && d ≤ 3 && 0 ≤ a && a ≤ 1000 && 0 ≤ b && b ≤ 1000 && 0 ≤ c && c ≤ 1000 && (0 < d || a = 0) && (1 < d || b = 0) && (2 < d || c = 0) : Bool) := rfl
theorem Sm.may_mk (f t k e a b c : Int) : Sm.may ⟨f, t, k, e, a, b, c⟩ = (0 ≤ f && f ≤ 3 && 0 ≤ k && k ≤ f && k ≤ t && Tm.may ⟨e, t, a, b, c⟩ : Bool) := rfl
/-- What 'may' says. -/
theorem Tm.may_iff (t : Tm) : t.may = true ↔ (0 ≤ t.e ∧ t.e ≤ 1048576 ∧ 0 ≤ t.d ∧ t.d ≤ 3 ∧ 0 ≤ t.a ∧ t.a ≤ 1000 ∧ 0 ≤ t.b ∧ t.b ≤ 1000 ∧ 0 ≤ t.c ∧ t.c ≤ 1000 ∧ (0 < t.d ∨ t.a = 0) ∧ (1 < t.d ∨ t.b = 0) ∧ (2 < t.d ∨ t.c = 0)) := by
  obtain ⟨e, d, a, b, c⟩ := t
  rw [Tm.may_mk]
  simp
  omega
theorem Sm.may_iff (s : Sm) : s.may = true ↔ (0 ≤ s.f ∧ s.f ≤ 3 ∧ 0 ≤ s.k ∧ s.k ≤ s.f ∧ s.k ≤ s.t ∧ 0 ≤ s.e ∧ s.e ≤ 1048576 ∧ 0 ≤ s.t ∧ s.t ≤ 3 ∧ 0 ≤ s.a ∧ s.a ≤ 1000 ∧ 0 ≤ s.b ∧ s.b ≤ 1000 ∧ 0 ≤ s.c ∧ s.c ≤ 1000 ∧ (0 < s.t ∨ s.a = 0) ∧ (1 < s.t ∨ s.b = 0) ∧ (2 < s.t ∨ s.c = 0)) := by
  obtain ⟨f, t, k, e, a, b, c⟩ := s
  rw [Sm.may_mk]
  simp only [Bool.and_eq_true, Tm.may_iff, decide_eq_true_eq]
  omega
def madeS (f t k : Int) : Sm := if min f t < 0 ∨ max f t > 3 then Sm.zero else ⟨f, t, k, 0, 0, 0, 0⟩
def sameS (d : Int) : Sm := madeS d d d
def enterS (d : Int) : Sm := if d > 3 then Sm.zero else madeS d (d + 1) d
def leaveS (d : Int) : Sm := if d < 1 then Sm.zero else madeS d (d - 1) (d - 1)
def feedS (d : Int) : Sm := if d < 0 ∨ d > 3 then Sm.zero else ⟨d, d, d, 0, if d = 1 then 1 else 0, if d = 2 then 1 else 0, if d = 3 then 1 else 0⟩
/-- What a summary makes of an epoch and counters. -/
def ontoT (s : Sm) (e a b c : Int) : Tm := ⟨s.e + e, s.t, if 0 < s.k then s.a + a else s.a, if 1 < s.k then s.b + b else s.b, if 2 < s.k then s.c + c else s.c⟩
def applyT (s : Sm) (t : Tm) : Tm × Int :=
  if s.may = true ∧ t.may = true ∧ t.d = s.f then (if (ontoT s t.e t.a t.b t.c).may = true then (ontoT s t.e t.a t.b t.c, 0) else (Tm.zero, 4)) else (Tm.zero, 1)
def thenS (s r : Sm) : Sm × Int :=
  if s.may = true ∧ r.may = true ∧ s.t = r.f then
    (if (ontoT r s.e s.a s.b s.c).may = true then (⟨s.f, r.t, min s.k r.k, (ontoT r s.e s.a s.b s.c).e, (ontoT r s.e s.a s.b s.c).a, (ontoT r s.e s.a s.b s.c).b, (ontoT r s.e s.a s.b s.c).c⟩, 0) else (Sm.zero, 4)) else (Sm.zero, 1)
end Go.Proofs.Ytflmehahkcijcaa
