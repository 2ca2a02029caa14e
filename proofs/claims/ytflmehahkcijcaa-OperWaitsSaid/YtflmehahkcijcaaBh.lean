/- Sorted records: there is one sorted row of given records. -/
import Derived.Test.YtflmehahkcijcaaBd
namespace Go.Proofs.Ytflmehahkcijcaa
/-- The order, as a relation. -/
def rle (x y : Rc) : Prop := x.k < y.k ∨ x.k = y.k ∧ x.v ≤ y.v
theorem rord_le (x y : Rc) : rord x y ≤ 0 ↔ rle x y := by
  obtain ⟨a, b⟩ := x
  obtain ⟨c, d⟩ := y
  simp only [rord, rle, Rc.mk.injEq]
  split
  · simp; omega
  · split <;> simp <;> omega
theorem rord_lt (x y : Rc) : rord x y < 0 ↔ ¬ rle y x := by
  obtain ⟨a, b⟩ := x
  obtain ⟨c, d⟩ := y
  simp only [rord, rle, Rc.mk.injEq]
  split
  · simp; omega
  · split <;> simp <;> omega
theorem rle_refl (x : Rc) : rle x x := .inr ⟨rfl, Int.le_refl _⟩
theorem rle_total (x y : Rc) : rle x y ∨ rle y x := by unfold rle; omega
theorem rle_trans {x y z : Rc} (h : rle x y) (k : rle y z) : rle x z := by unfold rle at *; omega
theorem rle_antisymm {x y : Rc} (h : rle x y) (k : rle y x) : x = y := by
  obtain ⟨a, b⟩ := x
  obtain ⟨c, d⟩ := y
  simp only [rle] at h k
  simp only [Rc.mk.injEq]
  omega
def Srt (L : List Rc) : Prop := L.Pairwise rle
/-- One sorted row of given records. -/
theorem srt_unique {L M : List Rc} (hp : L.Perm M) (h : Srt L) (k : Srt M) : L = M :=
  List.Perm.eq_of_pairwise (le := rle) (fun _ _ _ _ h1 h2 => rle_antisymm h1 h2) h k hp
theorem put_perm (L : List Rc) (r : Rc) : (put L r).Perm (r :: L) := by
  have e : upto L r ++ from_ L r = L := List.takeWhile_append_dropWhile
  unfold put
  refine (List.perm_middle (a := r) (l₁ := upto L r) (l₂ := from_ L r) |> fun h => ?_)
  simpa [e] using h
theorem rsort_perm (L : List Rc) : (rsort L).Perm L := by
  have : ∀ (L M : List Rc), (L.foldl put M).Perm (M ++ L) := by
    intro L
    induction L with
    | nil => intro M; simp
    | cons x L ih =>
      intro M
      rw [List.foldl_cons]
      refine (ih _).trans ?_
      refine ((put_perm M x).append_right L).trans ?_
      exact List.perm_middle.symm
  simpa [rsort] using this L []
theorem put_srt {L : List Rc} (h : Srt L) (r : Rc) : Srt (put L r) := by
  unfold Srt at *
  induction L with
  | nil => simp [put, upto, from_]
  | cons x L ih =>
    obtain ⟨h1, h2⟩ := List.pairwise_cons.1 h
    by_cases c : rord x r ≤ 0
    · have e : put (x :: L) r = x :: put L r := by simp [put, upto, from_, c]
      rw [e]
      refine List.pairwise_cons.2 ⟨fun y hy => ?_, ih h2⟩
      rcases List.mem_cons.1 ((put_perm L r).mem_iff.1 hy) with rfl | hy
      · exact (rord_le _ _).1 c
      · exact h1 y hy
    · have e : put (x :: L) r = r :: x :: L := by simp [put, upto, from_, c]
      rw [e]
      have hx : rle r x := (rle_total r x).resolve_right fun hh => c ((rord_le _ _).2 hh)
      refine List.pairwise_cons.2 ⟨fun y hy => ?_, h⟩
      rcases List.mem_cons.1 hy with rfl | hy
      · exact hx
      · exact rle_trans hx (h1 y hy)
theorem rsort_srt (L : List Rc) : Srt (rsort L) := by
  have : ∀ (L M : List Rc), Srt M → Srt (L.foldl put M) := by
    intro L
    induction L with
    | nil => intro M h; exact h
    | cons x L ih => intro M h; exact ih _ (put_srt h x)
  exact this L [] List.Pairwise.nil
theorem merge_rsort (L : List Rc) (lt : Rc → Rc → Bool) (hlt : ∀ x y, lt x y = decide (rord x y < 0)) : L.mergeSort (fun x y => !lt y x) = rsort L := by
  have hle : ∀ x y, (!lt y x) = true ↔ rle x y := fun x y => by
    rw [hlt]
    have := rord_lt y x
    simp only [Bool.not_eq_true', decide_eq_false_iff_not]
    exact ⟨fun h => Classical.byContradiction fun hc => h (this.2 hc), fun h hc => this.1 hc h⟩
  refine srt_unique ((List.mergeSort_perm _ _).trans (rsort_perm L).symm) ?_ (rsort_srt L)
  have := List.pairwise_mergeSort (le := fun x y => !lt y x) (fun a b c h1 h2 => (hle a c).2 (rle_trans ((hle a b).1 h1) ((hle b c).1 h2))) (fun a b => by
    rcases rle_total a b with h | h
    · simp [(hle a b).2 h]
    · simp [(hle b a).2 h]) L
  exact this.imp fun h => (hle _ _).1 h
theorem rsort_congr {L M : List Rc} (h : L.Perm M) : rsort L = rsort M := srt_unique ((rsort_perm L).trans (h.trans (rsort_perm M).symm)) (rsort_srt L) (rsort_srt M)
theorem rsort_eq {L M : List Rc} (h : L.Perm M) (k : Srt L) : L = rsort M := srt_unique (h.trans (rsort_perm M).symm) k (rsort_srt M)
end Go.Proofs.Ytflmehahkcijcaa
