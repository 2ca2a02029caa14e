/- What records come to, key by key: plain laws. -/
import Derived.Test.YtoihhhnloogkiaaCg
import Derived.Test.YtoihhhnloogkiaaBs
namespace Go.Proofs.Ytoihhhnloogkiaa
open Go Go.RowKit
theorem incr_eq : ∀ (A B : List Int), A.Pairwise (· < ·) → B.Pairwise (· < ·) → (∀ x, x ∈ A ↔ x ∈ B) → A = B
  | [], [], _, _, _ => rfl
  | [], b :: B, _, _, h => absurd ((h b).2 (List.mem_cons_self ..)) (by simp)
  | a :: A, [], _, _, h => absurd ((h a).1 (List.mem_cons_self ..)) (by simp)
  | a :: A, b :: B, hA, hB, h => by
    obtain ⟨a1, a2⟩ := List.pairwise_cons.1 hA
    obtain ⟨b1, b2⟩ := List.pairwise_cons.1 hB
    have e : a = b := by
      rcases List.mem_cons.1 ((h a).1 (List.mem_cons_self ..)) with h1 | h1
      · exact h1
      · rcases List.mem_cons.1 ((h b).2 (List.mem_cons_self ..)) with h2 | h2
        · exact h2.symm
        · have := a1 b h2; have := b1 a h1; omega
    subst e
    rw [incr_eq A B a2 b2 fun x => ?_]
    constructor
    · intro hx
      rcases List.mem_cons.1 ((h x).1 (List.mem_cons_of_mem _ hx)) with h1 | h1
      · have := a1 x hx; omega
      · exact h1
    · intro hx
      rcases List.mem_cons.1 ((h x).2 (List.mem_cons_of_mem _ hx)) with h1 | h1
      · have := b1 x hx; omega
      · exact h1
/-- The keys of records, rising. -/
def kof (L : List Rc) : List Int := keysOf (rsort L)
theorem kof_inc (L : List Rc) : (kof L).Pairwise (· < ·) := by
  have := (keys_inv (rsort_srt L) _ (Nat.le_refl _)).2.2.1
  rw [List.take_length] at this
  exact this
theorem kof_mem {L : List Rc} {x : Int} : x ∈ kof L ↔ ∃ r ∈ L, r.k = x :=
  ⟨fun h => keys_of L h, fun ⟨r, hr, hk⟩ => hk ▸ keys_mem L hr⟩
theorem kof_eq {L : List Rc} {K : List Int} (h1 : K.Pairwise (· < ·)) (h2 : ∀ x, x ∈ K ↔ ∃ r ∈ L, r.k = x) : kof L = K :=
  incr_eq _ _ (kof_inc L) h1 fun x => kof_mem.trans (h2 x).symm
theorem redf_filter (f : Int → Int) (g : Int → Int → Int) (L : List Rc) (k : Int) : redf f g (L.filter fun r => decide (r.k = k)) k = redf f g L k := by
  unfold redf
  rw [List.foldl_filter]
  congr 1
  funext o r
  simp only [rstep, decide_eq_true_eq]
  split <;> rfl
theorem reduced_kof (f : Int → Int) (g : Int → Int → Int) (L : List Rc) : reduced f g L = (kof L).map (redv f g L) := rfl
/-- A key's records come to what they come to alone. -/
theorem reduced_one (f : Int → Int) (g : Int → Int → Int) (L : List Rc) {k : Int} (h : k ∈ kof L) : reduced f g (L.filter fun r => decide (r.k = k)) = [redv f g L k] := by
  have e : kof (L.filter fun r => decide (r.k = k)) = [k] := by
    refine kof_eq (List.pairwise_singleton _ _) fun x => ?_
    obtain ⟨r, hr, hk⟩ := kof_mem.1 h
    constructor
    · intro hx
      rw [List.mem_singleton] at hx
      exact ⟨r, List.mem_filter.2 ⟨hr, by simp [hk]⟩, by rw [hk, hx]⟩
    · rintro ⟨q, hq, hqk⟩
      have := (List.mem_filter.1 hq).2
      simp at this
      simp [← hqk, this]
  rw [reduced_kof, e, List.map_cons, List.map_nil]
  simp only [redv, redf_filter]
theorem filter_one {L : List Rc} {k : Int} {r : Rc} : L.Pairwise (fun a b => a.k ≠ b.k) → r ∈ L → r.k = k → L.filter (fun r => decide (r.k = k)) = [r] := by
  intro hp hr hk
  induction L with
  | nil => simp at hr
  | cons x L ih =>
    obtain ⟨h1, h2⟩ := List.pairwise_cons.1 hp
    rcases List.mem_cons.1 hr with h | h
    · subst h
      rw [List.filter_cons_of_pos (by simp [hk])]
      congr 1
      rw [List.filter_eq_nil_iff]
      intro y hy
      have := h1 y hy
      simp
      omega
    · have := h1 r h
      rw [List.filter_cons_of_neg (by simp; omega)]
      exact ih h2 h
/-- Records with rising keys stand for themselves. -/
theorem reduced_ones (f : Int → Int) (g : Int → Int → Int) {L : List Rc} (h : L.Pairwise fun a b => a.k < b.k) : reduced f g L = L.map fun r => ⟨r.k, heldv (f r.v)⟩ := by
  have e : kof L = L.map (·.k) := kof_eq (List.pairwise_map.2 h) fun x => by simp
  rw [reduced_kof, e, List.map_map]
  refine List.map_congr_left fun r hr => ?_
  simp only [Function.comp_apply, redv]
  rw [← redf_filter, filter_one (h.imp fun h => by omega) hr rfl]
  simp [redf, rstep]
end Go.Proofs.Ytoihhhnloogkiaa
