/- What two rows of records come to comes of what each row comes to. -/
import Derived.Test.YtoihhhnloogkiaaCl
namespace Go.Proofs.Ytoihhhnloogkiaa
open Go Go.RowKit
def opv (k u v : Int) : Int := if k = 1 ∨ k = 2 then u + v else if k = 3 then max u v else min u v
def zstep (k x : Int) (o : Option Int) (r : Rc) : Option Int := if r.k = x then some (match o with | some u => opv k u (fstv k r.v) | none => fstv k r.v) else o
def redz (k : Int) (L : List Rc) (x : Int) : Option Int := L.foldl (zstep k x) none
def comb (k : Int) : Option Int → Option Int → Option Int
  | none, o => o
  | some u, none => some u
  | some u, some v => some (opv k u v)
theorem opv_assoc (k u v w : Int) : opv k (opv k u v) w = opv k u (opv k v w) := by
  unfold opv
  split
  · omega
  · split <;> omega
theorem redz_from (k x : Int) (o : Option Int) (B : List Rc) : B.foldl (zstep k x) o = comb k o (redz k B x) := by
  have key : ∀ (u : Int) (o' : Option Int) (B : List Rc), B.foldl (zstep k x) (comb k (some u) o') = comb k (some u) (B.foldl (zstep k x) o') := by
    intro u o' B
    induction B generalizing o' with
    | nil => rfl
    | cons r B ih =>
      simp only [List.foldl_cons]
      rw [← ih]
      congr 1
      unfold zstep
      split
      · cases o' with
        | none => rfl
        | some v => simp only [comb, opv_assoc]
      · rfl
  cases o with
  | none => rfl
  | some u => exact key u none B
theorem redz_app (k x : Int) (A B : List Rc) : redz k (A ++ B) x = comb k (redz k A x) (redz k B x) := by
  rw [redz, List.foldl_append, redz_from]; rfl
theorem redz_take (k : Int) {L : List Rc} {i : Nat} (h : i < L.length) (x : Int) : redz k (L.take (i + 1)) x = zstep k x (redz k (L.take i) x) L[i] := by
  rw [redz, List.take_succ_eq_append_getElem h, List.foldl_append]; rfl
theorem redz_eq (k : Int) (L : List Rc) (x M : Int) (hM : 0 ≤ M) (hM2 : M ≤ 1099511627776) (hL : L.length ≤ 1000) (hb : ∀ r ∈ L, -M ≤ fstv k r.v ∧ fstv k r.v ≤ M) : ∀ i, i ≤ L.length →
    redf (fstv k) (nxtv k) (L.take i) x = redz k (L.take i) x ∧ ∀ u, redz k (L.take i) x = some u → -(i * M) ≤ u ∧ u ≤ i * M
  | 0, _ => by simp [redf, redz]
  | i + 1, hi => by
    have hlt : i < L.length := by omega
    obtain ⟨h1, h2⟩ := redz_eq k L x M hM hM2 hL hb i (by omega)
    have hr := hb L[i] (List.getElem_mem hlt)
    rw [redf_take _ _ hlt, redz_take k hlt, h1]
    have hiM : (i : Int) * M ≤ 1000 * 1099511627776 := Int.mul_le_mul (by omega) hM2 hM (by decide)
    have hmul : ((i + 1 : Nat) : Int) * M = i * M + M := by rw [Int.natCast_add, Int.add_mul]; simp
    have hiM0 : 0 ≤ (i : Int) * M := Int.mul_nonneg (by omega) hM
    rw [hmul]
    generalize (i : Int) * M = T at *
    generalize redz k (L.take i) x = o at *
    unfold rstep zstep
    by_cases hk : L[i].k = x
    · simp only [if_pos hk]
      cases o with
      | none => exact ⟨rfl, fun u hu => by have hu : fstv k L[i].v = u := Option.some.inj hu; omega⟩
      | some y =>
        have hy := h2 y rfl
        have e : nxtv k y L[i].v = opv k y (fstv k L[i].v) := by
          unfold fstv at hr
          unfold nxtv opv fstv
          by_cases k1 : k = 1
          · simp only [k1, if_true, true_or] at *
            exact w64_in (by omega) (by omega)
          · simp only [if_neg k1] at hr ⊢
            by_cases k2 : k = 2
            · simp only [k2, or_true, if_true]
              exact w64_in (by omega) (by omega)
            · simp only [k1, k2, or_self, if_false]
        refine ⟨by simp only [e], fun u hu => ?_⟩
        simp only [Option.some.injEq] at hu
        rw [← hu]
        unfold opv
        split
        · omega
        · split <;> omega
    · simp only [if_neg hk]
      exact ⟨trivial, fun u hu => by have := h2 u hu; omega⟩
theorem redf_z (k : Int) (L : List Rc) (x M : Int) (hM : 0 ≤ M) (hM2 : M ≤ 1099511627776) (hL : L.length ≤ 1000) (hb : ∀ r ∈ L, -M ≤ fstv k r.v ∧ fstv k r.v ≤ M) : redf (fstv k) (nxtv k) L x = redz k L x ∧ ∀ u, redz k L x = some u → -(L.length * M) ≤ u ∧ u ≤ L.length * M := by
  have := redz_eq k L x M hM hM2 hL hb L.length (Nat.le_refl _)
  rw [List.take_length] at this
  exact this
theorem redz_filter (k : Int) (L : List Rc) (x : Int) : redz k (L.filter fun r => decide (r.k = x)) x = redz k L x := by
  unfold redz
  rw [List.foldl_filter]
  congr 1
  funext o r
  simp only [zstep, decide_eq_true_eq]
  split <;> rfl
theorem redz_none (k : Int) {L : List Rc} {x : Int} (h : ∀ r ∈ L, r.k ≠ x) : redz k L x = none := by
  rw [← redz_filter, List.filter_eq_nil_iff.2 (fun r hr => by simpa using h r hr)]; rfl
theorem redf_none {f : Int → Int} {g : Int → Int → Int} {L : List Rc} {x : Int} (h : ∀ r ∈ L, r.k ≠ x) : redf f g L x = none := by
  rw [← redf_filter, List.filter_eq_nil_iff.2 (fun r hr => by simpa using h r hr)]; rfl
theorem redf_some {f : Int → Int} {g : Int → Int → Int} {x : Int} : ∀ {L : List Rc} (o : Option Int), (o.isSome = true ∨ ∃ r ∈ L, r.k = x) → (L.foldl (rstep f g x) o).isSome = true
  | [], o, h => by rcases h with h | ⟨r, hr, _⟩; exact h; simp at hr
  | q :: L, o, h => by
    refine redf_some (L := L) _ ?_
    by_cases hq : q.k = x
    · left; simp [rstep, hq]
    · rcases h with h | ⟨r, hr, hk⟩
      · left; simpa [rstep, hq] using h
      · rcases List.mem_cons.1 hr with rfl | hr
        · exact absurd hk hq
        · right; exact ⟨r, hr, hk⟩
/-- Records of small values. -/
def lowv (L : List Rc) : List Rc := L.map fun r => ⟨r.k, r.v.tmod 1073741824⟩
def again (k : Int) : Int := if k = 1 then 2 else k
theorem parts_law (k : Int) (hk : 1 ≤ k ∧ k ≤ 4) (A B : List Rc) (hA : A.length ≤ 100) (hB : B.length ≤ 100) (bA : ∀ r ∈ A, -1073741824 ≤ r.v ∧ r.v ≤ 1073741824) (bB : ∀ r ∈ B, -1073741824 ≤ r.v ∧ r.v ≤ 1073741824) :
    reduceA (again k) (reduceA k A ++ reduceA k B) = reduceA k (A ++ B) := by
  have m1 : mayRed k = true := by simp [mayRed]; omega
  have m2 : mayRed (again k) = true := by unfold again; split <;> simp [mayRed]; omega
  have n1 : again k ≠ 1 := by unfold again; split <;> omega
  have hop : ∀ u v, opv (again k) u v = opv k u v := fun u v => by
    unfold opv again
    by_cases h : k = 1
    · simp [h]
    · simp [h]
  have fb : ∀ (L : List Rc), (∀ r ∈ L, -1073741824 ≤ r.v ∧ r.v ≤ 1073741824) → ∀ r ∈ L, -1073741824 ≤ fstv k r.v ∧ fstv k r.v ≤ 1073741824 := fun L h r hr => by
    have := h r hr
    unfold fstv
    split <;> omega
  have hAB : ∀ r ∈ A ++ B, -1073741824 ≤ r.v ∧ r.v ≤ 1073741824 := fun r hr => by
    rcases List.mem_append.1 hr with h | h
    · exact bA r h
    · exact bB r h
  -- one row
  have row : ∀ (L : List Rc) (x : Int), L.length ≤ 100 → (∀ r ∈ L, -1073741824 ≤ r.v ∧ r.v ≤ 1073741824) →
      redz (again k) (reduceA k L) x = redz k L x ∧ (∀ r ∈ reduceA k L, -1099511627776 ≤ fstv (again k) r.v ∧ fstv (again k) r.v ≤ 1099511627776) ∧ (reduceA k L).length ≤ 100 ∧ (∀ y, (∃ r ∈ reduceA k L, r.k = y) ↔ ∃ r ∈ L, r.k = y) := by
    intro L x hl hb
    have hz := redf_z k L x 1073741824 (by decide) (by decide) (by omega) (fb L hb)
    have e : reduceA k L = (kof L).map (redv (fstv k) (nxtv k) L) := by rw [reduceA, if_pos m1, reduced_kof]
    have hkeys : ∀ y, (∃ r ∈ reduceA k L, r.k = y) ↔ ∃ r ∈ L, r.k = y := fun y => by
      rw [e]
      refine Iff.trans ?_ kof_mem
      constructor
      · rintro ⟨r, hr, rfl⟩
        obtain ⟨q, hq, rfl⟩ := List.mem_map.1 hr
        exact hq
      · intro hy
        exact ⟨_, List.mem_map.2 ⟨y, hy, rfl⟩, rfl⟩
    refine ⟨?_, fun r hr => ?_, Nat.le_trans (reduceA_len k L) hl, hkeys⟩
    · by_cases hx : ∃ r ∈ L, r.k = x
      · have hxk : x ∈ kof L := kof_mem.2 hx
        have hp : (reduceA k L).Pairwise fun a b => a.k ≠ b.k := by
          rw [e]
          refine List.pairwise_map.2 ((kof_inc L).imp fun h => ?_)
          simp only [redv]; omega
        have hone : (reduceA k L).filter (fun r => decide (r.k = x)) = [redv (fstv k) (nxtv k) L x] := filter_one hp (by rw [e]; exact List.mem_map.2 ⟨x, hxk, rfl⟩) rfl
        rw [← redz_filter, hone]
        have hs := redf_some (f := fstv k) (g := nxtv k) (x := x) (L := L) none (.inr hx)
        have hs : (redf (fstv k) (nxtv k) L x).isSome = true := hs
        obtain ⟨u, hu⟩ := Option.isSome_iff_exists.1 hs
        have hu2 := hu
        rw [hz.1] at hu2
        have hb2 := hz.2 u hu2
        have hl2 : (L.length : Int) * 1073741824 ≤ 100 * 1073741824 := Int.mul_le_mul_of_nonneg_right (by omega) (by decide)
        rw [hu2]
        simp only [redz, List.foldl_cons, List.foldl_nil, zstep, redv, if_true, hu, Option.getD_some]
        rw [fstv, if_neg n1, heldv_in (by omega) (by omega)]
      · rw [redz_none _ (fun r hr h => hx ⟨r, hr, h⟩), redz_none _ (fun r hr h => hx ((hkeys x).1 ⟨r, hr, h⟩))]
    · rw [e] at hr
      obtain ⟨q, _, rfl⟩ := List.mem_map.1 hr
      rw [fstv, if_neg n1]
      exact heldv_b _
  obtain ⟨_, a2, a3, a4⟩ := row A 0 hA bA
  obtain ⟨_, b2, b3, b4⟩ := row B 0 hB bB
  have ek : kof (reduceA k A ++ reduceA k B) = kof (A ++ B) := kof_eq (kof_inc _) fun y => by
    rw [kof_mem]
    simp only [List.mem_append]
    constructor
    · rintro ⟨r, hr | hr, h⟩
      · obtain ⟨q, hq, hk⟩ := (a4 y).2 ⟨r, hr, h⟩; exact ⟨q, .inl hq, hk⟩
      · obtain ⟨q, hq, hk⟩ := (b4 y).2 ⟨r, hr, h⟩; exact ⟨q, .inr hq, hk⟩
    · rintro ⟨r, hr | hr, h⟩
      · obtain ⟨q, hq, hk⟩ := (a4 y).1 ⟨r, hr, h⟩; exact ⟨q, .inl hq, hk⟩
      · obtain ⟨q, hq, hk⟩ := (b4 y).1 ⟨r, hr, h⟩; exact ⟨q, .inr hq, hk⟩
  conv => lhs; rw [reduceA, if_pos m2, reduced_kof, ek]
  conv => rhs; rw [reduceA, if_pos m1, reduced_kof]
  refine List.map_congr_left fun x _ => ?_
  have z1 := (redf_z k (A ++ B) x 1073741824 (by decide) (by decide) (by simp; omega) (fb _ hAB)).1
  have z2 := (redf_z (again k) (reduceA k A ++ reduceA k B) x 1099511627776 (by decide) (by decide) (by simp; omega) (fun r hr => by
    rcases List.mem_append.1 hr with h | h
    · exact a2 r h
    · exact b2 r h)).1
  rw [redv, redv, z1, z2, redz_app, redz_app, (row A x hA bA).1, (row B x hB bB).1]
  congr 3
  cases redz k A x with
  | none => rfl
  | some u =>
    cases redz k B x with
    | none => rfl
    | some v => simp only [comb, hop]
end Go.Proofs.Ytoihhhnloogkiaa
