/- Equality of structs and arrays whose cells are all whole numbers, as one test on the cells. -/
import Derived.Test.YtpfjolckhlgodaaDoorWb
import Derived.Laws.StructEq
import Derived.ChangeKeysEq
namespace Go.Proofs.YtpfjolckhlgodaaDoor
open Go Go.RowKit
section
variable {P : Program}
def goF (P : Program) (fl : TypeId → Option Nat) : List Field → Nat → Option Nat
  | [], off => some off
  | f :: fs, off => match fl f.type with
    | some n => bif Nat.beq (P.cellsOf f.type) n && Nat.beq f.offset off && !(f.name == "_") then goF P fl fs (off + n) else none
    | none => none
/-- How many cells, if all are whole numbers. -/
def flatN (P : Program) : Nat → TypeId → Option Nat
  | 0, _ => none
  | d + 1, t => match P.underlying t with
    | some (.int _) => some 1
    | some (.struct fs) => bif P.stoodInHeld t then none else goF P (flatN P d) fs.toList 0
    | some (.array len e) => match flatN P d e with
      | some n => bif Nat.beq (P.cellsOf e) n && Nat.blt 0 n then some (len * n) else none
      | none => none
    | _ => none

theorem cmpInts_len : ∀ {xs ys : List Value} {r : Bool}, cmpInts xs ys = some r → ys.length = xs.length
  | [], [], _, _ => rfl
  | [], _ :: _, _, h => by simp [cmpInts] at h
  | _ :: _, [], _, h => by unfold cmpInts at h; split at h <;> simp_all
  | x :: xs, y :: ys, r, h => by
    unfold cmpInts at h
    split at h
    · simp_all
    · rename_i k a xs' k' b ys' hx hy
      simp only [List.cons.injEq] at hx hy
      obtain ⟨rfl, rfl⟩ := hx
      obtain ⟨rfl, rfl⟩ := hy
      cases hk : sameKind k k' with
      | false => simp [hk] at h
      | true =>
        simp only [hk, cond_true] at h
        split at h
        · rename_i h0
          simp [cmpInts_len h0]
        · cases h
    · cases h
theorem cmpInts_append : ∀ {xs ys : List Value} {r : Bool} (n : Nat), n ≤ xs.length → cmpInts xs ys = some r → ∃ r1 r2, cmpInts (xs.take n) (ys.take n) = some r1 ∧ cmpInts (xs.drop n) (ys.drop n) = some r2 ∧ r = (r1 && r2)
  | xs, ys, r, 0, _, h => ⟨true, r, by simp [cmpInts], by simpa using h, by simp⟩
  | [], ys, r, n + 1, hn, h => by simp at hn
  | x :: xs, [], r, n + 1, hn, h => by have := cmpInts_len h; simp at this
  | x :: xs, y :: ys, r, n + 1, hn, h => by
    unfold cmpInts at h
    split at h
    · rename_i hx; simp at hx
    · rename_i k a xs' k' b ys' hx hy
      simp only [List.cons.injEq] at hx hy
      obtain ⟨rfl, rfl⟩ := hx
      obtain ⟨rfl, rfl⟩ := hy
      cases hk : sameKind k k' with
      | false => simp [hk] at h
      | true =>
        simp only [hk, cond_true] at h
        split at h
        · rename_i r0 h0
          cases h
          obtain ⟨r1, r2, h1, h2, h3⟩ := cmpInts_append n (by simpa using hn) h0
          refine ⟨(eqB a b && r1), r2, ?_, by simpa using h2, by rw [h3, Bool.and_assoc]⟩
          simp [cmpInts, hk, h1]
        · cases h
    · cases h

/-- The value of cells. -/
def ofCells (agg : Bool) (cs : List Value) : Value := match agg, cs with
  | false, [v] => v
  | _, _ => .agg cs.toArray
theorem part_run {t : TypeId} {n : Nat} {b : Bool} (hs : ∀ w, (sizeOf t).run P w = .ok n w) (ha : ∀ w, (isAgg t).run P w = .ok b w) (h1 : b = false → n = 1) {xs : List Value} {off : Nat} (hl : off + n ≤ xs.length) (w : World) :
    (part t xs.toArray off).run P w = .ok (ofCells b ((xs.drop off).take n)) w := by
  unfold part
  simp only [Sem.run_bind, ha, Result.andThen_ok]
  cases b with
  | true =>
    simp only [if_true, Sem.run_bind, hs, Result.andThen_ok, Sem.run_pure, ofCells]
    congr 2
    rw [List.extract_toArray, List.extract_eq_take_drop]
    congr 2
    omega
  | false =>
    have := h1 rfl
    subst this
    have hx : xs[off]? = some (xs[off]'(by omega)) := List.getElem?_eq_getElem (by omega)
    have ht : (xs.drop off).take 1 = [xs[off]'(by omega)] := by rw [List.drop_eq_getElem_cons (by omega)]; rfl
    simp [hx, ht, ofCells]

theorem sizeOf_of {t : TypeId} {d : TypeDesc} (hu : P.underlying t = some d) (w : World) : (sizeOf t).run P w = .ok (P.cellsOf t) w := by
  unfold Program.underlying at hu
  cases hi : P.info? t with
  | none => simp [hi] at hu
  | some i => exact run_sizeOf w hi

theorem flat_equal : ∀ (d : Nat) (t : TypeId) (n : Nat), flatN P d t = some n → ∃ b, (∀ w, (isAgg t).run P w = .ok b w) ∧ (b = false → n = 1) ∧ (∃ u, P.underlying t = some u) ∧
    ∀ (e : Nat) (xs ys : List Value) (r : Bool) (w : World), d ≤ e → xs.length = n → cmpInts xs ys = some r → (Op.equalIn e t (ofCells b xs) (ofCells b ys)).run P w = .ok r w := by
  intro d
  induction d with
  | zero => intro t n h; simp [flatN] at h
  | succ d ih =>
    intro t n h
    unfold flatN at h
    split at h
    · rename_i k hu
      cases h
      refine ⟨false, fun w => by simp [isAgg, run_underlying hu], fun _ => rfl, ⟨_, hu⟩, fun e xs ys r w he hl hc => ?_⟩
      obtain ⟨e, rfl⟩ : ∃ e', e = e' + 1 := ⟨e - 1, by omega⟩
      have hyl := cmpInts_len hc
      match xs, ys, hl, hyl with
      | [x], [y], _, _ =>
        unfold cmpInts at hc
        split at hc
        · rename_i hx; simp at hx
        · rename_i k a xs' k' b ys' hx hy
          simp only [List.cons.injEq] at hx hy
          obtain ⟨rfl, rfl⟩ := hx
          obtain ⟨rfl, rfl⟩ := hy
          cases hk : sameKind k k' with
          | false => simp [hk] at hc
          | true =>
            have := sameKind_eq hk
            subst this
            simp only [hk, cond_true, cmpInts, Option.some.injEq] at hc
            subst hc
            simp only [ofCells]
            rw [run_equalIn_int w e t k _ a b hu, eqB_eq]
            simp
            rfl
        · cases hc
    · rename_i fs hu
      cases hst : P.stoodInHeld t with
      | true => simp [hst] at h
      | false =>
        simp only [hst, cond_false] at h
        refine ⟨true, fun w => by simp [isAgg, run_underlying hu], (fun h => by cases h), ⟨_, hu⟩, fun e xs ys r w he hl hc => ?_⟩
        obtain ⟨e, rfl⟩ : ∃ e', e = e' + 1 := ⟨e - 1, by omega⟩
        have hf : P.fieldsOf t = fs := by simp [Program.fieldsOf, hu]
        simp only [ofCells]
        rw [run_equalIn_struct (P := P) w e t xs.toArray ys.toArray (by rw [hf]; exact hu) hst, hf]
        have hyl0 := cmpInts_len hc
        have key : ∀ (l : List Field) (off : Nat) (r : Bool), goF P (flatN P d) l off = some n → off ≤ n → cmpInts (xs.drop off) (ys.drop off) = some r → (Op.eqFields e xs.toArray ys.toArray l).run P w = .ok r w := by
          intro l
          induction l with
          | nil =>
            intro off r hg _ hc
            simp only [goF, Option.some.injEq] at hg
            subst hg
            have hyl := cmpInts_len hc
            have h1 : xs.drop off = [] := by apply List.drop_eq_nil_of_le; omega
            have h2 : ys.drop off = [] := by rw [h1] at hyl; exact List.length_eq_zero_iff.1 hyl
            rw [h1, h2] at hc
            simp only [cmpInts, Option.some.injEq] at hc
            subst hc
            simp [Op.eqFields]
          | cons f l ihl =>
            intro off r hg hoff hc
            unfold goF at hg
            split at hg
            · rename_i m hm
              cases hcond : (Nat.beq (P.cellsOf f.type) m && Nat.beq f.offset off && !(f.name == "_")) with
              | false => rw [hcond] at hg; cases hg
              | true =>
                rw [hcond] at hg
                simp only [cond_true] at hg
                simp only [Bool.and_eq_true] at hcond
                obtain ⟨⟨c1, c2⟩, c3⟩ := hcond
                have c1 := Nat.eq_of_beq_eq_true c1
                have c2 := Nat.eq_of_beq_eq_true c2
                have hname : f.name ≠ "_" := by simpa using c3
                have mono : ∀ (l : List Field) (o o' : Nat), goF P (flatN P d) l o = some o' → o ≤ o' := by
                  intro l
                  induction l with
                  | nil => intro o o' h; simp only [goF, Option.some.injEq] at h; omega
                  | cons g l ihm =>
                    intro o o' h
                    unfold goF at h
                    split at h
                    · rename_i q _
                      cases hq : (Nat.beq (P.cellsOf g.type) q && Nat.beq g.offset o && !(g.name == "_")) with
                      | false => rw [hq] at h; cases h
                      | true => rw [hq] at h; simp only [cond_true] at h; have := ihm _ _ h; omega
                    · cases h
                have hle := mono l _ _ hg
                obtain ⟨b, hb1, hb2, ⟨u, hu'⟩, hb3⟩ := ih f.type m hm
                have hyl := cmpInts_len hc
                simp only [List.length_drop] at hyl
                obtain ⟨r1, r2, k1, k2, k3⟩ := cmpInts_append m (by simp; omega) hc
                have hs : ∀ w, (sizeOf f.type).run P w = .ok m w := fun w => by rw [sizeOf_of hu' w, c1]
                have px := part_run hs hb1 hb2 (xs := xs) (off := off) (by omega) w
                have py := part_run hs hb1 hb2 (xs := ys) (off := off) (by omega) w
                have pe := hb3 e ((xs.drop off).take m) ((ys.drop off).take m) r1 w (by omega) (by simp; omega) k1
                have pr := ihl (off + m) r2 hg hle (by rw [List.drop_drop, List.drop_drop] at k2; exact k2)
                rw [Op.eqFields]
                simp only [if_pos hname, c2, Sem.run_bind, px, py, pe, Result.andThen_ok]
                rw [k3]
                cases r1
                · simp
                · simpa using pr
            · cases hg
        exact key fs.toList 0 r h (Nat.zero_le _) (by simpa using hc)
    · rename_i len el hu
      split at h
      · rename_i m hm
        cases hcond : (Nat.beq (P.cellsOf el) m && Nat.blt 0 m) with
        | false => rw [hcond] at h; cases h
        | true =>
          rw [hcond] at h
          simp only [cond_true, Option.some.injEq] at h
          simp only [Bool.and_eq_true] at hcond
          have c1 := Nat.eq_of_beq_eq_true hcond.1
          refine ⟨true, fun w => by simp [isAgg, run_underlying hu], (fun h => by cases h), ⟨_, hu⟩, fun e xs ys r w he hl hc => ?_⟩
          obtain ⟨e, rfl⟩ : ∃ e', e = e' + 1 := ⟨e - 1, by omega⟩
          obtain ⟨b, hb1, hb2, ⟨u, hu'⟩, hb3⟩ := ih el m hm
          obtain ⟨i, hi⟩ : ∃ i, P.info? el = some i := by
            unfold Program.underlying at hu'
            cases hi : P.info? el with
            | none => simp [hi] at hu'
            | some i => exact ⟨i, rfl⟩
          simp only [ofCells]
          rw [run_equalIn_array w e xs.toArray ys.toArray hu hi, c1]
          have hs : ∀ w, (sizeOf el).run P w = .ok m w := fun w => by rw [sizeOf_of hu' w, c1]
          have hyl0 := cmpInts_len hc
          have key : ∀ (k j : Nat) (r : Bool), j + k = len → cmpInts (xs.drop (j * m)) (ys.drop (j * m)) = some r → (Op.eqItems e el m xs.toArray ys.toArray (List.range' j k)).run P w = .ok r w := by
            intro k
            induction k with
            | zero =>
              intro j r hj hc
              have hyl := cmpInts_len hc
              have h1 : xs.drop (j * m) = [] := by apply List.drop_eq_nil_of_le; rw [hl, ← h, ← hj]; simp
              have h2 : ys.drop (j * m) = [] := by rw [h1] at hyl; exact List.length_eq_zero_iff.1 hyl
              rw [h1, h2] at hc
              simp only [cmpInts, Option.some.injEq] at hc
              subst hc
              simp [Op.eqItems]
            | succ k ihk =>
              intro j r hj hc
              have hyl := cmpInts_len hc
              simp only [List.length_drop] at hyl
              have hmul : j * m + m ≤ n := by rw [← h, ← Nat.succ_mul]; exact Nat.mul_le_mul_right m (by omega)
              obtain ⟨r1, r2, k1, k2, k3⟩ := cmpInts_append m (by simp; omega) hc
              have px := part_run hs hb1 hb2 (xs := xs) (off := j * m) (by omega) w
              have py := part_run hs hb1 hb2 (xs := ys) (off := j * m) (by omega) w
              have pe := hb3 e ((xs.drop (j * m)).take m) ((ys.drop (j * m)).take m) r1 w (by omega) (by simp; omega) k1
              have pr := ihk (j + 1) r2 (by omega) (by rw [List.drop_drop, List.drop_drop] at k2; rw [Nat.succ_mul]; exact k2)
              rw [List.range'_succ]
              simp only [Op.eqItems, Sem.run_bind, px, py, pe, Result.andThen_ok]
              rw [k3]
              cases r1
              · simp
              · simpa using pr
          rw [List.range_eq_range']
          exact key len 0 r (by omega) (by simpa using hc)
      · cases h
    · cases h

/-- A type whose cells are all whole numbers: its equality. -/
theorem eqAt_flat {t : TypeId} {d n : Nat} (hf : flatN P d t = some n) (hd : Nat.ble d 10000 = true) (hg : P.eqGuardType P.depth t = false) (ha : ∀ w, (isAgg t).run P w = .ok true w) {xs ys : List Value} {r : Bool} (hl : xs.length = n) (hc : cmpInts xs ys = some r) : EqAt P t (.agg xs.toArray) (.agg ys.toArray) r := by
  obtain ⟨b, hb1, _, _, hb3⟩ := flat_equal d t n hf
  have hb : b = true := by
    have := (hb1 default).symm.trans (ha default)
    cases this; rfl
  subst hb
  intro x y w
  have he := hb3 10000 xs ys r w (Nat.le_of_ble_eq_true hd) hl hc
  simp only [ofCells] at he
  refine ⟨run_eqGuard_agg w .eql t x y _ _ hg, run_eqGuard_agg w .neq t x y _ _ hg, ?_, ?_⟩
  · rw [run_eql_struct, he]; rfl
  · rw [run_neq_struct, he]; rfl
end
end Go.Proofs.YtpfjolckhlgodaaDoor
