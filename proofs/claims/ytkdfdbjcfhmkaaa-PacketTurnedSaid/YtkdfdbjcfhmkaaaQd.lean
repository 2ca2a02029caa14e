/- Bytes that were laid down are opened, and bytes that are opened were laid down: plain laws of layer 14. -/
import Derived.Test.YtkdfdbjcfhmkaaaPe
import Derived.Test.YtkdfdbjcfhmkaaaPw
import Derived.Test.YtkdfdbjcfhmkaaaPt
namespace Go.Proofs.Ytkdfdbjcfhmkaaa
open Go Go.RowKit
set_option linter.unusedSimpArgs false
theorem bstep {y c : Int} (h : isByte c) (s : Nat) : byteAt (256 * y + c) (s + 8) = byteAt y s := by
  obtain ⟨h1, h2⟩ := h
  unfold byteAt
  have e : (2 : Int) ^ (s + 8) = 256 * 2 ^ s := by rw [Int.pow_add, Int.mul_comm]; rfl
  rw [e, ← Int.ediv_ediv_of_nonneg (by decide)]
  congr 2
  omega
theorem blast {y c : Int} (h : isByte c) : byteAt (256 * y + c) 0 = c := by
  obtain ⟨h1, h2⟩ := h
  unfold byteAt
  simp
  omega
theorem b8_unB {P : List Int} (hl : P.length = 8) (hb : ∀ z ∈ P, isByte z) : b8 (unB P) = P := by
  match P, hl with
  | [a, b, c, d, e, f, g, h], _ =>
    have ha := hb a (by simp); have hb' := hb b (by simp); have hc := hb c (by simp); have hd := hb d (by simp)
    have he := hb e (by simp); have hf := hb f (by simp); have hg := hb g (by simp); have hh := hb h (by simp)
    simp only [unB, List.foldl_cons, List.foldl_nil, b8]
    rw [bstep hh 48, bstep hg 40, bstep hf 32, bstep he 24, bstep hd 16, bstep hc 8, bstep hb' 0, blast ha]
    rw [bstep hh 40, bstep hg 32, bstep hf 24, bstep he 16, bstep hd 8, bstep hc 0, blast hb']
    rw [bstep hh 32, bstep hg 24, bstep hf 16, bstep he 8, bstep hd 0, blast hc]
    rw [bstep hh 24, bstep hg 16, bstep hf 8, bstep he 0, blast hd]
    rw [bstep hh 16, bstep hg 8, bstep hf 0, blast he]
    rw [bstep hh 8, bstep hg 0, blast hf]
    rw [bstep hh 0, blast hg, blast hh]
theorem wrap_u_i {x : Int} (h0 : 0 ≤ x) (h1 : x < 18446744073709551616) : IntKind.u64.wrap (IntKind.i64.wrap x) = x := by
  rw [IntKind.wrap_i64]
  unfold IntKind.wrap
  simp only [IntKind.bits, IntKind.signed, Bool.false_and, Bool.false_eq_true, if_false]
  have : ((2 : Int) ^ 64) = 18446744073709551616 := by decide
  rw [this]
  omega
theorem num8_unN {P : List Int} (hl : P.length = 8) (hb : ∀ z ∈ P, isByte z) : num8 (unN P) = P := by
  obtain ⟨h1, h2⟩ := unB_range hb 8 (by omega)
  rw [List.take_of_length_le (by omega)] at h1 h2
  have h3 : (256 : Int) ^ 8 = 18446744073709551616 := by decide
  unfold num8 unN
  rw [wrap_u_i h1 (by omega), b8_unB hl hb]
theorem part_flat {s : List Int} : ∀ {L : List Int} {k : Nat} (h : k < L.length), ((L.flatMap num8 ++ s).drop (k * 8)).take 8 = num8 L[k]
  | x :: L, 0, _ => by
    simp only [List.flatMap_cons, Nat.zero_mul, List.drop_zero, List.append_assoc, List.getElem_cons_zero]
    exact List.take_left' (num8_len x)
  | x :: L, k + 1, h => by
    simp only [List.flatMap_cons, List.append_assoc, List.getElem_cons_succ]
    rw [show (k + 1) * 8 = (num8 x).length + k * 8 by rw [num8_len]; omega, List.drop_append, List.drop_eq_nil_of_le (by omega), List.nil_append, Nat.add_sub_cancel_left]
    exact part_flat (by simpa using h)
theorem put_eq' (tag : Int) (L : List Int) : put tag L = tag :: (L.flatMap num8 ++ b4 (U (crcSum (body tag L)))) := rfl
theorem put_part {tag : Int} {L : List Int} {k : Nat} (h : k < L.length) : part8 (put tag L) k = num8 L[k] := by
  unfold part8
  rw [put_eq', Nat.add_comm 1, List.drop_succ_cons]
  exact part_flat h
theorem put_take (tag : Int) (L : List Int) : (put tag L).take ((put tag L).length - 4) = body tag L := by
  have e : (put tag L).length - 4 = (body tag L).length := by rw [put_len, body_len]; omega
  rw [e]
  exact List.take_left' rfl
theorem put_drop (tag : Int) (L : List Int) : (put tag L).drop ((put tag L).length - 4) = b4 (U (crcSum (body tag L))) := by
  have e : (put tag L).length - 4 = (body tag L).length := by rw [put_len, body_len]; omega
  rw [e]
  exact List.drop_left' rfl
/-- What was laid down is opened. -/
theorem open_put (tag : Int) {L : List Int} (hL : ∀ x ∈ L, in64 x) : openOk tag (put tag L) = true ∧ openN (put tag L) = L := by
  constructor
  · unfold openOk
    rw [put_take, put_drop]
    have : (put tag L).getD 0 0 = tag := rfl
    have hl := put_len tag L
    simp only [this, Bool.and_eq_true, decide_eq_true_eq, and_true, true_and]
    omega
  · refine List.ext_getElem ?_ fun i h1 h2 => ?_
    · simp [openN, put_len]
    · have : (openN (put tag L))[i] = unN (part8 (put tag L) i) := by simp [openN]
      rw [this, put_part h2, unN_num8 (hL _ (List.getElem_mem _))]
theorem parts_all (D : List Int) : ∀ m : Nat, (List.range m).flatMap (fun k => (D.drop (k * 8)).take 8) = D.take (m * 8)
  | 0 => by simp
  | m + 1 => by
    rw [List.range_succ, List.flatMap_append, parts_all D m, Nat.succ_mul, List.take_add]
    simp
/-- What is opened was laid down. -/
theorem put_open {tag : Int} {B : List Int} (hb : ∀ z ∈ B, isByte z) (h : openOk tag B = true) : put tag (openN B) = B := by
  unfold openOk at h
  simp only [Bool.and_eq_true, decide_eq_true_eq] at h
  obtain ⟨h1, h2, h3, h4⟩ := h
  have hbody : body tag (openN B) = B.take (B.length - 4) := by
    match B, h1 with
    | t :: D, h1 =>
      have : t = tag := h2
      subst this
      have h5 : (t :: D).length - 4 = ((D.length - 4) / 8) * 8 + 1 := by simp at h3 h1 ⊢; omega
      rw [h5, List.take_succ_cons, ← parts_all]
      unfold body openN
      congr 1
      rw [List.flatMap_map]
      have e : ((t :: D).length - 5) / 8 = (D.length - 4) / 8 := by simp
      rw [e]
      have hD : ∀ k, k ∈ List.range ((D.length - 4) / 8) → num8 (unN (part8 (t :: D) k)) = (D.drop (k * 8)).take 8 := fun k hk => by
        have hk := List.mem_range.1 hk
        have e2 : part8 (t :: D) k = (D.drop (k * 8)).take 8 := by unfold part8; rw [Nat.add_comm 1, List.drop_succ_cons]
        rw [num8_unN ?_ ?_, e2]
        · rw [e2, List.length_take, List.length_drop]; simp at h1; omega
        · intro z hz
          exact hb z (List.mem_of_mem_drop (List.mem_of_mem_take hz))
      rw [List.flatMap_def, List.flatMap_def, List.map_congr_left hD]
  unfold put sealL
  rw [hbody, ← h4, List.take_append_drop]
theorem open_tag {tag tag' : Int} {L : List Int} (h : tag ≠ tag') : openOk tag' (put tag L) = false := by
  unfold openOk
  have : (put tag L).getD 0 0 = tag := rfl
  rw [this, decide_eq_false h]
  simp
theorem b4_inj {x y : Int} (hx : 0 ≤ x ∧ x ≤ 4294967295) (hy : 0 ≤ y ∧ y ≤ 4294967295) (h : b4 x = b4 y) : x = y := by
  simp only [b4, byteAt, List.cons.injEq, and_true] at h
  obtain ⟨h1, h2, h3, h4⟩ := h
  have e0 : ∀ z : Int, z / 2 ^ 0 = z := fun z => by simp
  have e1 : ∀ z : Int, z / 2 ^ 8 = z / 256 := fun z => rfl
  have e2 : ∀ z : Int, z / 2 ^ 16 = z / 256 / 256 := fun z => by rw [Int.ediv_ediv_of_nonneg (by decide)]; rfl
  have e3 : ∀ z : Int, z / 2 ^ 24 = z / 256 / 256 / 256 := fun z => by rw [Int.ediv_ediv_of_nonneg (by decide), Int.ediv_ediv_of_nonneg (by decide)]; rfl
  rw [e0, e0] at h4
  rw [e1, e1] at h3
  rw [e2, e2] at h2
  rw [e3, e3] at h1
  omega
/-- A byte that is turned. -/
theorem open_turned {tag tag' : Int} {B : List Int} (hb : ∀ z ∈ B, isByte z) (h : openOk tag B = true) {j : Nat} (hj : j < B.length) {v : Int} (hv : isByte v) (hne : v ≠ B[j]) : openOk tag' (B.set j v) = false := by
  unfold openOk at h
  simp only [Bool.and_eq_true, decide_eq_true_eq] at h
  obtain ⟨h1, h2, h3, h4⟩ := h
  have key : ¬ ((B.set j v).drop ((B.set j v).length - 4) = b4 (U (crcSum ((B.set j v).take ((B.set j v).length - 4))))) := fun h5 => by
    rw [List.length_set, List.drop_set, List.take_set] at h5
    by_cases hlt : j < B.length - 4
    · rw [if_pos hlt, h4] at h5
      have h6 := b4_inj (U_range _) (U_range _) h5
      exact sum_turned (M := B.take (B.length - 4)) (fun z hz => hb z (List.mem_of_mem_take hz)) (j := j) (by rw [List.length_take]; omega) hv (by rw [List.getElem_take]; exact hne) h6.symm
    · rw [if_neg hlt, List.set_eq_of_length_le (l := B.take (B.length - 4)) (by rw [List.length_take]; omega), ← h4] at h5
      have h6 := congrArg (fun l => l[j - (B.length - 4)]?) h5
      simp only [List.getElem?_set, List.getElem?_drop, List.length_drop] at h6
      rw [if_pos trivial, if_pos (by omega), show B.length - 4 + (j - (B.length - 4)) = j by omega, List.getElem?_eq_getElem hj] at h6
      exact hne (Option.some.inj h6)
  unfold openOk
  rw [decide_eq_false key]
  simp
theorem part_take {B : List Int} {m k : Nat} (h : 9 + 8 * k ≤ m) : part8 (B.take m) k = part8 B k := by
  unfold part8
  rw [List.drop_take, List.take_take]
  congr 1
  omega
theorem openN_len (B : List Int) : (openN B).length = (B.length - 5) / 8 := by simp [openN]
theorem openN_get {B : List Int} {k : Nat} (h : k < (B.length - 5) / 8) : (openN B).getD k 0 = unN (part8 B k) := by
  rw [List.getD_eq_getElem?_getD, List.getElem?_eq_getElem (by rw [openN_len]; exact h)]
  simp [openN]
end Go.Proofs.Ytkdfdbjcfhmkaaa
