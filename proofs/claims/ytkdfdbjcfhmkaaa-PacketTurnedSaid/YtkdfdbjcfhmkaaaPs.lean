/- Numbers as bytes and back: the plain laws of layer 14. -/
import Derived.Test.YtkdfdbjcfhmkaaaPm
import Derived.Laws.Strings
namespace Go.Proofs.Ytkdfdbjcfhmkaaa
open Go Go.RowKit
set_option linter.unusedSimpArgs false
/-- Bytes as a number, the highest first. -/
def unB (L : List Int) : Int := L.foldl (fun x c => 256 * x + c) 0
theorem unB_8 {x : Int} (h0 : 0 ≤ x) (h1 : x < 18446744073709551616) : unB (b8 x) = x := by
  simp only [unB, b8, byteAt, List.foldl_cons, List.foldl_nil]
  have e1 : x / 2 ^ 8 = x / 256 := rfl
  have e2 : x / 2 ^ 16 = x / 256 / 256 := by rw [Int.ediv_ediv_of_nonneg (by decide)]; rfl
  have e3 : x / 2 ^ 24 = x / 256 / 256 / 256 := by rw [Int.ediv_ediv_of_nonneg (by decide), Int.ediv_ediv_of_nonneg (by decide)]; rfl
  have e4 : x / 2 ^ 32 = x / 256 / 256 / 256 / 256 := by rw [Int.ediv_ediv_of_nonneg (by decide), Int.ediv_ediv_of_nonneg (by decide), Int.ediv_ediv_of_nonneg (by decide)]; rfl
  have e5 : x / 2 ^ 40 = x / 256 / 256 / 256 / 256 / 256 := by rw [Int.ediv_ediv_of_nonneg (by decide), Int.ediv_ediv_of_nonneg (by decide), Int.ediv_ediv_of_nonneg (by decide), Int.ediv_ediv_of_nonneg (by decide)]; rfl
  have e6 : x / 2 ^ 48 = x / 256 / 256 / 256 / 256 / 256 / 256 := by rw [Int.ediv_ediv_of_nonneg (by decide), Int.ediv_ediv_of_nonneg (by decide), Int.ediv_ediv_of_nonneg (by decide), Int.ediv_ediv_of_nonneg (by decide), Int.ediv_ediv_of_nonneg (by decide)]; rfl
  have e7 : x / 2 ^ 56 = x / 256 / 256 / 256 / 256 / 256 / 256 / 256 := by rw [Int.ediv_ediv_of_nonneg (by decide), Int.ediv_ediv_of_nonneg (by decide), Int.ediv_ediv_of_nonneg (by decide), Int.ediv_ediv_of_nonneg (by decide), Int.ediv_ediv_of_nonneg (by decide), Int.ediv_ediv_of_nonneg (by decide)]; rfl
  have e0 : x / 2 ^ 0 = x := by simp
  rw [e0, e1, e2, e3, e4, e5, e6, e7]
  omega
/-- A whole number of 64 bits. -/
def in64 (x : Int) : Prop := -9223372036854775808 ≤ x ∧ x ≤ 9223372036854775807
theorem wrap_u64 {x : Int} (h : in64 x) : IntKind.u64.wrap x = if x < 0 then x + 18446744073709551616 else x := by
  obtain ⟨h1, h2⟩ := h
  unfold IntKind.wrap
  simp only [IntKind.bits, IntKind.signed, Bool.false_and, Bool.false_eq_true, if_false]
  have : ((2 : Int) ^ 64) = 18446744073709551616 := by decide
  rw [this]
  split <;> omega
theorem wrap_i64_u {x : Int} (h : in64 x) : IntKind.i64.wrap (IntKind.u64.wrap x) = x := by
  rw [wrap_u64 h]
  obtain ⟨h1, h2⟩ := h
  split
  · rw [IntKind.wrap_i64]; omega
  · exact wrap_in (show inK .i64 _ from ⟨h1, h2⟩)
theorem wrap_u64_range (x : Int) : 0 ≤ IntKind.u64.wrap x ∧ IntKind.u64.wrap x < 18446744073709551616 := by
  unfold IntKind.wrap
  simp only [IntKind.bits, IntKind.signed, Bool.false_and, Bool.false_eq_true, if_false]
  have : ((2 : Int) ^ 64) = 18446744073709551616 := by decide
  rw [this]
  omega
/-- The number of eight bytes. -/
def unN (L : List Int) : Int := IntKind.i64.wrap (unB L)
theorem unN_num8 {x : Int} (h : in64 x) : unN (num8 x) = x := by
  unfold unN num8
  rw [unB_8 (wrap_u64_range x).1 (wrap_u64_range x).2, wrap_i64_u h]
theorem num8_inj {x y : Int} (hx : in64 x) (hy : in64 y) (h : num8 x = num8 y) : x = y := by
  rw [← unN_num8 hx, ← unN_num8 hy, h]
theorem flat8_inj : ∀ {L M : List Int}, (∀ x ∈ L, in64 x) → (∀ x ∈ M, in64 x) → L.flatMap num8 = M.flatMap num8 → L = M
  | [], [], _, _, _ => rfl
  | [], y :: M, _, _, h => by
    have := congrArg List.length h
    simp only [List.flatMap_nil, List.flatMap_cons, List.length_append, num8_len, List.length_nil] at this
    omega
  | x :: L, [], _, _, h => by
    have := congrArg List.length h
    simp only [List.flatMap_nil, List.flatMap_cons, List.length_append, num8_len, List.length_nil] at this
    omega
  | x :: L, y :: M, hL, hM, h => by
    simp only [List.flatMap_cons] at h
    obtain ⟨h1, h2⟩ := List.append_inj h rfl
    rw [num8_inj (hL x (List.mem_cons_self ..)) (hM y (List.mem_cons_self ..)) h1, flat8_inj (fun z hz => hL z (List.mem_cons_of_mem _ hz)) (fun z hz => hM z (List.mem_cons_of_mem _ hz)) h2]
theorem put_inj {tag : Int} {L M : List Int} (hL : ∀ x ∈ L, in64 x) (hM : ∀ x ∈ M, in64 x) (h : put tag L = put tag M) : L = M := by
  have hl := congrArg List.length h
  rw [put_len, put_len] at hl
  have h : body tag L ++ b4 _ = body tag M ++ b4 _ := h
  obtain ⟨h1, -⟩ := List.append_inj h (by rw [body_len, body_len]; omega)
  unfold body at h1
  exact flat8_inj hL hM (List.cons.inj h1).2
theorem b8_bytes {x z : Int} (h : z ∈ b8 x) : isByte z := by
  simp only [b8, List.mem_cons, List.not_mem_nil, or_false] at h
  rcases h with h | h | h | h | h | h | h | h <;> (rw [h]; exact byteAt_in _ _)
theorem body_bytes {tag : Int} (ht : isByte tag) {L : List Int} : ∀ z ∈ body tag L, isByte z := by
  intro z hz
  unfold body at hz
  rcases List.mem_cons.1 hz with rfl | hz
  · exact ht
  · obtain ⟨x, _, hx⟩ := List.mem_flatMap.1 hz
    exact b8_bytes hx
theorem b4_bytes {x z : Int} (h : z ∈ b4 x) : isByte z := by
  simp only [b4, List.mem_cons, List.not_mem_nil, or_false] at h
  rcases h with h | h | h | h <;> (rw [h]; exact byteAt_in _ _)
theorem put_bytes {tag : Int} (ht : isByte tag) {L : List Int} : ∀ z ∈ put tag L, isByte z := by
  intro z hz
  unfold put sealL at hz
  rcases List.mem_append.1 hz with hz | hz
  · exact body_bytes ht z hz
  · exact b4_bytes hz
theorem bytesOf_inj {L M : List Int} (hL : ∀ z ∈ L, isByte z) (hM : ∀ z ∈ M, isByte z) (h : bytesOf L = bytesOf M) : L = M := by
  have h1 : (bytesOf L).data = (bytesOf M).data := by rw [h]
  unfold bytesOf at h1
  have h1 : L.map (fun n => UInt8.ofNat n.toNat) = M.map (fun n => UInt8.ofNat n.toNat) := by simpa using h1
  have key : ∀ {L : List Int}, (∀ z ∈ L, isByte z) → L = (L.map fun n => UInt8.ofNat n.toNat).map fun b => (b.toNat : Int) := fun {L} hL => by
    rw [List.map_map]
    conv => lhs; rw [← List.map_id L]
    refine List.map_congr_left fun z hz => ?_
    obtain ⟨h2, h3⟩ := hL z hz
    simp only [id, Function.comp, UInt8.toNat_ofNat']
    omega
  rw [key hL, key hM, h1]
theorem strB_bytes {L M : List Int} (hL : ∀ z ∈ L, isByte z) (hM : ∀ z ∈ M, isByte z) : strB (bytesOf L) (bytesOf M) = decide (L = M) := by
  rw [Bool.eq_iff_iff, decide_eq_true_eq]
  constructor
  · intro h
    refine bytesOf_inj hL hM ?_
    unfold strB at h
    have h := eq_of_beq h
    have h2 : ∀ x : ByteArray, x.toList = x.data.toList := fun x => ByteArray.toList_eq x
    rw [h2, h2] at h
    have := Array.toList_inj.1 h
    cases hx : bytesOf L; cases hy : bytesOf M
    rw [hx, hy] at this
    simpa using this
  · rintro rfl
    unfold strB; simp
theorem rc_inj : ∀ {R S : List Rc}, R.length = S.length → R.flatMap Rc.ns = S.flatMap Rc.ns → R = S
  | [], [], _, _ => rfl
  | r :: R, s :: S, hl, h => by
    simp only [List.flatMap_cons] at h
    obtain ⟨h1, h2⟩ := List.append_inj h rfl
    obtain ⟨a, b⟩ := r
    obtain ⟨c, d⟩ := s
    simp only [Rc.ns, List.cons.injEq, and_true] at h1
    rw [rc_inj (by simpa using hl) h2, h1.1, h1.2]
theorem DN_inj {p q p' q' : Int} {t t' : Tm} {R R' : List Rc} (h : DN p q t R.length R = DN p' q' t' R'.length R') : p = p' ∧ q = q' ∧ t = t' ∧ R = R' := by
  obtain ⟨e, d, a, b, c⟩ := t
  obtain ⟨e', d', a', b', c'⟩ := t'
  simp only [DN, List.cons_append, List.nil_append, List.cons.injEq, Int.natCast_inj] at h
  obtain ⟨h1, h2, h3, h4, h5, h6, h7, h8, h9⟩ := h
  refine ⟨h1, h2, by simp [h3, h4, h5, h6, h7], rc_inj h8 h9⟩
theorem DN_in {p q : Int} {t : Tm} {R : List Rc} (hl : R.length ≤ 64) (h : dok p q t R = true) : ∀ x ∈ DN p q t R.length R, in64 x := by
  unfold dok lokB at h
  simp only [Bool.and_eq_true, decide_eq_true_eq] at h
  obtain ⟨⟨⟨⟨⟨h1, h2⟩, h3⟩, h4⟩, h5⟩, h6⟩ := h
  have k := (Tm.may_iff t).1 h5
  rw [List.all_eq_true] at h6
  intro x hx
  simp only [DN, List.cons_append, List.nil_append, List.mem_cons, List.mem_flatMap] at hx
  unfold in64
  rcases hx with h | h | h | h | h | h | h | h | ⟨r, hr, h⟩
  all_goals first | omega | skip
  have := h6 r hr
  simp only [Rc.may, Bool.and_eq_true, decide_eq_true_eq] at this
  simp only [Rc.ns, List.mem_cons, List.not_mem_nil, or_false] at h
  rcases h with h | h <;> omega
end Go.Proofs.Ytkdfdbjcfhmkaaa
