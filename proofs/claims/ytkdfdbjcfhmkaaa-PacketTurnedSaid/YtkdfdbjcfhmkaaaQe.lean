/- Batches that were laid down are taken, and what is taken was laid down: plain laws of layer 14. -/
import Derived.Test.YtkdfdbjcfhmkaaaQc
import Derived.Test.YtkdfdbjcfhmkaaaQd
namespace Go.Proofs.Ytkdfdbjcfhmkaaa
open Go Go.RowKit
set_option linter.unusedSimpArgs false
theorem rat_open {tag : Int} {B : List Int} (h : openOk tag B = true) (k : Nat) : rat B k = (openN B).getD k 0 := by
  unfold openOk at h
  simp only [Bool.and_eq_true, decide_eq_true_eq] at h
  obtain ⟨h1, h2, h3, h4⟩ := h
  unfold rat
  by_cases hk : k < (B.length - 5) / 8
  · rw [if_neg (by omega), openN_get hk]
  · rw [if_pos (by omega), List.getD_eq_getElem?_getD, List.getElem?_eq_none (by rw [openN_len]; omega)]
    rfl
theorem rtm_open {tag : Int} {B : List Int} (h : openOk tag B = true) (k : Nat) : rtm B k = tmAt (openN B) k := by
  unfold rtm tmAt
  simp only [rat_open h]
/-! records -/
theorem rc_flat (A : List Int) : ∀ (R : List Rc) (k : Nat) (h : k < R.length), ∀ n, n = A.length → (⟨(A ++ R.flatMap Rc.ns).getD (n + 2 * k) 0, (A ++ R.flatMap Rc.ns).getD (n + 2 * k + 1) 0⟩ : Rc) = R[k]
  | r :: R, 0, _, n, hn => by
    subst hn
    simp [List.getD_eq_getElem?_getD, List.flatMap_cons, Rc.ns, List.getElem?_append_right]
  | r :: R, k + 1, h, n, hn => by
    subst hn
    have := rc_flat (A ++ r.ns) R k (by simpa using h) _ rfl
    rw [List.length_append, show r.ns.length = 2 from rfl] at this
    rw [show A.length + 2 * (k + 1) = A.length + 2 + 2 * k by omega, List.flatMap_cons, ← List.append_assoc, this]
    simp
theorem bd_DN {p q : Int} {t : Tm} {R : List Rc} (hR : R.length ≤ 64) : shapeD (DN p q t R.length R) = true ∧ bdOf (DN p q t R.length R) = ⟨p, q, t, R⟩ := by
  have hl := DN_len p q t R.length R
  have h7 : (DN p q t R.length R).getD 7 0 = R.length := rfl
  constructor
  · unfold shapeD
    rw [h7, hl]
    simp
    omega
  · unfold bdOf
    have e : rcsOf (DN p q t R.length R) = R := by
      unfold rcsOf
      rw [hl]
      refine List.ext_getElem (by simp) fun i h1 h2 => ?_
      rw [List.getElem_map, List.getElem_range]
      have := rc_flat ([p, q, t.e, t.d, t.a, t.b, t.c] ++ [(R.length : Int)]) R i h2 8 rfl
      exact this
    rw [e]
    rfl
theorem two_all : ∀ (m : Nat) (D : List Int), D.length = 2 * m → (List.range m).flatMap (fun k => [D.getD (2 * k) 0, D.getD (2 * k + 1) 0]) = D
  | 0, D, h => by
    have : D = [] := List.length_eq_zero_iff.1 (by omega)
    subst this; rfl
  | m + 1, a :: b :: D, h => by
    have := two_all m D (by simp at h; omega)
    rw [List.range_succ_eq_map, List.flatMap_cons, List.flatMap_map]
    show [a, b] ++ _ = _
    have e2 : (fun k => (fun k => [(a :: b :: D).getD (2 * k) 0, (a :: b :: D).getD (2 * k + 1) 0]) (k + 1)) = fun k => [D.getD (2 * k) 0, D.getD (2 * k + 1) 0] := by
      funext k
      simp only [Nat.mul_succ]
      rfl
    rw [e2, this]
    rfl
  | m + 1, [], h => by simp at h
  | m + 1, [_], h => by simp at h; omega
theorem DN_bd {L : List Int} (h : shapeD L = true) : DN (bdOf L).p (bdOf L).q (bdOf L).t (bdOf L).R.length (bdOf L).R = L ∧ (bdOf L).R.length ≤ 64 ∧ (L.getD 7 0) = (bdOf L).R.length := by
  unfold shapeD at h
  simp only [Bool.and_eq_true, decide_eq_true_eq] at h
  obtain ⟨h1, h2, h3, h4⟩ := h
  match L, h1 with
  | a :: b :: c :: d :: e :: f :: g :: n :: D, _ =>
    have hn : (a :: b :: c :: d :: e :: f :: g :: n :: D).getD 7 0 = n := rfl
    rw [hn] at h2 h3 h4 ⊢
    have hR : (bdOf (a :: b :: c :: d :: e :: f :: g :: n :: D)).R = (List.range (D.length / 2)).map fun k => (⟨D.getD (2 * k) 0, D.getD (2 * k + 1) 0⟩ : Rc) := by
      unfold bdOf rcsOf
      simp only [List.length_cons, Nat.add_sub_cancel]
      refine List.map_congr_left fun k _ => ?_
      unfold rcAt
      rw [show 8 + 2 * k = 2 * k + 8 by omega, show 2 * k + 8 + 1 = (2 * k + 1) + 8 by omega]
      rfl
    have hD : D.length = 2 * (D.length / 2) ∧ (n : Int) = (D.length / 2 : Nat) := by simp at h4; omega
    rw [hR]
    refine ⟨?_, by simp; omega, by simp; omega⟩
    unfold DN
    rw [List.flatMap_map, List.length_map, List.length_range, ← hD.2]
    have := two_all _ D hD.1
    simp only [Rc.ns]
    rw [this]
    rfl
/-- A batch that may be. -/
def Bd.ok (b : Bd) : Prop := b.R.length ≤ 64 ∧ dok b.p b.q b.t b.R = true
theorem Bd.err_ok {b : Bd} : b.err = 0 ↔ b.ok := by
  constructor
  · intro h
    obtain ⟨h1, h2, h3⟩ := derr_0 h
    exact ⟨h1, h2⟩
  · rintro ⟨h1, h2⟩
    unfold Bd.err derr
    rw [if_neg (by omega), if_neg (by simp [h2])]
theorem Bd.bytes_ok {b : Bd} (h : b.ok) : b.bytes = put 68 (DN b.p b.q b.t b.R.length b.R) := (derr_0 (Bd.err_ok.2 h)).2.2
theorem Bd.in_ok {b : Bd} (h : b.ok) : ∀ x ∈ DN b.p b.q b.t b.R.length b.R, in64 x := DN_in h.1 h.2
/-- A batch that was laid down is taken. -/
theorem take_put {b : Bd} (h : b.ok) : takeOkD b.bytes = true ∧ bdOf (openL 68 b.bytes) = b := by
  rw [Bd.bytes_ok h]
  obtain ⟨h1, h2⟩ := open_put 68 (Bd.in_ok h)
  obtain ⟨h3, h4⟩ := bd_DN (p := b.p) (q := b.q) (t := b.t) h.1
  have h4 : bdOf (DN b.p b.q b.t b.R.length b.R) = b := h4
  unfold takeOkD openL
  rw [if_pos h1, h1, h2, h3, h4, Bd.err_ok.2 h]
  exact ⟨rfl, rfl⟩
/-- What is taken was laid down. -/
theorem put_take_bd {B : List Int} (hb : ∀ z ∈ B, isByte z) (h : takeOkD B = true) : (bdOf (openL 68 B)).ok ∧ (bdOf (openL 68 B)).bytes = B := by
  unfold takeOkD at h
  simp only [Bool.and_eq_true, decide_eq_true_eq] at h
  obtain ⟨h1, h2, h3⟩ := h
  have e : openL 68 B = openN B := by unfold openL; rw [if_pos h1]
  rw [e] at h2 h3 ⊢
  have hk := Bd.err_ok.1 h3
  refine ⟨hk, ?_⟩
  rw [Bd.bytes_ok hk, (DN_bd h2).1, put_open hb h1]
theorem rbd_open {B : List Int} (h1 : openOk 68 B = true) (h2 : shapeD (openN B) = true) : rbd B = bdOf (openN B) := by
  obtain ⟨h3, h4, h5⟩ := DN_bd h2
  have hl : (openN B).length = 2 * (bdOf (openN B)).R.length + 8 := by
    rw [← DN_len, h3]
  have hN : rN B = ((openN B).length - 8) / 2 := by
    unfold rN
    rw [rat_open h1, h5]
    omega
  unfold rbd
  rw [rat_open h1, rat_open h1, rtm_open h1]
  have e : rRs B = rcsOf (openN B) := by
    unfold rRs rcsOf
    rw [hN]
    refine List.map_congr_left fun k _ => ?_
    unfold rrc rcAt
    rw [rat_open h1, rat_open h1, show 9 + 2 * k = 8 + 2 * k + 1 by omega]
  rw [e]
  rfl
theorem data_law {B : List Int} (hb : ∀ z ∈ B, isByte z) : rokD B = takeOkD B ∧ rtakeD B = takeD B := by
  have key : rokD B = takeOkD B ∧ (takeOkD B = true → rbd B = bdOf (openL 68 B)) := by
    constructor
    · rw [Bool.eq_iff_iff]
      constructor
      · intro h
        unfold rokD at h
        simp only [Bool.and_eq_true, decide_eq_true_eq] at h
        have := take_put (Bd.err_ok.1 h.1)
        rw [h.2] at this
        exact this.1
      · intro h
        obtain ⟨h1, h2⟩ := put_take_bd hb h
        unfold takeOkD at h
        simp only [Bool.and_eq_true, decide_eq_true_eq] at h
        obtain ⟨a1, a2, a3⟩ := h
        have e : openL 68 B = openN B := by unfold openL; rw [if_pos a1]
        rw [e] at a2 a3 h1 h2
        unfold rokD
        rw [rbd_open a1 a2, a3, h2]
        simp
    · intro h
      unfold takeOkD at h
      simp only [Bool.and_eq_true, decide_eq_true_eq] at h
      obtain ⟨a1, a2, a3⟩ := h
      have e : openL 68 B = openN B := by unfold openL; rw [if_pos a1]
      rw [e] at a2 ⊢
      exact rbd_open a1 a2
  refine ⟨key.1, ?_⟩
  unfold rtakeD takeD
  rw [key.1]
  cases h : takeOkD B with
  | false => rfl
  | true => rw [if_pos rfl, if_pos rfl, key.2 h]
/-- A batch that is cut is none. -/
theorem cut_bd {b : Bd} (h : b.ok) {m : Nat} (hm : m < b.bytes.length) : takeOkD (b.bytes.take m) = false := by
  cases hk : takeOkD (b.bytes.take m) with
  | false => rfl
  | true =>
    exfalso
    unfold takeOkD at hk
    simp only [Bool.and_eq_true, decide_eq_true_eq] at hk
    obtain ⟨a1, a2, a3⟩ := hk
    have e : openL 68 (b.bytes.take m) = openN (b.bytes.take m) := by unfold openL; rw [if_pos a1]
    rw [e] at a2
    have hlm : (b.bytes.take m).length = m := by rw [List.length_take]; omega
    have hL := openN_len (b.bytes.take m)
    rw [hlm] at hL
    have hB := Bd.bytes_ok h
    have hBl : b.bytes.length = 16 * b.R.length + 69 := by rw [hB, put_len, DN_len]; omega
    obtain ⟨c1, c2, c3⟩ := DN_bd a2
    have c4 := congrArg List.length c1
    rw [DN_len] at c4
    have h7 : (openN (b.bytes.take m)).getD 7 0 = b.R.length := by
      rw [openN_get (by rw [hlm]; omega), part_take (by omega), hB, put_part (by rw [DN_len]; omega), unN_num8 (Bd.in_ok h _ (List.getElem_mem _))]
      rfl
    rw [h7] at c3
    omega
/-! changes -/
theorem ch_flat (A : List Int) : ∀ (R : List Ch) (k : Nat) (h : k < R.length), ∀ n, n = A.length → (⟨(A ++ R.flatMap Ch.ns).getD (n + 8 * k) 0, (A ++ R.flatMap Ch.ns).getD (n + 8 * k + 1) 0, tmAt (A ++ R.flatMap Ch.ns) (n + 8 * k + 2), (A ++ R.flatMap Ch.ns).getD (n + 8 * k + 7) 0⟩ : Ch) = R[k]
  | r :: R, 0, _, n, hn => by
    subst hn
    simp [List.getD_eq_getElem?_getD, List.flatMap_cons, Ch.ns, tmAt, List.getElem?_append_right, Nat.add_assoc]
  | r :: R, k + 1, h, n, hn => by
    subst hn
    have := ch_flat (A ++ r.ns) R k (by simpa using h) _ rfl
    rw [List.length_append, show r.ns.length = 8 from rfl] at this
    rw [show A.length + 8 * (k + 1) = A.length + 8 + 8 * k by omega, List.flatMap_cons, ← List.append_assoc, this]
    simp
theorem chs_PN {R : List Ch} (hR : R.length ≤ 200) : shapeP (PN R.length R) = true ∧ chsOf (PN R.length R) = R := by
  have hl := PN_len R.length R
  have h0 : (PN R.length R).getD 0 0 = R.length := rfl
  constructor
  · unfold shapeP
    rw [h0, hl]
    simp
    omega
  · unfold chsOf
    rw [hl]
    refine List.ext_getElem (by simp) fun i h1 h2 => ?_
    rw [List.getElem_map, List.getElem_range]
    have := ch_flat [(R.length : Int)] R i h2 1 rfl
    exact this
theorem eight_all : ∀ (m : Nat) (D : List Int), D.length = 8 * m → (List.range m).flatMap (fun k => [D.getD (8 * k) 0, D.getD (8 * k + 1) 0, D.getD (8 * k + 2) 0, D.getD (8 * k + 3) 0, D.getD (8 * k + 4) 0, D.getD (8 * k + 5) 0, D.getD (8 * k + 6) 0, D.getD (8 * k + 7) 0]) = D
  | 0, D, h => by
    have : D = [] := List.length_eq_zero_iff.1 (by omega)
    subst this; rfl
  | m + 1, a :: b :: c :: d :: e :: f :: g :: i :: D, h => by
    have := eight_all m D (by simp at h; omega)
    rw [List.range_succ_eq_map, List.flatMap_cons, List.flatMap_map]
    show [a, b, c, d, e, f, g, i] ++ _ = _
    have e2 : (fun k => (fun k => [(a :: b :: c :: d :: e :: f :: g :: i :: D).getD (8 * k) 0, (a :: b :: c :: d :: e :: f :: g :: i :: D).getD (8 * k + 1) 0, (a :: b :: c :: d :: e :: f :: g :: i :: D).getD (8 * k + 2) 0, (a :: b :: c :: d :: e :: f :: g :: i :: D).getD (8 * k + 3) 0, (a :: b :: c :: d :: e :: f :: g :: i :: D).getD (8 * k + 4) 0, (a :: b :: c :: d :: e :: f :: g :: i :: D).getD (8 * k + 5) 0, (a :: b :: c :: d :: e :: f :: g :: i :: D).getD (8 * k + 6) 0, (a :: b :: c :: d :: e :: f :: g :: i :: D).getD (8 * k + 7) 0]) (k + 1)) = fun k => [D.getD (8 * k) 0, D.getD (8 * k + 1) 0, D.getD (8 * k + 2) 0, D.getD (8 * k + 3) 0, D.getD (8 * k + 4) 0, D.getD (8 * k + 5) 0, D.getD (8 * k + 6) 0, D.getD (8 * k + 7) 0] := by
      funext k
      simp only [Nat.mul_succ]
      rfl
    rw [e2, this]
    rfl
  | m + 1, [], h | m + 1, [_], h | m + 1, [_, _], h | m + 1, [_, _, _], h | m + 1, [_, _, _, _], h | m + 1, [_, _, _, _, _], h | m + 1, [_, _, _, _, _, _], h | m + 1, [_, _, _, _, _, _, _], h => by simp at h; try omega
theorem PN_chs {L : List Int} (h : shapeP L = true) : PN (chsOf L).length (chsOf L) = L ∧ (chsOf L).length ≤ 200 ∧ L.getD 0 0 = (chsOf L).length := by
  unfold shapeP at h
  simp only [Bool.and_eq_true, decide_eq_true_eq] at h
  obtain ⟨h1, h2, h3, h4⟩ := h
  match L, h1 with
  | n :: D, _ =>
    have hn : (n :: D).getD 0 0 = n := rfl
    rw [hn] at h2 h3 h4 ⊢
    have hR : chsOf (n :: D) = (List.range (D.length / 8)).map fun k => (⟨D.getD (8 * k) 0, D.getD (8 * k + 1) 0, tmAt D (8 * k + 2), D.getD (8 * k + 7) 0⟩ : Ch) := by
      unfold chsOf
      simp only [List.length_cons, Nat.add_sub_cancel]
      refine List.map_congr_left fun k _ => ?_
      unfold chAt tmAt
      rw [show 1 + 8 * k = 8 * k + 1 by omega]
      rfl
    have hD : D.length = 8 * (D.length / 8) ∧ (n : Int) = (D.length / 8 : Nat) := by simp at h4; omega
    rw [hR]
    refine ⟨?_, by simp; omega, by simp; omega⟩
    unfold PN
    rw [List.flatMap_map, List.length_map, List.length_range, ← hD.2]
    have := eight_all _ D hD.1
    simp only [Ch.ns, tmAt]
    exact congrArg (n :: ·) this
def chsOk (R : List Ch) : Prop := R.length ≤ 200 ∧ riseG none R = true
theorem perr_ok {R : List Ch} : perr R = 0 ↔ chsOk R := by
  unfold perr chsOk
  constructor
  · intro h
    split at h
    · omega
    · split at h
      · omega
      · rename_i h1 h2
        exact ⟨by omega, by simpa using h2⟩
  · rintro ⟨h1, h2⟩
    rw [if_neg (by omega), if_neg (by simp [h2])]
theorem pbytes_ok {R : List Ch} (h : chsOk R) : pbytes R = put 80 (PN R.length R) := by
  unfold pbytes
  rw [if_neg (by have := h.1; have := h.2; simp_all)]
theorem rise_may : ∀ {R : List Ch} {o : Option Ch}, riseG o R = true → ∀ c ∈ R, c.may = true
  | [], _, _, c, hc => by cases hc
  | c :: R, none, h, x, hx => by
    simp only [riseG, Bool.and_eq_true] at h
    rcases List.mem_cons.1 hx with rfl | hx
    · exact h.1
    · exact rise_may h.2 x hx
  | c :: R, some b, h, x, hx => by
    simp only [riseG, Bool.and_eq_true] at h
    rcases List.mem_cons.1 hx with rfl | hx
    · exact h.1
    · exact rise_may h.2.2 x hx
theorem PN_in {R : List Ch} (h : chsOk R) : ∀ x ∈ PN R.length R, in64 x := by
  intro x hx
  have hl := h.1
  unfold PN at hx
  unfold in64
  rcases List.mem_cons.1 hx with rfl | hx
  · omega
  · obtain ⟨c, hc, hx⟩ := List.mem_flatMap.1 hx
    have hm := rise_may h.2 c hc
    simp only [Ch.may, Bool.and_eq_true, decide_eq_true_eq] at hm
    obtain ⟨⟨⟨⟨⟨⟨⟨h1, h2⟩, h3⟩, h4⟩, h5⟩, h6⟩, h7⟩, h8⟩ := hm
    have k := (Tm.may_iff c.t).1 h5
    simp only [Ch.ns, List.mem_cons, List.not_mem_nil, or_false] at hx
    omega
theorem take_putP {R : List Ch} (h : chsOk R) : takeOkP (pbytes R) = true ∧ chsOf (openL 80 (pbytes R)) = R := by
  rw [pbytes_ok h]
  obtain ⟨h1, h2⟩ := open_put 80 (PN_in h)
  obtain ⟨h3, h4⟩ := chs_PN h.1
  unfold takeOkP openL
  rw [if_pos h1, h1, h2, h3, h4, h.2]
  exact ⟨rfl, rfl⟩
theorem put_takeP {B : List Int} (hb : ∀ z ∈ B, isByte z) (h : takeOkP B = true) : chsOk (chsOf (openL 80 B)) ∧ pbytes (chsOf (openL 80 B)) = B := by
  unfold takeOkP at h
  simp only [Bool.and_eq_true] at h
  obtain ⟨h1, h2, h3⟩ := h
  have e : openL 80 B = openN B := by unfold openL; rw [if_pos h1]
  rw [e] at h2 h3 ⊢
  obtain ⟨c1, c2, c3⟩ := PN_chs h2
  have hk : chsOk (chsOf (openN B)) := ⟨c2, h3⟩
  refine ⟨hk, ?_⟩
  rw [pbytes_ok hk, c1, put_open hb h1]
theorem rchs_open {B : List Int} (h1 : openOk 80 B = true) (h2 : shapeP (openN B) = true) : rchs B = chsOf (openN B) := by
  obtain ⟨h3, h4, h5⟩ := PN_chs h2
  have hl : (openN B).length = 8 * (chsOf (openN B)).length + 1 := by
    rw [← PN_len (chsOf (openN B)).length, h3]
  have hN : rPN B = ((openN B).length - 1) / 8 := by
    unfold rPN
    rw [rat_open h1, h5]
    omega
  unfold rchs
  rw [hN]
  refine List.map_congr_left fun k _ => ?_
  unfold rch chAt
  rw [rat_open h1, rat_open h1, rat_open h1, rtm_open h1]
theorem prog_law {B : List Int} (hb : ∀ z ∈ B, isByte z) : rokP B = takeOkP B ∧ rtakeP B = takeP B := by
  have key : rokP B = takeOkP B ∧ (takeOkP B = true → rchs B = chsOf (openL 80 B)) := by
    constructor
    · rw [Bool.eq_iff_iff]
      constructor
      · intro h
        unfold rokP at h
        simp only [Bool.and_eq_true, decide_eq_true_eq] at h
        have := take_putP (perr_ok.1 h.1)
        rw [h.2] at this
        exact this.1
      · intro h
        obtain ⟨h1, h2⟩ := put_takeP hb h
        unfold takeOkP at h
        simp only [Bool.and_eq_true] at h
        obtain ⟨a1, a2, a3⟩ := h
        have e : openL 80 B = openN B := by unfold openL; rw [if_pos a1]
        rw [e] at a2 a3 h1 h2
        unfold rokP
        rw [rchs_open a1 a2, h2, perr_ok.2 h1]
        simp
    · intro h
      unfold takeOkP at h
      simp only [Bool.and_eq_true] at h
      obtain ⟨a1, a2, a3⟩ := h
      have e : openL 80 B = openN B := by unfold openL; rw [if_pos a1]
      rw [e] at a2 ⊢
      exact rchs_open a1 a2
  refine ⟨key.1, ?_⟩
  unfold rtakeP takeP
  rw [key.1]
  cases h : takeOkP B with
  | false => rfl
  | true => rw [if_pos rfl, if_pos rfl, key.2 h]
theorem cut_chs {R : List Ch} (h : chsOk R) {m : Nat} (hm : m < (pbytes R).length) : takeOkP ((pbytes R).take m) = false := by
  cases hk : takeOkP ((pbytes R).take m) with
  | false => rfl
  | true =>
    exfalso
    unfold takeOkP at hk
    simp only [Bool.and_eq_true] at hk
    obtain ⟨a1, a2, a3⟩ := hk
    have e : openL 80 ((pbytes R).take m) = openN ((pbytes R).take m) := by unfold openL; rw [if_pos a1]
    rw [e] at a2
    have hlm : ((pbytes R).take m).length = m := by rw [List.length_take]; omega
    have hL := openN_len ((pbytes R).take m)
    rw [hlm] at hL
    have hB := pbytes_ok h
    have hBl : (pbytes R).length = 64 * R.length + 13 := by rw [hB, put_len, PN_len]; omega
    obtain ⟨c1, c2, c3⟩ := PN_chs a2
    have c4 := congrArg List.length c1
    rw [PN_len] at c4
    have h7 : (openN ((pbytes R).take m)).getD 0 0 = R.length := by
      rw [openN_get (by rw [hlm]; omega), part_take (by omega), hB, put_part (by rw [PN_len]; omega), unN_num8 (PN_in h _ (List.getElem_mem _))]
      rfl
    rw [h7] at c3
    omega
/-! turned, and of the other kind -/
theorem turned_D {tag : Int} {B : List Int} (hb : ∀ z ∈ B, isByte z) (h : openOk tag B = true) {j : Nat} (hj : j < B.length) {v : Int} (hv : isByte v) (hne : v ≠ B[j]) : takeOkD (B.set j v) = false ∧ takeOkP (B.set j v) = false := by
  unfold takeOkD takeOkP
  rw [open_turned hb h hj hv hne, open_turned hb h hj hv hne]
  exact ⟨rfl, rfl⟩
theorem other_P {b : Bd} (h : b.ok) : takeOkP b.bytes = false := by
  unfold takeOkP
  rw [Bd.bytes_ok h, open_tag (by decide)]
  rfl
theorem other_D {R : List Ch} (h : chsOk R) : takeOkD (pbytes R) = false := by
  unfold takeOkD
  rw [pbytes_ok h, open_tag (by decide)]
  rfl
theorem open_D {b : Bd} (h : b.ok) : openOk 68 b.bytes = true := by
  rw [Bd.bytes_ok h]; exact (open_put 68 (Bd.in_ok h)).1
theorem open_P {R : List Ch} (h : chsOk R) : openOk 80 (pbytes R) = true := by
  rw [pbytes_ok h]; exact (open_put 80 (PN_in h)).1
end Go.Proofs.Ytkdfdbjcfhmkaaa
