/- Rows of events among a law's arguments, opened. -/
import Derived.Test.YtpfjolckhlgodaaDoorWu
import Derived.Test.YtpfjolckhlgodaaDoorSs
namespace Go.Proofs.YtpfjolckhlgodaaDoor
open Go Go.RowKit Go.ChangeShapes Go.WideShapes Go.ChangeAt
set_option linter.unusedSimpArgs false
set_option linter.unusedVariables false
set_option maxRecDepth 100000
section
variable {H : Type} {enc : TypeId × Value → H} {P : Program} {w : World} {held : Bool}
/-- A slice's elements, each as its own cells. -/
theorem open_elems {t e : TypeId} {k fuel : Nat} {cs : List Value} {x : DataW H × List MemPlace} (h0 : 0 < k) (ht : P.underlying t = some (.slice e)) (hc : P.cellsOf e = k)
    (h : DataW.trod enc P w 0 (fun _ => true) held fuel t cs = some x) : ∃ (n c : Nat) (a : Option Addr), cs = [.slice a n c] ∧ n ≤ c ∧ (c ≠ 0 → ∃ b lo, a = some ⟨b, lo, none⟩) ∧ 
      ∃ (f : Nat) (el : Nat → List Value), ∀ i, i < n → (el i).length = k ∧ (∀ b lo, a = some ⟨b, lo, none⟩ → ∀ j v, (el i)[j]? = some v → w.cell? ⟨b, lo + i * k + j, none⟩ = some v) ∧ ∃ y, DataW.trod enc P w 0 (fun _ => true) held f e (el i) = some y := by
  rcases DataW.trod_slice ht h with ⟨hcs, _⟩ | ⟨a, len, cap, elems, rest, f, _, rfl, _, _, hl, _, hlen, hel, hsp, _⟩
  · exact ⟨0, 0, none, hcs, Nat.le_refl _, fun h => absurd rfl h, 0, fun _ => [], fun i hi => absurd hi (by omega)⟩
  · obtain ⟨hrl, hre⟩ := hsp rfl
    have some_ : ∀ i, i < cap → ∃ y, (w.cells? 0 (a.add (i * P.cellsOf e)) (P.cellsOf e)).bind (DataW.trod enc P w 0 (fun _ => true) held f e) = some y := fun i hi => by
      by_cases h1 : i < len
      · exact ⟨elems[i]'(by omega), by rw [hel i h1, List.getElem?_eq_getElem (by omega)]⟩
      · have := hre (i - len) (by omega)
        rw [show len + (i - len) = i by omega] at this
        exact ⟨rest[i - len]'(by omega), by rw [this, List.getElem?_eq_getElem (by omega)]⟩
    have row : ∀ i, i < cap → ∃ cs : List Value, cs.length = k ∧ (∀ j v, cs[j]? = some v → w.cell? (a.add (i * k + j)) = some v) ∧ ∃ y, DataW.trod enc P w 0 (fun _ => true) held f e cs = some y := fun i hi => by
      obtain ⟨y, h1⟩ := some_ i hi
      rw [hc] at h1
      obtain ⟨cs, h2, h3⟩ := Option.bind_eq_some_iff.1 h1
      obtain ⟨h4, h5⟩ := cells_at h2
      refine ⟨cs, h4, fun j v hj => ?_, y, h3⟩
      have := h5 j v hj
      rwa [add_add] at this
    have hspot : cap ≠ 0 → ∃ b lo, a = ⟨b, lo, none⟩ := fun hp => by
      obtain ⟨cs, h1, h2, _⟩ := row 0 (by omega)
      obtain ⟨v, hv⟩ : ∃ v, cs[0]? = some v := ⟨_, List.getElem?_eq_getElem (by omega)⟩
      have h3 := h2 0 v hv
      obtain ⟨b, lo, sp⟩ := a
      cases sp with
      | none => exact ⟨b, lo, rfl⟩
      | some s =>
        simp only [World.cell?, Addr.add] at h3
        split at h3 <;> simp at h3
    refine ⟨len, cap, some a, rfl, hl, fun hp => ?_, f, fun i => if hi : i < cap then (row i hi).choose else [], fun i hi => ?_⟩
    · obtain ⟨b, lo, rfl⟩ := hspot hp
      exact ⟨b, lo, rfl⟩
    · have hic : i < cap := by omega
      simp only [dif_pos hic]
      obtain ⟨h1, h2, h3⟩ := (row i hic).choose_spec
      refine ⟨h1, fun b lo ha j v hj => ?_, h3⟩
      cases ha
      have := h2 j v hj
      rw [addr_add] at this
      rw [Nat.add_assoc]
      exact this
/-- Elements of one kind, in a row. -/
theorem elems_rd {α : Type} {en : α → List Value} {k : Nat} (hk : ∀ x, (en x).length = k) {a : Option Addr} {n c : Nat} (hn : n ≤ c) (ha : c ≠ 0 → ∃ b lo, a = some ⟨b, lo, none⟩) (L : List α) (hL : L.length = n)
    (h : ∀ i (hi : i < L.length), ∀ b lo, a = some ⟨b, lo, none⟩ → ∀ j v, (en L[i])[j]? = some v → w.cell? ⟨b, lo + i * k + j, none⟩ = some v) : RdS w a (encs en L) := by
  by_cases hc : c = 0
  · have : L = [] := List.length_eq_zero_iff.1 (by omega)
    subst this
    intro j v hj
    simp [encs] at hj
  · obtain ⟨b, lo, rfl⟩ := ha hc
    refine rd_encs hk fun i hi r v hr => ?_
    have := h i hi b lo rfl r v hr
    rw [Nat.add_assoc] at this
    exact this
end
theorem wf_i64 {n : Int} (h : (Lit.int .i64 n).wf = true) : I64 n := wf64 h
section
variable {H : Type} {enc : TypeId × Value → H} {w : World} {held : Bool}
theorem trod_i64 {fuel : Nat} {v : Value} {x : DataW H × List MemPlace} (h : DataW.trod enc Tryd.prog w 0 (fun _ => true) held fuel 3 [v] = some x) : ∃ n, v = .int .i64 n ∧ I64 n := by
  obtain ⟨n, hn, _, hw⟩ := DataW.trod_int Tryd.underlying3 h
  exact ⟨n, by simpa using hn, wf_i64 hw⟩
theorem elem_rec {fuel : Nat} {cs : List Value} {x : DataW H × List MemPlace} (h : DataW.trod enc Tryd.prog w 0 (fun _ => true) held fuel 42 cs = some x) : ∃ r : Rc, cs = Rc.e r ∧ I64 r.k ∧ I64 r.v := by
  obtain ⟨xs, n, _, _, hl, hlen, hf⟩ := DataW.trod_struct Tryd.underlying42 h
  have e1 : Tryd.prog.cellsOf 3 = 1 := by kernel_rfl
  have e2 : Tryd.prog.cellsOf 42 = 2 := by kernel_rfl
  rw [e2] at hl
  match cs, hl with
  | [c0, c1], _ =>
    have hlen : xs.length = 2 := hlen
    match xs, hlen with
    | [y0, y1], _ =>
      have f0 : DataW.trod enc Tryd.prog w 0 (fun _ => true) held n 3 (([c0, c1].drop 0).take (Tryd.prog.cellsOf 3)) = some y0 := hf 0 _ rfl
      have f1 : DataW.trod enc Tryd.prog w 0 (fun _ => true) held n 3 (([c0, c1].drop 1).take (Tryd.prog.cellsOf 3)) = some y1 := hf 1 _ rfl
      rw [e1] at f0 f1
      obtain ⟨a, rfl, ha⟩ := trod_i64 f0
      obtain ⟨b, rfl, hb⟩ := trod_i64 f1
      exact ⟨⟨a, b⟩, rfl, ha, hb⟩
theorem open_rs {fuel : Nat} {v : Value} {x : DataW H × List MemPlace} (h : DataW.trod enc Tryd.prog w 0 (fun _ => true) held fuel 29 [v] = some x) : ∃ (s : Sv) (L : List Rc), v = .slice s.a s.n s.c ∧ RsAt w s L ∧ ∀ r ∈ L, I64 r.k ∧ I64 r.v := by
  obtain ⟨n, c, a, hcs, hn, ha, f, el, hel⟩ := open_elems (k := 2) (by decide) Tryd.underlying29 (by kernel_rfl) h
  have hr : ∀ i, ∃ r : Rc, i < n → el i = Rc.e r ∧ I64 r.k ∧ I64 r.v := fun i => by
    by_cases hi : i < n
    · obtain ⟨_, _, y, hy⟩ := hel i hi
      obtain ⟨r, h1⟩ := elem_rec hy
      exact ⟨r, fun _ => h1⟩
    · exact ⟨⟨0, 0⟩, fun h => absurd h hi⟩
  let g : Nat → Rc := fun i => (hr i).choose
  have hg : ∀ i, i < n → el i = Rc.e (g i) ∧ I64 (g i).k ∧ I64 (g i).v := fun i hi => (hr i).choose_spec hi
  refine ⟨⟨a, n, c⟩, (List.range n).map g, by simpa using hcs, ⟨by simp, by simpa using hn, ha, ?_⟩, fun r hm => ?_⟩
  · refine elems_rd Rc.el hn ha _ (by simp) fun i hi b lo hb j v hj => ?_
    simp only [List.length_map, List.length_range] at hi
    simp only [List.getElem_map, List.getElem_range] at hj
    rw [← (hg i hi).1] at hj
    exact (hel i hi).2.1 b lo hb j v hj
  · obtain ⟨i, hi, rfl⟩ := List.mem_map.1 hm
    exact (hg i (List.mem_range.1 hi)).2
theorem elem_ev {fuel : Nat} {cs : List Value} {x : DataW H × List MemPlace} (h : DataW.trod enc Tryd.prog w 0 (fun _ => true) held fuel 31 cs = some x) : ∃ (e : Ev) (x : Evn), cs = Ev.e e ∧ EvAt w e x ∧ x.Bd := by
  obtain ⟨xs, n, _, _, hl, hlen, hf⟩ := DataW.trod_struct Tryd.underlying31 h
  have e1 : Tryd.prog.cellsOf 3 = 1 := by kernel_rfl
  have e2 : Tryd.prog.cellsOf 29 = 1 := by kernel_rfl
  have e6 : Tryd.prog.cellsOf 31 = 6 := by kernel_rfl
  rw [e6] at hl
  match cs, hl with
  | [c0, c1, c2, c3, c4, c5], _ =>
    have hlen : xs.length = 6 := hlen
    match xs, hlen with
    | [y0, y1, y2, y3, y4, y5], _ =>
      have f0 : DataW.trod enc Tryd.prog w 0 (fun _ => true) held n 3 (([c0, c1, c2, c3, c4, c5].drop 0).take (Tryd.prog.cellsOf 3)) = some y0 := hf 0 _ rfl
      have f1 : DataW.trod enc Tryd.prog w 0 (fun _ => true) held n 3 (([c0, c1, c2, c3, c4, c5].drop 1).take (Tryd.prog.cellsOf 3)) = some y1 := hf 1 _ rfl
      have f2 : DataW.trod enc Tryd.prog w 0 (fun _ => true) held n 3 (([c0, c1, c2, c3, c4, c5].drop 2).take (Tryd.prog.cellsOf 3)) = some y2 := hf 2 _ rfl
      have f3 : DataW.trod enc Tryd.prog w 0 (fun _ => true) held n 3 (([c0, c1, c2, c3, c4, c5].drop 3).take (Tryd.prog.cellsOf 3)) = some y3 := hf 3 _ rfl
      have f4 : DataW.trod enc Tryd.prog w 0 (fun _ => true) held n 3 (([c0, c1, c2, c3, c4, c5].drop 4).take (Tryd.prog.cellsOf 3)) = some y4 := hf 4 _ rfl
      have f5 : DataW.trod enc Tryd.prog w 0 (fun _ => true) held n 29 (([c0, c1, c2, c3, c4, c5].drop 5).take (Tryd.prog.cellsOf 29)) = some y5 := hf 5 _ rfl
      rw [e1] at f0 f1 f2 f3 f4
      rw [e2] at f5
      obtain ⟨a0, rfl, h0⟩ := trod_i64 f0
      obtain ⟨a1, rfl, h1⟩ := trod_i64 f1
      obtain ⟨a2, rfl, h2⟩ := trod_i64 f2
      obtain ⟨a3, rfl, h3⟩ := trod_i64 f3
      obtain ⟨a4, rfl, h4⟩ := trod_i64 f4
      obtain ⟨s, L, rfl, hs, hL⟩ := open_rs f5
      exact ⟨⟨a0, a1, a2, a3, a4, s⟩, ⟨a0, a1, a2, a3, a4, L⟩, rfl, ⟨rfl, rfl, rfl, rfl, rfl, hs⟩, ⟨h0, h1, h2, h3, h4, hL⟩⟩
theorem open_evs {r : Reach} {b0 : Nat} {v : Value} {d : DataW H} {ps : List MemPlace} (hval : Value.okWide Tryd.prog w r b0 23 v)
    (hd : DataW.Trod enc Tryd.prog w 0 (fun _ => true) true 23 v d ps) : ∃ (s : Sv) (E : List Ev) (L : List Evn), v = .slice s.a E.length s.c ∧ RowAt w s E L ∧ ∀ x ∈ L, x.Bd := by
  obtain ⟨fuel, hd⟩ := hd
  obtain ⟨n, c, a, hcs, hn, ha, f, el, hel⟩ := open_elems (k := 6) (by decide) Tryd.underlying23 (by kernel_rfl) hd
  have hr : ∀ i, ∃ q : Ev × Evn, i < n → el i = Ev.e q.1 ∧ EvAt w q.1 q.2 ∧ q.2.Bd := fun i => by
    by_cases hi : i < n
    · obtain ⟨_, _, y, hy⟩ := hel i hi
      obtain ⟨e, x, h1⟩ := elem_ev hy
      exact ⟨(e, x), fun _ => h1⟩
    · exact ⟨(default, ⟨0, 0, 0, 0, 0, []⟩), fun h => absurd h hi⟩
  let g : Nat → Ev × Evn := fun i => (hr i).choose
  have hg : ∀ i, i < n → el i = Ev.e (g i).1 ∧ EvAt w (g i).1 (g i).2 ∧ (g i).2.Bd := fun i hi => (hr i).choose_spec hi
  have hev : ∀ (l : List Nat), (∀ i ∈ l, i < n) → EvsAt w (l.map fun i => (g i).1) (l.map fun i => (g i).2) := by
    intro l
    induction l with
    | nil => intro _; exact .nil
    | cons i r ih => intro h; exact .cons (hg i (h i (by simp))).2.1 (ih fun j hj => h j (by simp [hj]))
  refine ⟨⟨a, n, c⟩, (List.range n).map fun i => (g i).1, (List.range n).map fun i => (g i).2, ?_, ⟨by simp, by simpa using hn, ha, ?_, hev _ fun i hi => List.mem_range.1 hi⟩, fun x hm => ?_⟩
  · rw [List.length_map, List.length_range]
    exact slice_value Tryd.underlying23 hval hcs
  · refine elems_rd Ev.el hn ha _ (by simp) fun i hi b lo hb j v hj => ?_
    simp only [List.length_map, List.length_range] at hi
    simp only [List.getElem_map, List.getElem_range] at hj
    rw [← (hg i hi).1] at hj
    exact (hel i hi).2.1 b lo hb j v hj
  · obtain ⟨i, hi, rfl⟩ := List.mem_map.1 hm
    exact (hg i (List.mem_range.1 hi)).2.2
theorem open_ev {r : Reach} {b0 : Nat} {v : Value} {d : DataW H} {ps : List MemPlace} (hval : Value.okWide Tryd.prog w r b0 31 v)
    (hd : DataW.Trod enc Tryd.prog w 0 (fun _ => true) true 31 v d ps) : ∃ (e : Ev) (x : Evn), v = e.g ∧ EvAt w e x ∧ x.Bd := by
  obtain ⟨fuel, hd⟩ := hd
  have hv : ∃ cs, v = .agg cs := by
    unfold Value.okWide at hval
    rw [Tryd.underlying31] at hval
    obtain ⟨cs, h, _⟩ := hval
    exact ⟨cs, h⟩
  obtain ⟨⟨cs⟩, rfl⟩ := hv
  obtain ⟨e, x, h1, h2, h3⟩ := elem_ev hd
  have h1 : cs = Ev.e e := h1
  exact ⟨e, x, by rw [h1], h2, h3⟩
theorem open_str {r : Reach} {b0 : Nat} {v : Value} {d : DataW H} {ps : List MemPlace} (hval : Value.okWide Tryd.prog w r b0 9 v)
    (hd : DataW.Trod enc Tryd.prog w 0 (fun _ => true) true 9 v d ps) : ∃ s : Bs, v = strV s := by
  obtain ⟨fuel, hd⟩ := hd
  obtain ⟨s, hs, _, _⟩ := DataW.trod_string Tryd.underlying9 hd
  have hv : ∃ s, v = .string s := by
    unfold Value.okWide at hval
    rw [Tryd.underlying9] at hval
    simp only at hval
    unfold Cell.okWide at hval
    rw [Tryd.underlying9] at hval
    simp only at hval
    unfold Cell.ok at hval
    rw [Tryd.underlying9] at hval
    cases v <;> simp at hval <;> exact ⟨_, rfl⟩
  obtain ⟨s, rfl⟩ := hv
  obtain ⟨⟨l⟩⟩ := s
  exact ⟨l, rfl⟩
end
end Go.Proofs.YtpfjolckhlgodaaDoor
