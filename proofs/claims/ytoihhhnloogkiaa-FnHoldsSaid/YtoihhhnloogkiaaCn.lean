/- A struct with records among a law's arguments. -/
import Derived.Test.YtoihhhnloogkiaaWn
import Derived.Test.YtoihhhnloogkiaaBb
namespace Go.Proofs.Ytoihhhnloogkiaa
open Go Go.RowKit Go.ChangeShapes Go.WideShapes Go.ChangeAt
theorem recs_cell {W : World} {fuel : Nat} {u : Value} {H : Type} {enc : TypeId × Value → H} {x : DataW H × List MemPlace}
    (hd : DataW.trod enc Try.prog W 0 (fun _ => true) true fuel 22 [u] = some x) : ∃ (L : List Rc) (c : Nat), AS.ok W (.r L.length c (encs Rc.e L)) u := by
  rcases Deep.open_slice_pairs Try.underlying22 Try.underlying24 (by kernel_rfl) rfl rfl (by kernel_rfl) (by kernel_rfl) hd with ⟨h, _⟩ | ⟨a, len, cap, m, n, V0, V1, D0, D1, P0, P1, h, _, hle, _, hm, _, hc⟩
  · have e : u = .slice none 0 0 := by simpa using h
    subst e
    exact ⟨[], 0, none, rfl, fun j v hj => by simp [encs] at hj, fun h0 => absurd rfl h0, Nat.le_refl _⟩
  · have e : u = .slice (some a) len cap := by simpa using h
    subst e
    have hm : m = cap := by rw [hm]; rfl
    subst hm
    have num : ∀ i, i < m → ∃ p q : Int, V0 i = .int .i64 p ∧ V1 i = .int .i64 q := fun i hi => by
      obtain ⟨_, _, h3, h4⟩ := hc i hi
      obtain ⟨p, hp, _⟩ := DataW.trod_int Try.underlying3 h3
      obtain ⟨q, hq, _⟩ := DataW.trod_int Try.underlying3 h4
      exact ⟨p, q, by simpa using hp, by simpa using hq⟩
    have hspot : m ≠ 0 → ∃ b lo, a = ⟨b, lo, none⟩ := fun h0 => by
      have h1 := (hc 0 (by omega)).1
      obtain ⟨b, lo, sp⟩ := a
      cases sp with
      | none => exact ⟨b, lo, rfl⟩
      | some s =>
        simp only [World.cell?, Addr.add] at h1
        split at h1 <;> simp at h1
    let toI : Value → Int := fun v => match v with
      | .int _ n => n
      | _ => 0
    refine ⟨(List.range len).map fun i => ⟨toI (V0 i), toI (V1 i)⟩, m, some a, by simp, ?_, fun h0 => ?_, by simpa using hle⟩
    · by_cases h0 : m = 0
      · have : len = 0 := by omega
        subst this
        exact fun j v hj => by simp [encs] at hj
      · obtain ⟨b, lo, rfl⟩ := hspot h0
        refine rd_encs Rc.el fun i hi r v hr => ?_
        simp only [List.length_map, List.length_range] at hi
        obtain ⟨p, q, e0, e1⟩ := num i (by omega)
        obtain ⟨c0, c1, _⟩ := hc i (by omega)
        rw [e0] at c0
        rw [e1] at c1
        have e0 : toI (V0 i) = p := by rw [e0]
        have e1 : toI (V1 i) = q := by rw [e1]
        simp only [List.getElem_map, List.getElem_range, Rc.e, e0, e1] at hr
        match r, hr with
        | 0, hr =>
          simp at hr
          subst hr
          rw [addr_add] at c0
          exact c0
        | 1, hr =>
          simp at hr
          subst hr
          rw [addr_add] at c1
          exact c1
    · obtain ⟨b, lo, rfl⟩ := hspot h0
      exact ⟨b, lo, rfl⟩
theorem open_ways {W : World} {r : Reach} {b0 : Nat} {v : Value} {H : Type} {enc : TypeId × Value → H} {d : DataW H} {ps : List MemPlace} (hval : Value.okWide Try.prog W r b0 51 v)
    (hd : DataW.Trod enc Try.prog W 0 (fun _ => true) true 51 v d ps) : ∃ (L : List Rc) (ad : Option Addr) (c : Nat) (m : Int), v = .agg #[.slice ad L.length c, .int .i64 m] ∧ m ≤ 9223372036854775807 ∧ RdS W ad (encs Rc.e L) ∧ L.length ≤ c ∧ (c ≠ 0 → ∃ b lo, ad = some ⟨b, lo, none⟩) := by
  obtain ⟨fuel, hd⟩ := hd
  have hs : ∃ cs : Array Value, v = .agg cs ∧ cs.size = 2 := by
    unfold Value.okWide at hval
    rw [Try.underlying51] at hval
    obtain ⟨cs, h1, h2, _⟩ := hval
    exact ⟨cs, h1, h2.trans (by kernel_rfl)⟩
  obtain ⟨cs, rfl, hsz⟩ := hs
  obtain ⟨xs, k, _, _, _, hxl, hf⟩ := DataW.trod_struct Try.underlying51 hd
  match cs, hsz, xs, hxl with
  | ⟨[u, w]⟩, _, [x0, x1], _ =>
    have c0 : Try.prog.cellsOf 22 = 1 := by kernel_rfl
    have c1 : Try.prog.cellsOf 3 = 1 := by kernel_rfl
    have g0 := hf 0 _ rfl
    have g1 := hf 1 _ rfl
    simp [c0, c1, Value.cells] at g0 g1
    obtain ⟨L, c, ad, rfl, h1, h2, h3⟩ := recs_cell g0
    obtain ⟨m, hm, _, hwf⟩ := DataW.trod_int Try.underlying3 g1
    have hm : w = .int .i64 m := by simpa using hm
    subst hm
    exact ⟨L, ad, c, m, rfl, (wf64 hwf).2, h1, h3, h2⟩
end Go.Proofs.Ytoihhhnloogkiaa
