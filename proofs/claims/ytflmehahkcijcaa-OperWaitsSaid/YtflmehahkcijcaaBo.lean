/- Slices of records among a law's arguments. -/
import Derived.Test.YtflmehahkcijcaaWn
import Derived.Test.YtflmehahkcijcaaBb
namespace Go.Proofs.Ytflmehahkcijcaa
open Go Go.RowKit Go.ChangeShapes Go.WideShapes Go.ChangeAt
set_option maxRecDepth 100000
theorem list4 {ns : List Int} (h : ns.length = 4) : ∃ a b c d, ns = [a, b, c, d] := by
  match ns, h with
  | [a, b, c, d], _ => exact ⟨a, b, c, d, rfl⟩
theorem open_recs {W : World} {r : Reach} {b0 : Nat} {v : Value} {H : Type} {enc : TypeId × Value → H} {d : DataW H} {ps : List MemPlace} (hval : Value.okWide Try.prog W r b0 27 v)
    (hd : DataW.Trod enc Try.prog W 0 (fun _ => true) true 27 v d ps) : ∃ (L : List Rc) (c : Nat), AS.ok W (.r L.length c (encs Rc.e L)) v := by
  obtain ⟨fuel, hd⟩ := hd
  rcases Deep.open_slice_pairs Try.underlying27 Try.underlying38 (by kernel_rfl) rfl rfl (by kernel_rfl) (by kernel_rfl) hd with ⟨h, _⟩ | ⟨a, len, cap, m, n, V0, V1, D0, D1, P0, P1, h, _, hle, _, hm, _, hc⟩
  · have e := slice_value Try.underlying27 hval h
    subst e
    exact ⟨[], 0, none, rfl, fun j v hj => by simp [encs] at hj, fun h0 => absurd rfl h0, Nat.le_refl _⟩
  · have e := slice_value Try.underlying27 hval h
    subst e
    have hm : m = cap := by rw [hm]; rfl
    subst hm
    have num : ∀ i, i < m → ∃ p q : Int, V0 i = .int .i64 p ∧ V1 i = .int .i64 q := fun i hi => by
      obtain ⟨_, _, h3, h4⟩ := hc i hi
      obtain ⟨p, hp, _⟩ := DataW.trod_int Try.underlying3 h3
      obtain ⟨q, hq, _⟩ := DataW.trod_int Try.underlying3 h4
      exact ⟨p, q, by simpa using hp, by simpa using hq⟩
    have hspot : m ≠ 0 → ∃ b lo, a = ⟨b, lo, none⟩ := fun h0 => by
      have h1 := (hc 0 (by omega)).1
      obtain ⟨b, lo, sp⟩ := a
      cases sp with
      | none => exact ⟨b, lo, rfl⟩
      | some s =>
        simp only [World.cell?, Addr.add] at h1
        split at h1 <;> simp at h1
    let toI : Value → Int := fun v => match v with
      | .int _ n => n
      | _ => 0
    refine ⟨(List.range len).map fun i => ⟨toI (V0 i), toI (V1 i)⟩, m, some a, by simp, ?_, fun h0 => ?_, by simpa using hle⟩
    · by_cases h0 : m = 0
      · have : len = 0 := by omega
        subst this
        exact fun j v hj => by simp [encs] at hj
      · obtain ⟨b, lo, rfl⟩ := hspot h0
        refine rd_encs Rc.el fun i hi r v hr => ?_
        simp only [List.length_map, List.length_range] at hi
        obtain ⟨p, q, e0, e1⟩ := num i (by omega)
        obtain ⟨c0, c1, _⟩ := hc i (by omega)
        rw [e0] at c0
        rw [e1] at c1
        have e0 : toI (V0 i) = p := by rw [e0]
        have e1 : toI (V1 i) = q := by rw [e1]
        simp only [List.getElem_map, List.getElem_range, Rc.e, e0, e1] at hr
        match r, hr with
        | 0, hr =>
          simp at hr
          subst hr
          rw [addr_add] at c0
          exact c0
        | 1, hr =>
          simp at hr
          subst hr
          rw [addr_add] at c1
          exact c1
    · obtain ⟨b, lo, rfl⟩ := hspot h0
      exact ⟨b, lo, rfl⟩
end Go.Proofs.Ytflmehahkcijcaa
