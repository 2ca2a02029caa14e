/- Slices of whole numbers among a law's arguments. -/
import Derived.Test.YtoihhhnloogkiaaWn
import Derived.Test.YtoihhhnloogkiaaWg
import Derived.ChangeSlices
namespace Go.Proofs.Ytoihhhnloogkiaa
open Go Go.RowKit Go.ChangeShapes Go.WideShapes Go.ChangeAt
theorem open_nums {W : World} {r : Reach} {b0 : Nat} {v : Value} {H : Type} {enc : TypeId × Value → H} {d : DataW H} {ps : List MemPlace} (hval : Value.okWide Try.prog W r b0 31 v)
    (hd : DataW.Trod enc Try.prog W 0 (fun _ => true) true 31 v d ps) : ∃ (L : List Int) (c : Nat), AS.ok W (.r L.length c (encs Zi.e L)) v := by
  obtain ⟨fuel, hd⟩ := hd
  rcases open_ints Try.underlying31 Try.underlying3 (by kernel_rfl) hd with ⟨h, _⟩ | ⟨a, len, cap, zs, h, _, hle, _, hm, _, hc, _⟩
  · have e := slice_value Try.underlying31 hval h
    subst e
    exact ⟨[], 0, none, rfl, fun j v hj => by simp [encs] at hj, fun h0 => absurd rfl h0, Nat.le_refl _⟩
  · have e := slice_value Try.underlying31 hval h
    subst e
    have hm : zs.length = cap := by rw [hm]; rfl
    have hspot : cap ≠ 0 → ∃ b lo, a = ⟨b, lo, none⟩ := fun h0 => by
      have h1 := hc 0 (by omega)
      obtain ⟨b, lo, sp⟩ := a
      cases sp with
      | none => exact ⟨b, lo, rfl⟩
      | some s =>
        simp only [World.cell?, Addr.add] at h1
        split at h1 <;> simp at h1
    have hlen : (zs.take len).length = len := by simp; omega
    refine ⟨zs.take len, cap, some a, by rw [hlen], ?_, fun h0 => ?_, by rw [hlen]; exact hle⟩
    · by_cases h0 : cap = 0
      · have : zs = [] := List.length_eq_zero_iff.1 (by omega)
        subst this
        exact fun j v hj => by simp [encs] at hj
      · obtain ⟨b, lo, rfl⟩ := hspot h0
        refine rd_encs Zi.el fun i hi r v hr => ?_
        rw [hlen] at hi
        have h1 := hc i (by omega)
        rw [addr_add] at h1
        match r, hr with
        | 0, hr =>
          simp [Zi.e] at hr
          subst hr
          have e2 : zs.getD i 0 = zs[i]'(by omega) := by simp [List.getD, List.getElem?_eq_getElem (show i < zs.length by omega)]
          rw [e2] at h1
          simpa using h1
    · obtain ⟨b, lo, rfl⟩ := hspot h0
      exact ⟨b, lo, rfl⟩
end Go.Proofs.Ytoihhhnloogkiaa
