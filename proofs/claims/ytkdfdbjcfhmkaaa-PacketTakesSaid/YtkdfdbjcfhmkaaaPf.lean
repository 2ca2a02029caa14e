/- Slices of bytes, and bytes, among a law's arguments. -/
import Derived.Test.YtkdfdbjcfhmkaaaWn
import Derived.Test.YtkdfdbjcfhmkaaaWr
import Derived.ChangeSlices
namespace Go.Proofs.Ytkdfdbjcfhmkaaa
open Go Go.RowKit Go.ChangeShapes Go.WideShapes Go.ChangeAt
theorem wf8 {n : Int} (h : (Lit.int .u8 n).wf = true) : 0 ≤ n ∧ n ≤ 255 := by
  simp only [Lit.wf, IntKind.min, IntKind.max, IntKind.bits, IntKind.signed] at h
  simp at h
  omega
theorem open_bytes {W : World} {r : Reach} {b0 : Nat} {v : Value} {H : Type} {enc : TypeId × Value → H} {d : DataW H} {ps : List MemPlace} (hval : Value.okWide Try.prog W r b0 22 v)
    (hd : DataW.Trod enc Try.prog W 0 (fun _ => true) true 22 v d ps) : ∃ (L : List Int) (c : Nat), AS.ok W (.r L.length c (encs Zb.e L)) v ∧ ∀ z ∈ L, 0 ≤ z ∧ z ≤ 255 := by
  obtain ⟨fuel, hd⟩ := hd
  rcases open_ints Try.underlying22 Try.underlying5 (by kernel_rfl) hd with ⟨h, _⟩ | ⟨a, len, cap, zs, h, _, hle, _, hm, _, hc, hwf⟩
  · have e := slice_value Try.underlying22 hval h
    subst e
    exact ⟨[], 0, ⟨none, rfl, fun j v hj => by simp [encs] at hj, fun h0 => absurd rfl h0, Nat.le_refl _⟩, fun z hz => by simp at hz⟩
  · have e := slice_value Try.underlying22 hval h
    subst e
    have hm : zs.length = cap := by rw [hm]; rfl
    have hspot : cap ≠ 0 → ∃ b lo, a = ⟨b, lo, none⟩ := fun h0 => by
      have h1 := hc 0 (by omega)
      obtain ⟨b, lo, sp⟩ := a
      cases sp with
      | none => exact ⟨b, lo, rfl⟩
      | some s =>
        simp only [World.cell?, Addr.add] at h1
        split at h1 <;> simp at h1
    have hlen : (zs.take len).length = len := by simp; omega
    refine ⟨zs.take len, cap, ⟨some a, by rw [hlen], ?_, fun h0 => ?_, by rw [hlen]; exact hle⟩, fun z hz => wf8 (hwf z (List.mem_of_mem_take hz))⟩
    · by_cases h0 : cap = 0
      · have : zs = [] := List.length_eq_zero_iff.1 (by omega)
        subst this
        exact fun j v hj => by simp [encs] at hj
      · obtain ⟨b, lo, rfl⟩ := hspot h0
        refine rd_encs Zb.el fun i hi r v hr => ?_
        rw [hlen] at hi
        have h1 := hc i (by omega)
        rw [addr_add] at h1
        match r, hr with
        | 0, hr =>
          simp [Zb.e] at hr
          subst hr
          have e2 : zs.getD i 0 = zs[i]'(by omega) := by simp [List.getD, List.getElem?_eq_getElem (show i < zs.length by omega)]
          rw [e2] at h1
          simpa using h1
    · obtain ⟨b, lo, rfl⟩ := hspot h0
      exact ⟨b, lo, rfl⟩
end Go.Proofs.Ytkdfdbjcfhmkaaa
