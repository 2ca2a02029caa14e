/- slices.SortFunc on a row of the call's own. -/
import Derived.Test.YtflmehahkcijcaaWi
import Derived.Shelf.GgSortFunc.InsertionK
namespace Go.Proofs.Ytflmehahkcijcaa
open Go Go.RowKit Go.Sort
section rules
variable {C : Ctx} {B : Bas} {nt : Nat} {ρ : Option Nat} {env : Env} {own : Own} {dfs : List Deferred} {K : Exit → St → Prop} {σ : St} {α : Type} [Inhabited α] {enc : α → List Value} {k : Nat}
theorem flat_get (hk : ∀ x, (enc x).length = k) (L : List α) (j : Nat) (h : j < L.length * k) : (encs enc L)[j]? = some (flatK enc k L.toArray)[j]! := by
  have k0 : 0 < k := by
    rcases Nat.eq_zero_or_pos k with h0 | h0
    · subst h0; simp at h
    · exact h0
  have hm : j / k < L.length := Nat.div_lt_of_lt_mul (by rw [Nat.mul_comm]; exact h)
  have hr : j % k < k := Nat.mod_lt _ k0
  have := encs_get hk L (j / k) (j % k) hm hr
  rw [Nat.div_add_mod' j k] at this
  rw [this, get_flatK _ _ _ _ (by simpa using h)]
  have hq : j % k < (enc L[j / k]).length := by rw [hk]; exact hr
  simp [hm, hq]
theorem sort_world (w : World) (b T : Nat) (cs : Array Value) (hh : w.heap[b]? = some (.cells cs T (0, 0))) (d : Array α) (n : Nat) (os : Array Obj) :
    (sortWorldK enc k w b 0 n d os).os = w.os ∧ (sortWorldK enc k w b 0 n d os).tape = w.tape ∧ (sortWorldK enc k w b 0 n d os).output = w.output ∧ w.heap.size ≤ (sortWorldK enc k w b 0 n d os).heap.size ∧ w.drawn ≤ (sortWorldK enc k w b 0 n d os).drawn ∧
    (∀ q, q < w.heap.size → q ≠ b → (sortWorldK enc k w b 0 n d os).heap[q]? = w.heap[q]?) ∧ (sortWorldK enc k w b 0 n d os).heap[b]? = some (.cells (putCells id 0 (flatK enc k d) cs) T (0, 0)) := by
  have hlt : b < w.heap.size := lt_of_heap hh
  have hheap : (sortWorldK enc k w b 0 n d os).heap = w.heap.modify b (onCells (putCells id 0 (flatK enc k d))) ++ os := rfl
  refine ⟨rfl, rfl, rfl, ?_, Nat.le_add_right _ _, fun q hq hne => ?_, ?_⟩
  · rw [hheap]; simp
  · rw [hheap, Array.getElem?_append_left (by simpa using hq), Array.getElem?_modify, if_neg (Ne.symm hne)]
  · rw [hheap, Array.getElem?_append_left (by simpa using hlt), Array.getElem?_modify, if_pos rfl, hh]
    rfl
theorem ox_sort (hk : ∀ x, (enc x).length = k) {L L' : List α} (hl : L'.length = L.length) (f g : Nat) {zs : List Nat} {N : St → Prop} {d : Nat} {ty : TypeId} {pos : String} {af : Array Edge} {gu : Option (Nat × Bool)} {fo x y : Operand} {at_ : Array TypeId} {i n c T : Nat} {ad : Option Addr}
    (hsort : ∀ (b : Nat) (w : World), HoldsK enc k w b 0 L.toArray → b < w.heap.size → Calls C.P f #[.slice (some ⟨b, 0, none⟩) L.length c, .func (.func g) #[] #[]] w fun e w' => e = .returned (.tuple #[]) ∧ ∃ n os, w' = sortWorldK enc k w b 0 n L'.toArray os)
    (hnone : ∀ (p : Option Addr) (w : World), Calls C.P f #[.slice p 0 c, .func (.func g) #[] #[]] w fun e w' => e = .returned (.tuple #[]) ∧ w' = w)
    (he : Enters C.P f) (hq : isNew (.call ⟨.value fo, ⟨[x, y]⟩, at_⟩) = false) (hk0 : 0 < k) (hf : ev env fo = some (.v (.func (.func f) ⟨[]⟩ ⟨[]⟩))) (hx : ev env x = some (.v (.slice ad n c))) (hy : ev env y = some (.v (.func (.func g) ⟨[]⟩ ⟨[]⟩))) (hn : n = L.length) (hi : nth own i = some (.row ad T (c * k) (encs enc L))) (hni : notIn zs i = true) (hcap : n ≤ c) (hd : Nat.blt d nt = true)
    {own' : Own} (hw : forceK (own.set i (.row ad T (c * k) (encs enc L'))) some = some own') (hN : N ⟨(d, .v (.tuple ⟨[]⟩)) :: env, own', dfs⟩) : OX C B nt zs ⟨some d, .call ⟨.value fo, ⟨[x, y]⟩, at_⟩, ty, pos, af, gu⟩ N ⟨env, own, dfs⟩ := by
  intro a W Z hr hz nxt Q hnx
  unfold Oper.wp
  rw [run_call hr hf he rfl _ rfl, Oper.upon_enter]
  have hxe : a.eval x = .slice ad n c := hr.atv hx
  have hye : a.eval y = .func (.func g) #[] #[] := hr.atv hy
  rw [show (⟨[]⟩ : Array Value) ++ ([x, y].map a.eval).toArray ++ ⟨[]⟩ = #[.slice ad n c, .func (.func g) #[] #[]] by simp [hxe, hye]]
  rw [nth_eq] at hi
  rw [forceK_eq] at hw
  cases hw
  have hreg := hr.mem.at hi
  have hno := notIn_spec hni
  have hlt := (List.getElem?_eq_some_iff.1 hi).1
  by_cases h0 : L.length = 0
  · have e : L = [] := List.length_eq_zero_iff.1 h0
    have e' : L' = [] := List.length_eq_zero_iff.1 (by omega)
    subst e; subst e'
    simp only [List.length_nil] at hn
    subst hn
    refine (hnone ad W).mono ?_
    rintro e W' ⟨rfl, rfl⟩
    have hset : own.set i (.row ad T (c * k) (encs enc ([] : List α))) = own := by
      apply List.ext_getElem?
      intro j
      by_cases e : i = j
      · subst e; rw [List.getElem?_set_self hlt, hi]
      · rw [List.getElem?_set_ne e]
    rw [hset] at hN
    exact hnx _ _ _ hN (hr.put (by simpa using hd) _ _ (OLe.refl _) rfl hr.mem) hz ⟨fun h => by simp [kind] at h, fun h => ⟨h, Nat.le_refl _⟩, fun _ _ _ _ => rfl⟩
  · obtain ⟨b, cs, rfl, hfr, hh, hcs, hlen, hcell⟩ := hreg.2 (Nat.mul_ne_zero (by omega) (by omega))
    rw [hn]
    have hL : (encs enc L).length = L.length * k := encs_len hk L
    have hL' : (encs enc L').length = L.length * k := by rw [encs_len hk L', hl]
    refine (hsort b W (fun j hj => ?_) (lt_of_heap hh)).mono ?_
    · rw [size_flatK] at hj
      have hj : j < L.length * k := by simpa using hj
      have hc := hcell j _ (flat_get hk L j hj)
      refine ⟨?_, by simp [World.frozen?, hh]⟩
      simp only [World.cell?, hh]
      simpa using hc
    · rintro e W' ⟨rfl, m, os, rfl⟩
      obtain ⟨h1, h2, h3, h4, h5, h6, h7⟩ := sort_world (enc := enc) (k := k) W b T cs hh L'.toArray m os
      have hx' : ExtG B (sortWorldK enc k W b 0 m L'.toArray os) := hr.mem.ext.turn (f := fun q => q = b) (fun q hq => by cases hq; exact hfr) h1 h2 h3 h4 h5 fun q hq hne => h6 q hq hne
      have hM : Mem B (own.set i (.row (some ⟨b, 0, none⟩) T (c * k) (encs enc L'))) (sortWorldK enc k W b 0 m L'.toArray os) := by
        refine hr.mem.upd hi (fun q hq => ⟨hq.1, hq.2⟩) hx' h4 (fun q hq hne => h6 q hq fun e => hne ⟨Nat.mul_ne_zero (by omega) (by omega), _, rfl, e⟩) ⟨fun h => absurd h (Nat.mul_ne_zero (by omega) (by omega)), fun _ => ⟨b, _, rfl, hfr, h7, by simp [putCells, hcs], by rw [hL']; rw [← hL]; exact hlen, fun j v hj => ?_⟩⟩
        have hjl : j < L.length * k := by rw [← hL']; exact (List.getElem?_eq_some_iff.1 hj).1
        rw [flat_get hk L' j (by rw [hl]; exact hjl)] at hj
        have hjc : j < cs.size := by rw [hcs]; rw [hL] at hlen; omega
        cases hj
        simp only [putCells, Array.getElem?_mapIdx, Array.getElem?_eq_getElem hjc, Option.map_some]
        rw [if_pos ⟨Nat.zero_le _, by simp [hl]; exact hjl⟩]
        simp
      refine hnx _ _ _ hN (hr.put (by simpa using hd) _ _ (OLe.set (o' := .row (some ⟨b, 0, none⟩) T (c * k) (encs enc L')) hi rfl) rfl hM) (hz.setne hno) (Kept.mk3 hq (fun h => by simp [kind] at h) (fun _ => ⟨hx', h4⟩) (fun _ q hq hlt' => h6 q hlt' fun e => hz.apart hr.mem hi hno q hq ⟨Nat.mul_ne_zero (by omega) (by omega), _, rfl, e⟩))
end rules
end Go.Proofs.Ytflmehahkcijcaa
