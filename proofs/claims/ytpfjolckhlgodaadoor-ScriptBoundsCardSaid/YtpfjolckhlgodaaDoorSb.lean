/- What the package variables hold, along a call; the library's contracts in the engine's words. -/
import Derived.Test.YtpfjolckhlgodaaDoorSa
import Derived.Test.YtpfjolckhlgodaaDoorWt
import Derived.Test.YtpfjolckhlgodaaDoorWe
import Derived.Test.YtpfjolckhlgodaaDoorSh
import Derived.Lib.AppendIntMem
import Derived.Shelf.Strconv.AtoiAll
import Derived.Lib.AtoiErrMem
namespace Go.Proofs.YtpfjolckhlgodaaDoor
open Go Go.RowKit
set_option linter.unusedSimpArgs false
set_option linter.unusedVariables false
/-- The world has the table that strconv reads, and the variables that strings and strconv read. -/
structure Gl (W : World) : Prop where
  tab : Lib.TabIs Tryd.prog W "internal/strconv.uint64pow10" .u64 Lib.pow10Tab
  mx : ∃ m, W.cell? ⟨0, 0, none⟩ = some (.int .i64 m)
  syn : ∃ ev, W.cell? ⟨1, 0, none⟩ = some ev ∧ (ev = .nilIface ∨ ∃ te pe, ev = .iface te pe)
  rng : ∃ ev, W.cell? ⟨2, 0, none⟩ = some ev ∧ (ev = .nilIface ∨ ∃ te pe, ev = .iface te pe)
theorem cell_kept {w W : World} {b o : Nat} {v : Value} (h : w.cell? ⟨b, o, none⟩ = some v) (hx : ∀ k, k < w.heap.size → W.heap[k]? = w.heap[k]?) : W.cell? ⟨b, o, none⟩ = some v := by
  have hb := lt_of_cell h
  unfold World.cell? at h ⊢
  simp only at h ⊢
  rw [hx b hb]
  exact h
theorem Gl.ext {w W : World} (h : Gl w) (hx : Ext w W) : Gl W :=
  ⟨Lib.tabBelow_of_tabIs h.tab W hx.below, let ⟨m, hm⟩ := h.mx; ⟨m, cell_kept hm hx.below.block⟩, let ⟨e, h1, h2⟩ := h.syn; ⟨e, cell_kept h1 hx.below.block, h2⟩, let ⟨e, h1, h2⟩ := h.rng; ⟨e, cell_kept h1 hx.below.block, h2⟩⟩
/-- So it is at each point of the call. -/
theorem Gl.ofB {w W : World} (h : Gl w) (hx : ExtG (Bas.of w) W) : Gl W := h.ext hx.to
theorem Gl.m {w W : World} {own : Own} (h : Gl w) (hm : Mem (Bas.of w) own W) : Gl W := h.ofB hm.ext
theorem ext_below {w W : World} (h : Below w.heap.size w W) : Ext w W := ⟨h, trivial⟩
theorem ext_grow' (w : World) (k : Nat) (os : Array Obj) : Ext w (Sort.grow (w.drewN k) os) := by
  refine ext_below ⟨rfl, rfl, rfl, ?_, fun i hi => ?_⟩
  · show w.heap.size ≤ (w.heap ++ os).size
    rw [Array.size_append]; omega
  · show (w.heap ++ os)[i]? = w.heap[i]?
    exact Array.getElem?_append_left hi
theorem ext_drew (w : World) (k : Nat) : Ext w (w.drewN k) := ext_below ⟨rfl, rfl, rfl, Nat.le_refl _, fun _ _ => rfl⟩
def strV (l : List UInt8) : Value := .string ⟨l.toArray⟩
theorem itoa_c (n : Int) (h : -9223372036854775808 ≤ n ∧ n ≤ 9223372036854775807) (w : World) (hg : Gl w) : Calls Tryd.prog 24 #[.int .i64 n] w (PV w (strV (Lib.itoa n))) :=
  (Tryd.itoa n h.1 h.2 w hg.tab).mono fun e w' ⟨he, k, os, hw⟩ => ⟨he, hw ▸ ext_grow' w k os⟩
theorem count_c (s : List UInt8) (c : UInt8) (w : World) : Calls Tryd.prog 18 #[strV s, .string ⟨#[c]⟩] w (PV w (.int .i64 (Lib.countByte s c))) :=
  (Tryd.count ⟨s.toArray⟩ c w).mono fun e w' ⟨he, hw⟩ => ⟨by rw [he], hw ▸ Ext.refl w⟩
theorem cut_c (s : List UInt8) (c : UInt8) (hs : s.length < 4294967281) (w : World) (hg : Gl w) : Calls Tryd.prog 19 #[strV s, .string ⟨#[c]⟩] w (PV w (.tuple #[strV (Lib.cut s [c]).1, strV (Lib.cut s [c]).2.1, .bool (Lib.cut s [c]).2.2])) := by
  obtain ⟨m, hm⟩ := hg.mx
  exact (Any.strings_Cut Tryd.laysCut ⟨s.toArray⟩ ⟨#[c]⟩ m w (by simpa [ByteArray.size] using hs) hm).mono fun e w' ⟨he, n, hw⟩ => ⟨he, hw ▸ ext_drew w n⟩
/-- A text as an element of a row. -/
def St.e (s : Bs) : List Value := [strV s]
theorem St.el (s : Bs) : (St.e s).length = 1 := rfl
theorem St.e1 (s : Bs) : (St.e s).all Value.oneCell = true := rfl
theorem encs_st (L : List Bs) : encs St.e L = L.map strV := by
  unfold encs
  induction L with
  | nil => rfl
  | cons x r ih => rw [List.flatMap_cons, ih]; rfl
theorem split_c (s : Bs) (c : UInt8) (hs : s.length < 4294967281) (w : World) (hg : Gl w) : Calls Tryd.prog 32 #[strV s, .string ⟨#[c]⟩] w (PS 9 1 (spl c s).length (encs St.e (spl c s)) w) := by
  obtain ⟨m, hm⟩ := hg.mx
  have h := Any.strings_Split Tryd.laysSplit (by kernel_rfl) ⟨s.toArray⟩ ⟨#[c]⟩ m w (by simpa [ByteArray.size] using hs) hm (Nat.le_refl _)
  have hl := Lib.splitB_all ⟨#[c]⟩ (Nat.le_refl _) 0 (Lib.countB ⟨s.toArray⟩ ⟨#[c]⟩) ⟨s.toArray⟩ rfl
  have hd := Lib.splitB_data ⟨#[c]⟩ 0 (Lib.countB ⟨s.toArray⟩ ⟨#[c]⟩) ⟨s.toArray⟩
  have hsp : Lib.splitK [c] 0 (Lib.countB ⟨s.toArray⟩ ⟨#[c]⟩) s = spl c s := split_spl c s
  have hd : (Lib.splitB ⟨#[c]⟩ 0 (Lib.countB ⟨s.toArray⟩ ⟨#[c]⟩) ⟨s.toArray⟩).map (·.data.toList) = spl c s := hd.trans hsp
  have hlen : (spl c s).length = Lib.countB ⟨s.toArray⟩ ⟨#[c]⟩ + 1 := by rw [← hd, List.length_map, hl]
  have hval : (Lib.splitB ⟨#[c]⟩ 0 (Lib.countB ⟨s.toArray⟩ ⟨#[c]⟩) ⟨s.toArray⟩).map Value.string = encs St.e (spl c s) := by
    rw [encs_st, ← hd, List.map_map]
    rfl
  refine h.mono ?_
  rintro e w' ⟨rfl, rfl⟩
  rw [hval, ← hlen]
  refine ⟨some ⟨w.heap.size, 0, none⟩, (spl c s).length, Nat.le_refl _, by decide, rfl, ExtG.of (Ext.alloc w _), fun q hq => ?_, List.pairwise_singleton _ _⟩
  rw [List.mem_singleton] at hq
  subst hq
  have hel : (encs St.e (spl c s)).length = (spl c s).length * 1 := encs_len St.el _
  refine ⟨fun h0 => absurd h0 (by omega), fun _ => ⟨w.heap.size, (encs St.e (spl c s)).toArray, rfl, .inl (Nat.le_refl _), alloc_new w _, by simpa using hel, by omega, fun j v hj => by simpa using hj⟩⟩
theorem atoi_c (s : Bs) (hs : s.length ≤ 4294967281) (w : World) (hg : Gl w) : Calls Tryd.prog 34 #[strV s] w (PG (fun _ : Value => True) (fun v => .tuple #[.int .i64 (atoiV s), v]) (fun _ => []) w) := by
  have hsz : (ByteArray.mk s.toArray).size ≤ 281474976710656 := by
    show s.toArray.size ≤ _
    simp; omega
  have fin : ∀ (v : Value) (w' : World), Ext w w' → PG (fun _ : Value => True) (fun v => .tuple #[.int .i64 (atoiV s), v]) (fun _ => []) w (.returned (.tuple #[.int .i64 (atoiV s), v])) w' := fun v w' hx =>
    ⟨v, trivial, rfl, ExtG.of hx, fun _ h => absurd h (by simp), List.Pairwise.nil⟩
  have hda : (ByteArray.mk s.toArray).data.toList = s := rfl
  cases ha : Lib.atoiAll s
  · rename_i v
    have hv : atoiV s = v := by unfold atoiV; rw [ha]
    rw [hv] at fin ⊢
    refine (Any.strconv_Atoi_ok Tryd.laysAtoi ⟨s.toArray⟩ (by omega) v ha w).mono ?_
    rintro e w' ⟨rfl, hw⟩
    refine fin _ _ ?_
    rcases hw with rfl | ⟨t, rfl⟩
    · exact Ext.refl _
    · exact ext_below (Lib.bytesWorld_below w _ t)
  · have hv : atoiV s = 0 := by unfold atoiV; rw [ha]
    rw [hv] at fin ⊢
    obtain ⟨ev, h1, h2⟩ := hg.syn
    refine (Any.strconv_Atoi_syntax Tryd.laysAtoi ⟨s.toArray⟩ hsz ha ev w h1 h2).mono ?_
    rintro e w' ⟨N, rfl, _, _, hb⟩
    exact fin _ _ (ext_below hb)
  · have hv : atoiV s = Lib.atoiSat s := by unfold atoiV; rw [ha]
    rw [hv] at fin ⊢
    obtain ⟨ev, h1, h2⟩ := hg.rng
    refine (Any.strconv_Atoi_range Tryd.laysAtoi ⟨s.toArray⟩ hsz ha ev w h1 h2).mono ?_
    rintro e w' ⟨N, rfl, _, _, hb⟩
    exact fin _ _ (ext_below hb)
/-- strings.Join of a row that is read at an address. -/
theorem join_c (L : List Bs) (sep : Bs) (a : Option Addr) (c : Nat) (hN : L.length ≤ 1073741824) (h0 : L ≠ []) (hcap : L.length ≤ c) (hlen : (Lib.join L sep).length ≤ 140737488355328) (w : World) (hr : RdS w a (encs St.e L)) :
    Calls Tryd.prog 25 #[.slice a L.length c, strV sep] w (PV w (strV (Lib.join L sep))) := by
  have hlt : 0 < L.length := by cases L with | nil => exact absurd rfl h0 | cons => simp
  obtain ⟨b, lo, rfl, h1⟩ := hr 0 (strV L[0]) (by rw [encs_st, List.getElem?_map, List.getElem?_eq_getElem hlt]; rfl)
  have hmm : (L.map fun x : Bs => ByteArray.mk x.toArray).map (·.data.toList) = L := by
    rw [List.map_map]
    exact List.map_id _
  have h := Tryd.join b lo c (L.map fun x => ⟨x.toArray⟩) ⟨sep.toArray⟩ w (fun j x hj => by
    rw [List.getElem?_map] at hj
    cases hq : L[j]? with
    | none => rw [hq] at hj; cases hj
    | some y =>
      rw [hq] at hj; cases hj
      obtain ⟨b', lo', e, h2⟩ := hr j (strV y) (by rw [encs_st, List.getElem?_map, hq]; rfl)
      cases e
      exact h2) (lt_of_cell h1) (by simpa using (by omega : L.length ≤ 140737488355328)) (by simpa using hcap) (by rw [hmm]; exact hlen)
  rw [hmm, List.length_map] at h
  exact h.mono fun e w' ⟨he, hw⟩ => ⟨he, ext_below hw⟩
end Go.Proofs.YtpfjolckhlgodaaDoor
