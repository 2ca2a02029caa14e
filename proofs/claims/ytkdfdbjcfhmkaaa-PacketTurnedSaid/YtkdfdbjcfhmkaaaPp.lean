/- Batches and changes among a law's arguments. -/
import Derived.Test.YtkdfdbjcfhmkaaaWu
import Derived.Test.YtkdfdbjcfhmkaaaPm
namespace Go.Proofs.Ytkdfdbjcfhmkaaa
open Go Go.RowKit Go.ChangeShapes Go.WideShapes Go.ChangeAt
set_option linter.unusedSimpArgs false
def mkRc (ns : List Int) : Rc := match ns with
  | [k, v] => ⟨k, v⟩
  | _ => ⟨0, 0⟩
theorem mkRc_e : ∀ ns : List Int, ns.length = 2 → (mkRc ns).e = ns.map (Value.int .i64)
  | [_, _], _ => rfl
def mkCh (ns : List Int) : Ch := match ns with
  | [p, q, e, d, a, b, c, n] => ⟨p, q, ⟨e, d, a, b, c⟩, n⟩
  | _ => ⟨0, 0, ⟨0, 0, 0, 0, 0⟩, 0⟩
theorem mkCh_e : ∀ ns : List Int, ns.length = 8 → (mkCh ns).e = ns.map (Value.int .i64)
  | [_, _, _, _, _, _, _, _], _ => rfl
theorem open_changes {W : World} {r : Reach} {b0 : Nat} {v : Value} {H : Type} {enc : TypeId × Value → H} {d : DataW H} {ps : List MemPlace} (hval : Value.okWide Try.prog W r b0 35 v)
    (hd : DataW.Trod enc Try.prog W 0 (fun _ => true) true 35 v d ps) : ∃ (L : List Ch) (c : Nat), AS.ok W (.r L.length c (encs Ch.e L)) v :=
  open_rows Ch.el (by decide) mkCh mkCh_e Try.underlying35 (by kernel_rfl) (by kernel_rfl) hval hd
theorem rds_take {W : World} {a : Option Addr} {α : Type} {en : α → List Value} {k : Nat} (hk : ∀ x, (en x).length = k) {L : List α} (n : Nat) (h : RdS W a (encs en L)) : RdS W a (encs en (L.take n)) := by
  rw [encs_take hk]
  intro j v hj
  rw [List.getElem?_take] at hj
  split at hj
  · exact h j v hj
  · cases hj
theorem take_min {α : Type} (L : List α) (n : Nat) : (L.take n).length = min L.length n := by rw [List.length_take, Nat.min_comm]
theorem list8 {cs : List Value} (h : cs.length = 8) : ∃ a b c d e f g i, cs = [a, b, c, d, e, f, g, i] := by
  match cs, h with
  | [a, b, c, d, e, f, g, i], _ => exact ⟨a, b, c, d, e, f, g, i, rfl⟩
theorem open_batch {W : World} {r : Reach} {b0 : Nat} {v : Value} {H : Type} {enc : TypeId × Value → H} {d : DataW H} {ps : List MemPlace} (hval : Value.okWide Try.prog W r b0 34 v)
    (hd : DataW.Trod enc Try.prog W 0 (fun _ => true) true 34 v d ps) : ∃ (p q : Int) (t : Tm) (R : List Rc) (a : Option Addr) (c : Nat), v = bvV p q t a R.length c ∧ RdS W a (encs Rc.e R) ∧ (c ≠ 0 → ∃ b lo, a = some ⟨b, lo, none⟩) ∧ R.length ≤ c := by
  obtain ⟨fuel, hd⟩ := hd
  have hv : ∃ cs, v = .agg cs := by
    unfold Value.okWide at hval
    rw [Try.underlying34] at hval
    obtain ⟨cs, h, _⟩ := hval
    exact ⟨cs, h⟩
  obtain ⟨cs, rfl⟩ := hv
  obtain ⟨cs⟩ := cs
  have hd : DataW.trod enc Try.prog W 0 (fun _ => true) true fuel 34 cs = some (d, ps) := hd
  obtain ⟨xs, n, _, _, hl, hlen, hf⟩ := DataW.trod_struct Try.underlying34 hd
  have h8 : Try.prog.cellsOf 34 = 8 := by kernel_rfl
  have e0 : Try.prog.cellsOf 28 = 2 := by kernel_rfl
  have e1 : Try.prog.cellsOf 31 = 5 := by kernel_rfl
  have e2 : Try.prog.cellsOf 32 = 1 := by kernel_rfl
  rw [h8] at hl
  obtain ⟨c0, c1, c2, c3, c4, c5, c6, c7, rfl⟩ := list8 hl
  have hlen : xs.length = 3 := hlen
  obtain ⟨y0, y1, y2, rfl⟩ : ∃ y0 y1 y2, xs = [y0, y1, y2] := by
    match xs, hlen with
    | [a, b, c], _ => exact ⟨a, b, c, rfl⟩
  have f0 : DataW.trod enc Try.prog W 0 (fun _ => true) true n 28 (([c0, c1, c2, c3, c4, c5, c6, c7].drop 0).take (Try.prog.cellsOf 28)) = some y0 := hf 0 _ rfl
  have f1 : DataW.trod enc Try.prog W 0 (fun _ => true) true n 31 (([c0, c1, c2, c3, c4, c5, c6, c7].drop 2).take (Try.prog.cellsOf 31)) = some y1 := hf 1 _ rfl
  have f2 : DataW.trod enc Try.prog W 0 (fun _ => true) true n 32 (([c0, c1, c2, c3, c4, c5, c6, c7].drop 7).take (Try.prog.cellsOf 32)) = some y2 := hf 2 _ rfl
  rw [e0] at f0
  rw [e1] at f1
  rw [e2] at f2
  have f0 : DataW.trod enc Try.prog W 0 (fun _ => true) true n 28 [c0, c1] = some y0 := f0
  have f1 : DataW.trod enc Try.prog W 0 (fun _ => true) true n 31 [c2, c3, c4, c5, c6] = some y1 := f1
  have f2 : DataW.trod enc Try.prog W 0 (fun _ => true) true n 32 [c7] = some y2 := f2
  obtain ⟨-, g0⟩ := trod_ints 6 28 2 (by kernel_rfl) f0
  obtain ⟨-, g1⟩ := trod_ints 6 31 5 (by kernel_rfl) f1
  obtain ⟨R, a, c, h1, h2, h3, h4⟩ := open_rowsL Rc.el (by decide) mkRc mkRc_e Try.underlying32 (by kernel_rfl) (by kernel_rfl) f2
  obtain ⟨p, rfl⟩ := g0 c0 (by simp)
  obtain ⟨q, rfl⟩ := g0 c1 (by simp)
  obtain ⟨z0, rfl⟩ := g1 c2 (by simp)
  obtain ⟨z1, rfl⟩ := g1 c3 (by simp)
  obtain ⟨z2, rfl⟩ := g1 c4 (by simp)
  obtain ⟨z3, rfl⟩ := g1 c5 (by simp)
  obtain ⟨z4, rfl⟩ := g1 c6 (by simp)
  simp only [List.cons.injEq, and_true] at h1
  subst h1
  exact ⟨p, q, ⟨z0, z1, z2, z3, z4⟩, R, a, c, rfl, h2, h3, h4⟩
end Go.Proofs.Ytkdfdbjcfhmkaaa
