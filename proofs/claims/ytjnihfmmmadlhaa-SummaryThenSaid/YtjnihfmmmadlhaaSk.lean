/- Arguments that are structs or arrays of ints: which values they are. -/
import Derived.Test.YtjnihfmmmadlhaaVl
namespace Go.Proofs.Ytjnihfmmmadlhaa
open Go Go.RowKit Go.ChangeShapes Go.WideShapes Go.ChangeAt
def flatB (P : Program) (t : TypeId) (k : Nat) : Bool :=
  (match P.underlying t with
   | some (.struct _) => true
   | some (.array _ _) => true
   | _ => false) &&
  (match P.cellTypes P.depth t with
   | some ts => Nat.beq ts.length k && Nat.beq (P.cellsOf t) k && Nat.blt 0 k && ts.all fun u => match P.underlying u with
     | some (.int .i64) => true
     | _ => false
   | none => false)
theorem open_flat {P : Program} {w : World} {r : Reach} {b0 : Nat} {t : TypeId} {v : Value} (k : Nat) (hb : flatB P t k = true) (hval : Value.okWide P w r b0 t v) :
    ∃ ns : List Int, v = .agg (ns.map (Value.int .i64)).toArray ∧ ns.length = k ∧ ∀ n ∈ ns, -9223372036854775808 ≤ n ∧ n ≤ 9223372036854775807 := by
  unfold flatB at hb
  simp only [Bool.and_eq_true] at hb
  obtain ⟨h1, h2⟩ := hb
  have hv : ∃ cs, v = .agg cs ∧ cs.size = P.cellsOf t ∧ Row.okWide P w r b0 t cs := by
    unfold Value.okWide at hval
    split at hval
    · exact hval
    · exact hval
    · exfalso
      split at h1 <;> simp_all
  obtain ⟨cs, rfl, hsz, ts, hts, -, hcell⟩ := hv
  rw [hts] at h2
  simp only [Bool.and_eq_true, List.all_eq_true] at h2
  obtain ⟨⟨⟨h3, h4⟩, h5⟩, h6⟩ := h2
  have h3 := Nat.eq_of_beq_eq_true h3
  have h4 := Nat.eq_of_beq_eq_true h4
  have h5 : 0 < k := by simpa using h5
  have key : ∀ (i : Nat) (u : Value), cs[i]? = some u → ∃ n, u = .int .i64 n ∧ -9223372036854775808 ≤ n ∧ n ≤ 9223372036854775807 := by
    intro i u hu
    obtain ⟨ty, hty, hok⟩ := hcell i u hu
    have h7 := h6 ty (List.mem_of_getElem? hty)
    split at h7
    · rename_i hun
      unfold Cell.okWide at hok
      rw [hun] at hok
      simp only at hok
      unfold Cell.ok at hok
      rw [hun] at hok
      cases u with
      | int k' n =>
        simp only at hok
        obtain ⟨rfl, h8, h9⟩ := hok
        exact ⟨n, rfl, h8, h9⟩
      | _ => exact hok.elim
    · cases h7
  refine ⟨cs.toList.map fun u => (match u with | .int _ n => n | _ => 0), ?_, by simp [hsz, h4], ?_⟩
  · congr 1
    apply Array.ext_getElem?
    intro i
    rcases hci : cs[i]? with _ | u
    · simp [hci]
    · obtain ⟨n, rfl, _⟩ := key i u hci
      simp [hci]
  · intro n hn
    obtain ⟨u, hu, rfl⟩ := List.mem_map.1 hn
    obtain ⟨i, hi⟩ := List.getElem?_of_mem hu
    obtain ⟨m, rfl, h8⟩ := key i u (by simpa using hi)
    exact h8
theorem wf64 {n : Int} (h : (Lit.int .i64 n).wf = true) : -9223372036854775808 ≤ n ∧ n ≤ 9223372036854775807 := by
  simp only [Lit.wf, Bool.and_eq_true, decide_eq_true_eq] at h
  exact h
theorem par_ok {P : Program} {f : Func} (h : (f.params.toList.all fun t => P.readableRec t && Nat.blt t P.types.size) = true) : ∀ t ∈ f.params.toList, P.readableRec t = true ∧ t < P.types.size := by
  intro t ht
  have h1 := List.all_eq_true.1 h t ht
  simp only [Bool.and_eq_true] at h1
  exact ⟨h1.1, by simpa using h1.2⟩
theorem own : ownKnob Try.prog.godebug = none := by kernel_rfl
theorem laid : laidOutB Try.prog = true := by kernel_rfl
theorem list7 {ns : List Int} (h : ns.length = 7) : ∃ a b c d e f g, ns = [a, b, c, d, e, f, g] := by
  match ns, h with
  | [a, b, c, d, e, f, g], _ => exact ⟨a, b, c, d, e, f, g, rfl⟩
theorem list5 {ns : List Int} (h : ns.length = 5) : ∃ a b c d e, ns = [a, b, c, d, e] := by
  match ns, h with
  | [a, b, c, d, e], _ => exact ⟨a, b, c, d, e, rfl⟩
end Go.Proofs.Ytjnihfmmmadlhaa
