/- From the walk of a law to its statement: the arguments read as they did, the answer is true. -/
import Derived.Test.YtpfjolckhlgodaaDoorWt
import Derived.Test.YtpfjolckhlgodaaDoorWm
import Derived.Test.YtpfjolckhlgodaaDoorRows
import Derived.ProofKit
import Derived.OpenShut
import Derived.ChangeSame
import Derived.Carry
import Derived.Deep.SlicePairs
namespace Go.Proofs.YtpfjolckhlgodaaDoor
open Go Go.RowKit Go.ChangeShapes Go.WideShapes Go.ChangeAt
section
variable {H : Type} {enc : TypeId × Value → H} {P : Program}
theorem trodAll_stays (hl : laidOutB P = true) {W W' : World} {sp' : Nat → Bool} : ∀ {ts : List TypeId} {vs : List Value} {ds : List (DataW H)} {ps : List MemPlace}, (∀ t ∈ ts, P.readableRec t = true ∧ t < P.types.size) →
    DataW.TrodAll enc P W 0 (fun _ => true) true ts vs ds ps → (∀ p ∈ ps, W.sameAt W' p) → (∀ p ∈ ps, sp' p.block = true) → DataW.TrodAll enc P W' 0 sp' true ts vs ds ps
  | [], vs, ds, ps, _, h, _, _ => by
    cases vs <;> cases ds <;> simp_all [DataW.TrodAll]
  | t :: ts, vs, ds, ps, ht, h, hs, hp => by
    cases vs with
    | nil => cases ds <;> simp [DataW.TrodAll] at h
    | cons v vs =>
      cases ds with
      | nil => simp [DataW.TrodAll] at h
      | cons d ds =>
        obtain ⟨p, q, h1, h2, rfl⟩ := h
        obtain ⟨r1, r2⟩ := ht t (List.mem_cons_self ..)
        exact ⟨p, q, WideElems.Trod_stays hl r1 r2 h1 (fun x hx => hs x (List.mem_append_left _ hx)) (fun x hx => hp x (List.mem_append_left _ hx)),
          trodAll_stays hl (fun u hu => ht u (List.mem_cons_of_mem _ hu)) h2 (fun x hx => hs x (List.mem_append_right _ hx)) (fun x hx => hp x (List.mem_append_right _ hx)), rfl⟩
theorem trodAll_len {W : World} {base : Nat} {sp : Nat → Bool} {hd : Bool} : ∀ {ts : List TypeId} {vs : List Value} {ds : List (DataW H)} {ps : List MemPlace}, DataW.TrodAll enc P W base sp hd ts vs ds ps → ds.length = ts.length ∧ vs.length = ts.length
  | [], vs, ds, ps, h => by cases vs <;> cases ds <;> simp_all [DataW.TrodAll]
  | t :: ts, vs, ds, ps, h => by
    cases vs with
    | nil => cases ds <;> simp [DataW.TrodAll] at h
    | cons v vs =>
      cases ds with
      | nil => simp [DataW.TrodAll] at h
      | cons d ds =>
        obtain ⟨p, q, _, h2, _⟩ := h
        have := trodAll_len h2
        exact ⟨by simp [this.1], by simp [this.2]⟩

theorem law_body {f : Func} {s : ChangeSpec} {apart fresh handsOn again : Bool} {W W' : World} {args : Array Value} {ds gs : List (DataW H)} {before : List MemPlace} {tb : TypeId} {e : Ending}
    (hl : laidOutB P = true) (hpar : ∀ t ∈ f.params.toList, P.readableRec t = true ∧ t < P.types.size) (hvars : s.vars = []) (hres : f.resultTypes = #[tb]) (htb : P.underlying tb = some .bool)
    (hfn : ∀ ds : List (DataW H), ds.length = f.params.toList.length → (s.fn H ds).results = [.lit (.bool true)] ∧ (s.fn H ds).args = ds ∧ (s.fn H ds).vars = [])
    (hW : DataW.Whole enc P f.params.toList s.vars apart W args.toList ds gs before) (h : PV W (.bool true) e W') : ∃ v, e = .returned v ∧ s.post enc P f apart fresh handsOn again W args v W' := by
  obtain ⟨rfl, hx⟩ := h
  refine ⟨_, rfl, ?_⟩
  have hb := hx.below
  have hlt : ∀ p ∈ before, p.block < W.heap.size := fun p hp => hW.lt p hp
  have hold : ∀ p ∈ before, (fun b => decide (b < W.heap.size)) p.block = true := fun p hp => by simpa using hlt p hp
  have hW0 := hW
  obtain ⟨p, q, hA, hV, hpq, hz, hn⟩ := hW
  rw [hvars] at hV
  obtain ⟨rfl, rfl⟩ := trodVars_none hV
  rw [List.append_nil] at hpq
  subst hpq
  have hlen := trodAll_len hA
  obtain ⟨f1, f2, f3⟩ := hfn ds hlen.1
  have hargs : ∀ sp : Nat → Bool, (∀ x ∈ before, sp x.block = true) → DataW.TrodAll enc P W' 0 sp true f.params.toList args.toList ds before := fun sp hsp =>
    trodAll_stays hl hpar hA (fun x hx => hb.same (hlt x hx)) hsp
  have hr : ∀ (b : Nat) (sp : Nat → Bool) (hd : Bool), DataW.TrodAll enc P W' b sp hd f.resultTypes.toList ((Value.bool true).resultList f.resultTypes.size) [.lit (.bool true)] [] := fun b sp hd => by
    rw [hres]
    exact trodAll_cons_mk (shut_bool htb _) trodAll_mk0
  have hv : ∀ sp : Nat → Bool, DataW.TrodVars enc P W' sp s.vars [] [] := fun sp => by rw [hvars]; rfl
  refine ⟨ds, [], before, [], before, [], hW0, ?_, ?_, ?_, World.keptBut_mono (fun x hx => ⟨hx, .inr (by simpa using hx)⟩) (hb.frame (· ∈ before)), fun _ => ?_⟩
  · rw [List.append_nil, f1]; exact hr _ _ _
  · rw [List.append_nil, f2]; exact hargs _ hold
  · rw [List.append_nil, f3]; exact hv _
  · refine ⟨?_, _, _, ([] ++ before) ++ [], ⟨[] ++ before, [], trodAll_append (hargs _ (fun _ _ => rfl)) (hr _ _ _), hv _, rfl, ?_, ?_⟩, ?_⟩
    · intro j t r hj hv'
      rw [hres] at hj hv'
      match j, hj, hv' with
      | 0, hj, hv' =>
        simp [Value.resultList] at hj hv'
        subst hj; subst hv'
        exact okWide_bool_mk htb _
    · intro b off hp
      have hin : MemPlace.cell b off ∈ before := by simpa using hp
      rw [hb.frozen (hlt _ hin)]
      exact hz b off (by simpa using hin)
    · intro ha
      simpa using hn ha
    · intro x hx _
      simpa using hx
end
def flatB (P : Program) (t : TypeId) (k : Nat) : Bool :=
  (match P.underlying t with
   | some (.struct _) => true
   | some (.array _ _) => true
   | _ => false) &&
  (match P.cellTypes P.depth t with
   | some ts => Nat.beq ts.length k && Nat.beq (P.cellsOf t) k && Nat.blt 0 k && ts.all fun u => match P.underlying u with
     | some (.int .i64) => true
     | _ => false
   | none => false)
theorem open_flat {P : Program} {w : World} {r : Reach} {b0 : Nat} {t : TypeId} {v : Value} (k : Nat) (hb : flatB P t k = true) (hval : Value.okWide P w r b0 t v) :
    ∃ ns : List Int, v = .agg (ns.map (Value.int .i64)).toArray ∧ ns.length = k ∧ ∀ n ∈ ns, -9223372036854775808 ≤ n ∧ n ≤ 9223372036854775807 := by
  unfold flatB at hb
  simp only [Bool.and_eq_true] at hb
  obtain ⟨h1, h2⟩ := hb
  have hv : ∃ cs, v = .agg cs ∧ cs.size = P.cellsOf t ∧ Row.okWide P w r b0 t cs := by
    unfold Value.okWide at hval
    split at hval
    · exact hval
    · exact hval
    · exfalso
      split at h1 <;> simp_all
  obtain ⟨cs, rfl, hsz, ts, hts, -, hcell⟩ := hv
  rw [hts] at h2
  simp only [Bool.and_eq_true, List.all_eq_true] at h2
  obtain ⟨⟨⟨h3, h4⟩, h5⟩, h6⟩ := h2
  have h3 := Nat.eq_of_beq_eq_true h3
  have h4 := Nat.eq_of_beq_eq_true h4
  have h5 : 0 < k := by simpa using h5
  have key : ∀ (i : Nat) (u : Value), cs[i]? = some u → ∃ n, u = .int .i64 n ∧ -9223372036854775808 ≤ n ∧ n ≤ 9223372036854775807 := by
    intro i u hu
    obtain ⟨ty, hty, hok⟩ := hcell i u hu
    have h7 := h6 ty (List.mem_of_getElem? hty)
    split at h7
    · rename_i hun
      unfold Cell.okWide at hok
      rw [hun] at hok
      simp only at hok
      unfold Cell.ok at hok
      rw [hun] at hok
      cases u with
      | int k' n =>
        simp only at hok
        obtain ⟨rfl, h8, h9⟩ := hok
        exact ⟨n, rfl, h8, h9⟩
      | _ => exact hok.elim
    · cases h7
  refine ⟨cs.toList.map fun u => (match u with | .int _ n => n | _ => 0), ?_, by simp [hsz, h4], ?_⟩
  · congr 1
    apply Array.ext_getElem?
    intro i
    rcases hci : cs[i]? with _ | u
    · simp [hci]
    · obtain ⟨n, rfl, _⟩ := key i u hci
      simp [hci]
  · intro n hn
    obtain ⟨u, hu, rfl⟩ := List.mem_map.1 hn
    obtain ⟨i, hi⟩ := List.getElem?_of_mem hu
    obtain ⟨m, rfl, h8⟩ := key i u (by simpa using hi)
    exact h8
theorem wf64 {n : Int} (h : (Lit.int .i64 n).wf = true) : -9223372036854775808 ≤ n ∧ n ≤ 9223372036854775807 := by
  simp only [Lit.wf, Bool.and_eq_true, decide_eq_true_eq] at h
  exact h
theorem par_ok {P : Program} {f : Func} (h : (f.params.toList.all fun t => P.readableRec t && Nat.blt t P.types.size) = true) : ∀ t ∈ f.params.toList, P.readableRec t = true ∧ t < P.types.size := by
  intro t ht
  have h1 := List.all_eq_true.1 h t ht
  simp only [Bool.and_eq_true] at h1
  exact ⟨h1.1, by simpa using h1.2⟩
theorem own : ownKnob Tryd.prog.godebug = none := by kernel_rfl
theorem laid : laidOutB Tryd.prog = true := by kernel_rfl
theorem list7 {ns : List Int} (h : ns.length = 7) : ∃ a b c d e f g, ns = [a, b, c, d, e, f, g] := by
  match ns, h with
  | [a, b, c, d, e, f, g], _ => exact ⟨a, b, c, d, e, f, g, rfl⟩
theorem list2 {ns : List Int} (h : ns.length = 2) : ∃ a b, ns = [a, b] := by
  match ns, h with
  | [a, b], _ => exact ⟨a, b, rfl⟩
theorem list5 {ns : List Int} (h : ns.length = 5) : ∃ a b c d e, ns = [a, b, c, d, e] := by
  match ns, h with
  | [a, b, c, d, e], _ => exact ⟨a, b, c, d, e, rfl⟩
/-- The cells of a slice, element by element. -/
theorem rd_encs {α : Type} {enc : α → List Value} {k : Nat} (hk : ∀ x, (enc x).length = k) {W : World} {b lo : Nat} {L : List α} (h : ∀ (m : Nat) (hm : m < L.length) (r : Nat) (v : Value), (enc L[m])[r]? = some v → W.cell? ⟨b, lo + (m * k + r), none⟩ = some v) :
    RdS W (some ⟨b, lo, none⟩) (encs enc L) := by
  intro j v hj
  refine ⟨b, lo, rfl, ?_⟩
  have hl := (List.getElem?_eq_some_iff.1 hj).1
  rw [encs_len hk] at hl
  have h0 : 0 < k := by rcases Nat.eq_zero_or_pos k with e | e; subst e; simp at hl; exact e
  have hm : j / k < L.length := Nat.div_lt_of_lt_mul (by rw [Nat.mul_comm]; exact hl)
  have e : j / k * k + j % k = j := by rw [Nat.mul_comm]; exact Nat.div_add_mod j k
  have := h (j / k) hm (j % k) v (by rw [← encs_get hk L (j / k) (j % k) hm (Nat.mod_lt _ h0), e]; exact hj)
  rwa [e] at this
theorem slice_value {P : Program} {w : World} {r : Reach} {b0 : Nat} {t e : TypeId} {v x : Value} (ht : P.underlying t = some (.slice e)) (hval : Value.okWide P w r b0 t v) (hv : v.cells.toList = [x]) : v = x := by
  unfold Value.okWide at hval
  rw [ht] at hval
  simp only at hval
  unfold Cell.okWide at hval
  rw [ht] at hval
  simp only at hval
  unfold Cell.ok at hval
  rw [ht] at hval
  cases v <;> first | exact hval.elim | (simpa [Value.cells] using hv) | (simp only at hval)
end Go.Proofs.YtpfjolckhlgodaaDoor
