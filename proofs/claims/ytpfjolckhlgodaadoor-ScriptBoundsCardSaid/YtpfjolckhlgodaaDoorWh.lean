/- Ranges over functions: an iterator's contract, its rounds, the statement; slices as values. -/
import Derived.Test.YtpfjolckhlgodaaDoorWg
import Derived.RangeFuncSeq
namespace Go.Proofs.YtpfjolckhlgodaaDoor
open Go Go.RowKit
def gAll (W : World) : Bas := ⟨W, fun _ => True⟩
/-- An iterator's value: it gives xs, one behind the other, to whatever loop; Rd: what it leans on. -/
def SeqC (C : Ctx) (f : Nat) (lb : List Value) (Rd : World → Prop) (xs : List (List Value)) : Prop :=
  ∀ (l : Nat) (J : Nat → World → Prop) (W : World), J 0 W → (∀ k W1, J k W1 → Rd W1) →
    (∀ k W1 W2, J k W1 → ExtG (gAll W) W2 → W1.heap.size ≤ W2.heap.size → (∀ b, b < W1.heap.size → W2.heap[b]? = W1.heap[b]?) → J k W2) →
    (∀ k x, xs[k]? = some x → ∀ W1, J k W1 → YieldAt (Fw none) 0 C.P l x.toArray W1 fun e W2 => e = .returned (.bool true) ∧ J (k + 1) W2 ∧ ExtG (gAll W1) W2) →
    Calls C.P f ((.func (.yield l) #[] #[]) :: lb).toArray W fun e W' => (∃ v, e = .returned v) ∧ J xs.length W' ∧ ExtG (gAll W) W'
section rules
variable {C : Ctx} {B : Bas} {nt : Nat} {ρ : Option Nat} {env : Env} {own : Own} {dfs : List Deferred} {K : Exit → St → Prop} {σ : St}

/-! ### within an iterator -/
theorem mask_nofp {o : OB} (h : o ∈ mask [] 0 own) : (∃ a xs, o = .ro a xs) ∨ ∃ a, o = .dead a := by
  obtain ⟨j, hj⟩ := List.getElem?_of_mem h
  obtain ⟨o', _, _, ⟨rfl, ⟨a, xs, rfl⟩ | h0⟩ | rfl⟩ := mask_cases [] hj
  · exact .inl ⟨a, xs, rfl⟩
  · cases h0
  · exact .inr ⟨_, rfl⟩
theorem jl_yield {ops : Array Oper} {rest : List Oper} {J : Nat → World → Prop} {l k i d : Nat} {f : Nat → Prop} {fo : Operand} {xs : List Operand} {vs : List Value} {at_ : Array TypeId} {ty : TypeId} {pos : String} {af : Array Edge} {g : Option (Nat × Bool)}
    (hgv : ∀ b, B.gv b) (hg : gst ops env g = some true) (hf : ev env fo = some (.v (.func (.yield l) ⟨[]⟩ ⟨[]⟩))) (hxs : argsV env own xs = some vs) (hd : Nat.blt d nt = true) (hi : nth own i = some (.abs f (J k)))
    (hY : ∀ W1, J k W1 → YieldAt (Fw none) 0 C.P l vs.toArray W1 fun e W2 => e = .returned (.bool true) ∧ J (k + 1) W2 ∧ ExtG (gAll W1) W2)
    (hA : ∀ k W1 W2, J k W1 → ExtG (gAll B.w) W2 → W1.heap.size ≤ W2.heap.size → (∀ b, b < W1.heap.size → W2.heap[b]? = W1.heap[b]?) → J k W2)
    {own' : (Nat → Prop) → Own} (hw : ∀ f', forceK ((mask [] 0 own).set i (.abs f' (J (k + 1)))) some = some (own' f'))
    (h : ∀ f', JL C B nt none ops K rest ⟨(d, .v (.bool true)) :: env, own' f', dfs⟩) :
    JL C B nt none ops K (⟨some d, .call ⟨.value fo, ⟨xs⟩, at_⟩, ty, pos, af, g⟩ :: rest) ⟨env, own, dfs⟩ := by
  intro a W hr
  unfold wpListI
  rw [if_pos (gst_spec hr hg rfl)]
  refine ⟨fun _ _ => trivial, ?_⟩
  rw [Oper.semAt_eq _ _ _ (fun c h => by cases h)]
  rw [nth_eq] at hi
  have hreg := hr.mem.at hi
  obtain ⟨fn, tmps, assign, body, hy, hR⟩ := hY W hreg.2.1
  have hm : xs.toArray.map a.eval = (xs.map a.eval).toArray := by rw [List.map_toArray]
  have hrun : (execOp a.eval ⟨some d, .call ⟨.value fo, ⟨xs⟩, at_⟩, ty, pos, af, g⟩).run C.P W = .ok (.round l fn tmps assign body) W := by
    simp only [execOp, resolve, hm, hr.atv hf, argsV_eval hr hxs, Deferred.ofValue, Sem.run_bind, Sem.run_pure, Result.andThen_ok, invoke]
    simpa using hy
  rw [hrun, Oper.uponIn_round]
  refine ⟨fun hx => by simp [Fw] at hx, hR.mono ?_⟩
  rintro e W' ⟨rfl, hJ, hx⟩
  have hlt := (List.getElem?_eq_some_iff.1 hi).1
  have hk : (mask [] 0 own)[i]? = some (.dead none) := by rw [mask_at, hi]; rfl
  have hml : i < (mask [] 0 own).length := (List.getElem?_eq_some_iff.1 hk).1
  have hxB : ExtG B W' := ⟨hx.os.trans hr.mem.ext.os, hx.tape.trans hr.mem.ext.tape, hx.output.trans hr.mem.ext.output, Nat.le_trans hr.mem.ext.size hx.size, hr.mem.ext.drawn.trans hx.drawn, fun b _ hn => absurd (hgv b) hn⟩
  have hM : Mem B ((mask [] 0 own).set i (.abs (fun b => b < W'.heap.size) (J (k + 1)))) W' := by
    have hm0 := hr.mem.mask []
    refine ⟨hxB, fun q hq => ?_, pairwise_of fun u v q q' hu hv hne => ?_⟩
    · obtain ⟨j, hj⟩ := List.getElem?_of_mem hq
      by_cases e : i = j
      · subst e; rw [List.getElem?_set_self hml] at hj; cases hj
        exact ⟨fun b hb => ⟨.inr (hgv b), hb⟩, hJ, fun W2 hx2 hs2 hb2 => hA _ W' W2 hJ ⟨hx2.os, hx2.tape, hx2.output, hx2.size, hx2.drawn, fun _ _ h => absurd trivial h⟩ hs2 hb2⟩
      · rw [List.getElem?_set_ne e] at hj
        rcases mask_nofp (List.mem_of_getElem? hj) with ⟨a, ys, rfl⟩ | ⟨a, rfl⟩
        · exact hm0.at hj
        · trivial
    · have nofp : ∀ j q, j ≠ i → ((mask [] 0 own).set i (.abs (fun b => b < W'.heap.size) (J (k + 1))))[j]? = some q → ∀ b, ¬ q.fp b := fun j q hji hj b => by
        rw [List.getElem?_set_ne (Ne.symm hji)] at hj
        rcases mask_nofp (List.mem_of_getElem? hj) with ⟨a, ys, rfl⟩ | ⟨a, rfl⟩ <;> exact fun hf => hf
      by_cases e : u = i
      · exact fun b _ hb' => nofp v q' (fun e' => hne (e.trans e'.symm)) hv b hb'
      · exact fun b hb => absurd hb (nofp u q e hu b)
  have hww := hw (fun b => b < W'.heap.size)
  rw [forceK_eq] at hww
  have h' := h (fun b => b < W'.heap.size)
  rw [← Option.some.inj hww] at h'
  exact h' _ _ (hr.put (by simpa using hd) _ _ ((mask_le []).trans (OLe.set hk rfl)) rfl hM)
/-- A cell that the rounds keep. -/
theorem ov_labs {dst : Option Tmp} {T : TypeId} {x : Operand} {ty : TypeId} {pos : String} {af : Array Edge} {g : Option (Nat × Bool)} {b o i : Nat} {t : Ty} {vs : List Value} {r : Value} {f : Nat → Prop} {inv : World → Prop} (hx : ev env x = some (.v (.pointer (some ⟨b, o, none⟩)))) (ht : C.ent T = some t) (hl : Nat.beq vs.length t.size = true) (hr : ldV t.agg vs = some r) (hi : nth own i = some (.abs f inv))
    (h : ∀ W, inv W → ∀ (j : Nat) (v : Value), vs[j]? = some v → W.cell? ⟨b, o + j, none⟩ = some v) : OV C B nt ⟨dst, .load T x, ty, pos, af, g⟩ (.v r) ⟨env, own, dfs⟩ := by
  intro a W hrel
  refine ⟨_, rfl, fun w hw => ?_⟩
  rw [nth_eq] at hi
  have hrun : (loadVar T ⟨b, o, none⟩).run C.P w = .ok r w := load_run (C.ok _ t ht) (Nat.eq_of_beq_eq_true hl) (fun j v hj => h w (hw.at hi).2.1 j v hj) hr
  simp only [execOp, hrel.atv hx, Instr.loadAt, Instr.sureAddr, Sem.run_bind, Sem.run_pure, Result.andThen_ok, hrun]
/-- The address of an element of a slice that is told as a value. -/
theorem ov_idxp {dst : Option Tmp} {T : TypeId} {x y : Operand} {ty : TypeId} {pos : String} {af : Array Edge} {g : Option (Nat × Bool)} {b lo n c m es : Nat} {k : IntKind} {z : Int} {t : Ty} (hx : ev env x = some (.v (.slice (some ⟨b, lo, none⟩) n c))) (hy : ev env y = some (.v (.int k z))) (ht : C.ent T = some t) (he : elemSize C t = some es) (hz : intOf2 z = some m) (hm : m < n) (hc : n ≤ c) :
    OV C B nt ⟨dst, .indexAddr T x y, ty, pos, af, g⟩ (.v (.pointer (some ⟨b, lo + m * es, none⟩))) ⟨env, own, dfs⟩ := by
  intro a W hr
  obtain ⟨v, hv, hrun⟩ := index_s (own := [.ro (some ⟨b, lo, none⟩) []]) (i := 0) (off := 0) (k := k) (u := a.eval x) ht he hm hc ⟨_, some ⟨b, lo, none⟩, rfl, hr.atv hx, fun _ => ⟨b, lo, rfl, rfl⟩⟩
  obtain ⟨o, b', lo', ho, hk, rfl⟩ := hv
  cases ho; cases hk
  refine ⟨_, rfl, fun w _ => ?_⟩
  rw [intOf2_eq hz] at hy
  simp only [execOp, hr.atv hy, Sem.run_bind, hrun, Result.andThen_ok]
  simp only [Sem.run_pure, Nat.zero_add]

/-! ### slices as values -/
/-- A slice told as a value, whose row is known by its address. -/
theorem rel_unname {a : Act} {W : World} {d i n c T k : Nat} {ad : Option Addr} {xs : List Value} (hr : Rel B nt ⟨env, own, dfs⟩ a W) (hd : eget env d = some (.v (.slice ad n c))) (hi : nth own i = some (.row ad T (c * k) xs)) (hk : 0 < k) : Rel B nt ⟨(d, .s i 0 n c) :: env, own, dfs⟩ a W := by
  refine ⟨hr.size, hr.defers, fun d' e he => ?_, hr.mem⟩
  by_cases h : d = d'
  · subst h
    rw [eget_cons_self] at he; cases he
    rw [nth_eq] at hi
    refine ⟨_, ad, hi, hr.env d _ hd, fun h0 => ?_⟩
    obtain ⟨b, cs, hb, _⟩ := (hr.mem.at hi).2 (Nat.mul_ne_zero h0 (by omega))
    exact ⟨b, 0, hb, hb⟩
  · rw [eget_cons_ne h] at he
    exact hr.env d' e he
theorem jl_unname {ops : Array Oper} {l : List Oper} (d i : Nat) {n c T k : Nat} {ad : Option Addr} {xs : List Value} (hd : eget env d = some (.v (.slice ad n c))) (hi : nth own i = some (.row ad T (c * k) xs)) (hk : 0 < k) (h : JL C B nt ρ ops K l ⟨(d, .s i 0 n c) :: env, own, dfs⟩) : JL C B nt ρ ops K l ⟨env, own, dfs⟩ :=
  fun a W hr => h a W (rel_unname hr hd hi hk)
theorem jo_unname {ops : Array Oper} {zs : List Nat} {l : Ord} (d i : Nat) {n c T k : Nat} {ad : Option Addr} {xs : List Value} (hd : eget env d = some (.v (.slice ad n c))) (hi : nth own i = some (.row ad T (c * k) xs)) (hk : 0 < k) (h : JO C B nt ops zs K l ⟨(d, .s i 0 n c) :: env, own, dfs⟩) : JO C B nt ops zs K l ⟨env, own, dfs⟩ :=
  .weak (fun _ : Unit => ⟨(d, .s i 0 n c) :: env, own, dfs⟩) (fun _ _ hr => ⟨(), rel_unname hr hd hi hk⟩) (fun _ _ hz => hz) (fun _ => h)
/-- A slice of a row of the call's own is told as a value. -/
theorem rel_name {a : Act} {W : World} {d i n c T k : Nat} {ad : Option Addr} {xs : List Value} (hr : Rel B nt ⟨env, own, dfs⟩ a W) (hd : eget env d = some (.s i 0 n c)) (hi : nth own i = some (.row ad T (c * k) xs)) (hk : 0 < k) :
    ∃ ad', Rel B nt ⟨(d, .v (.slice ad' n c)) :: env, snoc (own.set i (.dead ad)) (.row ad' T (c * k) xs), dfs⟩ a W := by
  rw [nth_eq] at hi
  obtain ⟨o, ad', ho, hu, hc⟩ := hr.env d _ hd
  simp only at ho hu
  rw [hi] at ho; cases ho
  have hlt := (List.getElem?_eq_some_iff.1 hi).1
  have hset : own.set i (.row ad T (c * k) xs) = own := by
    apply List.ext_getElem?
    intro j
    by_cases e : i = j
    · subst e; rw [List.getElem?_set_self hlt, hi]
    · rw [List.getElem?_set_ne e]
  have hm : Mem B (own.set i (.row ad T (c * k) xs)) W := by rw [hset]; exact hr.mem
  have hle : OLe own ((own.set i (.dead ad)) ++ [.row ad' T (c * k) xs]) := (OLe.set (o' := .dead ad) hi rfl).trans (OLe.app _ _)
  have hmem : Mem B ((own.set i (.dead ad)) ++ [.row ad' T (c * k) xs]) W := by
    by_cases h0 : c = 0
    · subst h0
      have hr0 := (hr.mem.at hi).1 (by simp)
      subst hr0
      exact (hr.mem.kill i ad).push hr.mem.ext (Nat.le_refl _) (fun _ _ => rfl) ⟨fun _ => rfl, fun h => absurd (by simp) h⟩ (fun b hb => absurd (by simp) hb.1)
    · obtain ⟨b, lo, hk1, hk2⟩ := hc h0
      have hk1 : ad = some ⟨b, lo, none⟩ := hk1
      have : ad' = ad := by rw [hk2, hk1]; rfl
      subst this
      exact hm.move hlt
  refine ⟨ad', hr.size, hr.defers, fun d' e he => ?_, by rw [snoc_eq]; exact hmem⟩
  rw [snoc_eq]
  by_cases h : d = d'
  · subst h
    rw [eget_cons_self] at he; cases he
    exact hu
  · rw [eget_cons_ne h] at he
    exact (hr.env d' e he).le hle
theorem jo_name {ops : Array Oper} {zs : List Nat} {l : Ord} (d : Nat) {i n c T k : Nat} {ad : Option Addr} {xs : List Value} (hd : eget env d = some (.s i 0 n c)) (hi : nth own i = some (.row ad T (c * k) xs)) (hk : 0 < k) (hno : notIn zs i = true) {own' : Option Addr → Own} (hw : ∀ a, forceK (snoc (own.set i (.dead ad)) (.row a T (c * k) xs)) some = some (own' a))
    (h : ∀ a, JO C B nt ops zs K l ⟨(d, .v (.slice a n c)) :: env, own' a, dfs⟩) : JO C B nt ops zs K l ⟨env, own, dfs⟩ := by
  have e : ∀ a, snoc (own.set i (.dead ad)) (.row a T (c * k) xs) = own' a := fun a => by
    have := hw a
    rw [forceK_eq] at this
    exact Option.some.inj this
  refine .weak (fun a => ⟨(d, .v (.slice a n c)) :: env, own' a, dfs⟩) (fun a W hr => ?_) (fun a Z hz => ?_) h
  · obtain ⟨ad', hr'⟩ := rel_name hr hd hi hk
    exact ⟨ad', by rw [← e]; exact hr'⟩
  · show ZOk (own' a) zs Z
    rw [← e, snoc_eq]
    exact (hz.setne (notIn_spec hno)).app
theorem jl_name {ops : Array Oper} {l : List Oper} (d : Nat) {i n c T k : Nat} {ad : Option Addr} {xs : List Value} (hd : eget env d = some (.s i 0 n c)) (hi : nth own i = some (.row ad T (c * k) xs)) (hk : 0 < k) {own' : Option Addr → Own} (hw : ∀ a, forceK (snoc (own.set i (.dead ad)) (.row a T (c * k) xs)) some = some (own' a))
    (h : ∀ a, JL C B nt ρ ops K l ⟨(d, .v (.slice a n c)) :: env, own' a, dfs⟩) : JL C B nt ρ ops K l ⟨env, own, dfs⟩ := fun a W hr => by
  obtain ⟨ad', hr'⟩ := rel_name hr hd hi hk
  have := hw ad'
  rw [forceK_eq] at this
  have h' := h ad'
  rw [← Option.some.inj this] at h'
  exact h' a W hr'
/-- A slice of what was there is told as a value. -/
theorem rel_name_ro {a : Act} {W : World} {d i n c : Nat} {ad : Option Addr} {xs : List Value} (hr : Rel B nt ⟨env, own, dfs⟩ a W) (hd : eget env d = some (.s i 0 n c)) (hi : nth own i = some (.ro ad xs)) (h0 : c = 0 → xs = []) :
    ∃ ad', (c ≠ 0 → ∃ b lo, ad' = some ⟨b, lo, none⟩) ∧ Rel B nt ⟨(d, .v (.slice ad' n c)) :: env, snoc own (.ro ad' xs), dfs⟩ a W := by
  rw [nth_eq] at hi
  obtain ⟨o, ad', ho, hu, hc⟩ := hr.env d _ hd
  simp only at ho hu
  rw [hi] at ho; cases ho
  refine ⟨ad', fun h => let ⟨b, lo, _, h2⟩ := hc h; ⟨b, lo + 0, h2⟩, hr.size, hr.defers, fun d' e he => ?_, ?_⟩
  · rw [snoc_eq]
    by_cases h : d = d'
    · subst h
      rw [eget_cons_self] at he; cases he
      exact hu
    · rw [eget_cons_ne h] at he
      exact (hr.env d' e he).le (OLe.app _ _)
  · rw [snoc_eq]
    refine hr.mem.push hr.mem.ext (Nat.le_refl _) (fun _ _ => rfl) ?_ (fun b hb => hb.elim)
    intro j v hj
    have hne : c ≠ 0 := fun e => by rw [h0 e] at hj; simp at hj
    obtain ⟨b, lo, hk1, hk2⟩ := hc hne
    have hk1 : ad = some ⟨b, lo, none⟩ := hk1
    have : ad' = ad := by rw [hk2, hk1]; rfl
    subst this
    exact hr.mem.at hi j v hj
theorem jl_name_ro {ops : Array Oper} {l : List Oper} (d : Nat) {i n c : Nat} {ad : Option Addr} {xs : List Value} (hd : eget env d = some (.s i 0 n c)) (hi : nth own i = some (.ro ad xs)) (h0 : c = 0 → xs = []) {own' : Option Addr → Own} (hw : ∀ a, forceK (snoc own (.ro a xs)) some = some (own' a))
    (h : ∀ a, (c ≠ 0 → ∃ b lo, a = some ⟨b, lo, none⟩) → JL C B nt ρ ops K l ⟨(d, .v (.slice a n c)) :: env, own' a, dfs⟩) : JL C B nt ρ ops K l ⟨env, own, dfs⟩ := fun a W hr => by
  obtain ⟨ad', hk, hr'⟩ := rel_name_ro hr hd hi h0
  have := hw ad'
  rw [forceK_eq] at this
  have h' := h ad' hk
  rw [← Option.some.inj this] at h'
  exact h' a W hr'

/-! ### the statement -/
def refsE (n : Nat) : EV → Bool
  | .v _ => true
  | .p i _ => Nat.blt i n
  | .s i _ _ _ => Nat.blt i n
def refsB (n : Nat) : Env → Bool
  | [] => true
  | (_, e) :: r => refsE n e && refsB n r
theorem refsB_spec {n : Nat} : ∀ {l : Env}, refsB n l = true → ∀ {d e}, eget l d = some e → refsE n e = true
  | [], _, d, e, h => by simp [eget] at h
  | (k, x) :: r, hb, d, e, h => by
    simp only [refsB, Bool.and_eq_true] at hb
    by_cases c : k = d
    · subst c; rw [eget_cons_self] at h; cases h; exact hb.1
    · rw [eget_cons_ne c] at h; exact refsB_spec hb.2 h
/-- The first regions lie where ks says. -/
def KeysAre (ks : List (Option Addr)) (own : Own) : Prop := ∀ (j : Nat) (k : Option Addr), ks[j]? = some k → ∃ o, own[j]? = some o ∧ o.key = k
theorem Den.keys {ks : List (Option Addr)} {o1 o2 : Own} (h1 : KeysAre ks o1) (h2 : KeysAre ks o2) {e : EV} (hr : refsE ks.length e = true) {v : Value} (h : Den o1 e v) : Den o2 e v := by
  cases e with
  | v x => exact h
  | p i off =>
    have hl : i < ks.length := by simpa [refsE] using hr
    obtain ⟨q1, hq1, hk1⟩ := h1 i _ (List.getElem?_eq_getElem hl)
    obtain ⟨q2, hq2, hk2⟩ := h2 i _ (List.getElem?_eq_getElem hl)
    obtain ⟨o, b, lo, ho, hk, he⟩ := h
    rw [hq1] at ho; cases ho
    exact ⟨q2, b, lo, hq2, by rw [hk2, ← hk1]; exact hk, he⟩
  | s i off n c =>
    have hl : i < ks.length := by simpa [refsE] using hr
    obtain ⟨q1, hq1, hk1⟩ := h1 i _ (List.getElem?_eq_getElem hl)
    obtain ⟨q2, hq2, hk2⟩ := h2 i _ (List.getElem?_eq_getElem hl)
    obtain ⟨o, a, ho, he, hc⟩ := h
    rw [hq1] at ho; cases ho
    exact ⟨q2, a, hq2, he, fun h0 => let ⟨b, lo, h3, h4⟩ := hc h0; ⟨b, lo, by rw [hk2, ← hk1]; exact h3, h4⟩⟩
theorem KeysAre.app {ks : List (Option Addr)} {own : Own} (h : KeysAre ks own) (news : Own) : KeysAre ks (own ++ news) := fun j k hj => by
  obtain ⟨o, ho, hk⟩ := h j k hj
  exact ⟨o, by rw [List.getElem?_append_left (List.getElem?_eq_some_iff.1 ho).1]; exact ho, hk⟩
/-- Yield's values lie in their slots. -/
def pEnv : List Nat → List EV → Env → Env
  | p :: ps, e :: es, l => pEnv ps es ((p, e) :: l)
  | _, _, l => l
theorem pEnv_ok {nt : Nat} : ∀ (ps : List Nat) (es : List EV) (vs : List Value) (l : Env) (tmps : Array Value), Dens own es vs → tmps.size = nt → ps.all (fun p => Nat.blt p nt) = true → (∀ d e, eget l d = some e → Den own e (tmps.getD d undef)) →
    ∀ d e, eget (pEnv ps es l) d = some e → Den own e (((ps.zip vs).foldl (fun t (q : Nat × Value) => t.setIfInBounds q.1 q.2) tmps).getD d undef)
  | [], _, _, l, tmps, _, _, _, h => by simpa [pEnv] using h
  | p :: ps, [], vs, l, tmps, hd, _, _, h => by cases hd; simpa [pEnv] using h
  | p :: ps, e :: es, vs, l, tmps, hd, hs, hb, h => by
    cases hd with
    | @cons _ v _ vs h1 h2 =>
      simp only [List.all_cons, Bool.and_eq_true] at hb
      have hp : p < nt := by simpa using hb.1
      simp only [pEnv, List.zip_cons_cons, List.foldl_cons]
      refine pEnv_ok ps es vs _ _ h2 (by simpa using hs) hb.2 ?_
      intro d e' he
      by_cases c : p = d
      · subst c; rw [eget_cons_self] at he; cases he
        simp [Array.getD_eq_getD_getElem?, hs, hp]
        exact h1
      · rw [eget_cons_ne c] at he
        have := h d e' he
        simp only [Array.getD_eq_getD_getElem?] at this ⊢
        rw [Array.getElem?_setIfInBounds_ne c]
        exact this
theorem Dens.app' {own news : Own} {es : List EV} {vs : List Value} (h : Dens own es vs) : Dens (own ++ news) es vs := by
  induction h with
  | nil => exact .nil
  | cons h1 _ ih => exact .cons (h1.le (OLe.app _ _)) ih
theorem foldl_size : ∀ (l : List (Nat × Value)) (t : Array Value), (l.foldl (fun t (q : Nat × Value) => t.setIfInBounds q.1 q.2) t).size = t.size
  | [], t => rfl
  | q :: l, t => by rw [List.foldl_cons, foldl_size l]; simp
theorem Dens.len {es : List EV} {vs : List Value} (h : Dens own es vs) : es.length = vs.length := by
  induction h with
  | nil => rfl
  | cons _ _ ih => simp [ih]
/-- The base of one round: nothing but what the call may turn is turned. -/
def Bas.at (B : Bas) (W : World) : Bas := ⟨W, fun b => ¬ (b < B.w.heap.size ∧ ¬ B.gv b)⟩
theorem Bas.at_to {W W' : World} (hx : ExtG B W) (h : ExtG (B.at W) W') : ExtG B W' :=
  ⟨h.os.trans hx.os, h.tape.trans hx.tape, h.output.trans hx.output, Nat.le_trans hx.size h.size, hx.drawn.trans h.drawn, fun k hk hg => (h.block k (Nat.lt_of_lt_of_le hk hx.size) (fun hn => hn ⟨hk, hg⟩)).trans (hx.block k hk hg)⟩
theorem Reg.toAt {W W1 : World} (hx : ExtG B W) {o : OB} (h : Reg B W1 o) : Reg (B.at W) W1 o := by
  have fr : ∀ b, B.fresh b → (B.at W).fresh b := fun b hb => .inr fun hn => hb.elim (fun h1 => absurd hn.1 (Nat.not_lt.2 h1)) hn.2
  cases o with
  | blk n T cs => exact ⟨fr _ h.1, h.2⟩
  | row a T m xs => exact ⟨h.1, fun h0 => let ⟨b, cs, ha, hf, h1⟩ := h.2 h0; ⟨b, cs, ha, fr b hf, h1⟩⟩
  | ro a xs => exact fun j v hj => let ⟨b, lo, ha, h1, h2, h3⟩ := h j v hj; ⟨b, lo, ha, Nat.lt_of_lt_of_le h1 hx.size, fun hn => hn ⟨h1, h2⟩, by
      have : W.heap[b]? = B.w.heap[b]? := hx.block b h1 h2
      show W.cell? _ = _
      simpa [World.cell?, this] using h3⟩
  | obj n o => exact ⟨fr _ h.1, h.2⟩
  | frz n xs => exact ⟨fr _ h.1, h.2⟩
  | abs f inv => exact ⟨fun b hb => ⟨fr b (h.1 b hb).1, (h.1 b hb).2⟩, h.2.1, fun W' hx' hs hk => h.2.2 W' (Bas.at_to hx hx') hs hk⟩
  | dead a => trivial
def notAbs : OB → Bool
  | .abs _ _ => false
  | _ => true
theorem Reg.ofAt {W W1 : World} (hx : ExtG B W) {o : OB} (hn : notAbs o = true) (h : Reg (B.at W) W1 o) : Reg B W1 o := by
  have fr : ∀ b, (B.at W).fresh b → B.fresh b := fun b hb => by
    rcases hb with h1 | h1
    · exact .inl (Nat.le_trans hx.size h1)
    · by_cases hg : B.gv b
      · exact .inr hg
      · exact .inl (Nat.le_of_not_lt fun hlt => h1 ⟨hlt, hg⟩)
  cases o with
  | blk n T cs => exact ⟨fr _ h.1, h.2⟩
  | row a T m xs => exact ⟨h.1, fun h0 => let ⟨b, cs, ha, hf, h1⟩ := h.2 h0; ⟨b, cs, ha, fr b hf, h1⟩⟩
  | ro a xs =>
      intro j v hj
      obtain ⟨b, lo, ha, h1, h2, h3⟩ := h j v hj
      have h4 : b < B.w.heap.size ∧ ¬ B.gv b := Classical.byContradiction fun hc => h2 hc
      refine ⟨b, lo, ha, h4.1, h4.2, ?_⟩
      have : W.heap[b]? = B.w.heap[b]? := hx.block b h4.1 h4.2
      have h3 : W.cell? ⟨b, lo + j, none⟩ = some v := h3
      simpa [World.cell?, this] using h3
  | obj n o => exact ⟨fr _ h.1, h.2⟩
  | frz n xs => exact ⟨fr _ h.1, h.2⟩
  | abs f inv => cases hn
  | dead a => trivial
theorem Mem.toAt {W W1 : World} (hx : ExtG B W) (h : Mem B own W1) (h1 : ExtG (B.at W) W1) : Mem (B.at W) own W1 := ⟨h1, fun o ho => (h.reg o ho).toAt hx, h.disj⟩
theorem Bas.at_refl (B : Bas) (W : World) : ExtG (B.at W) W := ExtG.refl (B.at W)
theorem Mem.ofAt {W W1 : World} (hx : ExtG B W) (h : Mem (B.at W) own W1) (hn : own.all notAbs = true) : Mem B own W1 := ⟨Bas.at_to hx h.ext, fun o ho => (h.reg o ho).ofAt hx (List.all_eq_true.1 hn o ho), h.disj⟩
theorem Mem.put {W : World} (h : Mem B own W) {i l : Nat} {r r' : Obj} (hi : own[i]? = some (.obj l r)) : Mem B (own.set i (.obj l r')) (W.putObj l r') := by
  have hreg := h.at hi
  have hlt : l < W.heap.size := lt_of_heap hreg.2
  have hb : ∀ b, b ≠ l → (W.putObj l r').heap[b]? = W.heap[b]? := fun b hb => World.putObj_heap_other hb
  refine h.upd hi (fun b hb => hb) (h.ext.turn (f := fun b => b = l) (fun b hb => by cases hb; exact hreg.1) rfl rfl rfl (by rw [World.putObj_size]; exact Nat.le_refl _) (Dr.refl _) fun b _ hn => hb b hn) (by rw [World.putObj_size]; exact Nat.le_refl _) (fun b _ hn => hb b hn) ⟨hreg.1, World.putObj_heap_same hlt⟩
/-- The end of a round. -/
def KRng {ι : Type} (B : Bas) (nt : Nat) (V : ι → Own) (φ : ι → Prop) (D l : Nat) (r : Obj) (e : Exit) (σ : St) : Prop :=
  e = .normal ∧ ∃ y, φ y ∧ Wk B nt σ ⟨[], V y ++ [.obj D (.deferred (some [])), .obj l r], []⟩
/-- Behind the assignment of what yield was given: the record is busy. -/
def KAsg (C : Ctx) (B : Bas) (nt l il : Nat) (r r' : Obj) (body : Code) (K : Exit → St → Prop) (e : Exit) (σ : St) : Prop :=
  e = .normal ∧ nth σ.own il = some (.obj l r) ∧ ∃ own', forceK (σ.own.set il (.obj l r')) some = some own' ∧ JC C B nt (some l) body K ⟨σ.env, own', σ.dfs⟩
def markD (D : Nat) : Deferred := { target := .collected D, args := #[] }
theorem jc_range {g : Operand} {ps : List Nat} {asg body : Code} {f : Nat} {lb : List Value} {xs : List (List Value)} {Rd : World → Prop} {ι : Type} (V : ι → Own) (φ : Nat → ι → Prop) (es : Nat → List EV) (ks : List (Option Addr)) (y0 : ι) (il : Nat) {env0 : Env}
    (hseq : SeqC C f lb Rd xs) (hg : ev env g = some (.v (.func (.func f) ⟨[]⟩ ⟨lb⟩))) (he : Enters C.P f) (h0 : φ 0 y0) (hw : Wk B nt ⟨env, own, dfs⟩ ⟨env0, V y0, dfs⟩)
    (hks : ∀ y, KeysAre ks (V y)) (hrf : refsB ks.length env0 = true) (hil : ∀ y, (V y).length + 1 = il) (hna : ∀ y, (V y).all notAbs = true) (hps : ps.all (fun p => Nat.blt p nt) = true)
    (hRd : ∀ k y W, φ k y → Mem B (V y) W → Rd W)
    (hes : ∀ k y x, φ k y → xs[k]? = some x → (es k).length = ps.length ∧ Dens (V y) (es k) x)
    (round : ∀ (B' : Bas) (k : Nat) (y : ι) (D l : Nat) (r r' : Obj), k < xs.length → φ k y → JC C B' nt (some l) asg (KAsg C B' nt l il r r' body (KRng B' nt V (φ (k + 1)) D l r')) ⟨pEnv ps (es k) env0, V y ++ [.obj D (.deferred (some [])), .obj l r], []⟩)
    (rest : ∀ y D, φ xs.length y → K .normal ⟨env0, V y ++ [.obj D (.deferred (some []))], markD D :: dfs⟩) :
    JC C B nt none (.rangeFunc g ⟨ps⟩ asg body) K ⟨env, own, dfs⟩ := by
  intro a W hr
  have hgv := hr.atv hg
  replace hr := hw a W hr
  refine wpIn_rangeFunc fun fn hfn => ?_
  obtain ⟨D, hD⟩ : ∃ D, W.heap.size = D := ⟨_, rfl⟩
  obtain ⟨rec, hrec⟩ : ∃ rec : Loop, ({ state := .ready, pending := none, fn, tmps := a.tmps, params := ⟨ps⟩, assign := asg, body, defers := D } : Loop) = rec := ⟨_, rfl⟩
  obtain ⟨W1, hW1⟩ : ∃ W1, (W.alloc (.deferred (some []))).alloc (.loop rec) = W1 := ⟨_, rfl⟩
  have hm0 : Mem B (V y0 ++ [.obj D (.deferred (some [])), .obj (D + 1) (.loop rec)]) W1 := by
    have hmA : Mem B (V y0 ++ [.obj D (.deferred (some []))]) (W.alloc (.deferred (some []))) :=
      hr.mem.push (hr.mem.ext.ext (Ext.alloc _ _)) (by rw [alloc_size]; omega) (fun b hb => alloc_old _ _ hb) ⟨.inl (by rw [← hD]; exact hr.mem.ext.size), by rw [← hD]; exact alloc_new _ _⟩ (fun b hb => by cases hb; omega)
    have := hmA.push (o := .obj (D + 1) (.loop rec)) (W' := W1) (by rw [← hW1]; exact hmA.ext.ext (Ext.alloc _ _)) (by rw [← hW1]; simp only [alloc_size]; omega) (fun b hb => by rw [← hW1]; exact alloc_old _ _ hb)
      ⟨.inl (by have := hr.mem.ext.size; rw [hD] at this; exact Nat.le_succ_of_le this), by rw [← hW1]; have := alloc_new (W.alloc (.deferred (some []))) (.loop rec); rw [alloc_size, hD] at this; exact this⟩ (fun b hb => by cases hb; rw [alloc_size, hD]; exact Nat.le_refl _)
    simpa using this
  obtain ⟨J, hJ⟩ : ∃ J : Nat → World → Prop, (fun k W => ∃ y, φ k y ∧ Mem B (V y ++ [.obj D (.deferred (some [])), .obj (D + 1) (.loop rec)]) W) = J := ⟨_, rfl⟩
  have hJi : ∀ k W, J k W ↔ ∃ y, φ k y ∧ Mem B (V y ++ [.obj D (.deferred (some [])), .obj (D + 1) (.loop rec)]) W := fun k W => by rw [← hJ]
  have split : ∀ (y : ι) (r : Obj), (V y ++ [.obj D (.deferred (some [])), .obj (D + 1) r])[il]? = some (.obj (D + 1) r) := fun y r => by
    rw [List.getElem?_append_right (by have := hil y; omega), ← hil y]; simp
  have hcall := hseq (D + 1) J W1 ((hJi _ _).2 ⟨y0, h0, hm0⟩)
    (fun k Wk h => by
      obtain ⟨y, hy, hm⟩ := (hJi _ _).1 h
      exact hRd k y Wk hy ⟨hm.ext, fun o ho => hm.reg o (List.mem_append_left _ ho), (List.pairwise_append.1 hm.disj).1⟩)
    (fun k Wk W2 h hx hs hb => by
      obtain ⟨y, hy, hm⟩ := (hJi _ _).1 h
      refine (hJi _ _).2 ⟨y, hy, hm.kept ⟨hx.os.trans hm0.ext.os, hx.tape.trans hm0.ext.tape, hx.output.trans hm0.ext.output, Nat.le_trans hm0.ext.size hx.size, hm0.ext.drawn.trans hx.drawn, fun b hbl hbg => ?_⟩ hs hb⟩
      exact (hb b (Nat.lt_of_lt_of_le hbl hm.ext.size)).trans (hm.ext.block b hbl hbg))
    (fun k x hx Wk h => by
      obtain ⟨y, hy, hm⟩ := (hJi _ _).1 h
      have hk : k < xs.length := (List.getElem?_eq_some_iff.1 hx).1
      obtain ⟨hel, hed⟩ := hes k y x hy hx
      have hl : Wk.heap[D + 1]? = some (.loop rec) := (hm.at (split y _)).2
      refine ⟨fn, (ps.zip x).foldl (fun t (q : Nat × Value) => t.setIfInBounds q.1 q.2) a.tmps, asg, body, ?_, ?_⟩
      · have := run_yield (P := C.P) (args := x.toArray) hl (by rw [← hrec]; simp; rw [← hed.len, hel])
        rw [this]
        simp only [← hrec]
        congr 2
        rw [show (⟨ps⟩ : Array Tmp) = ps.toArray from rfl, List.zip_toArray]
        simp
      refine roundIn_of_wpIn hfn ?_
      have hround := round (B.at Wk) k y D (D + 1) (.loop rec) (.loop { rec with state := .busy }) hk hy
      have hmw : Mem (B.at Wk) (V y ++ [.obj D (.deferred (some [])), .obj (D + 1) (.loop rec)]) Wk := hm.toAt hm.ext (Bas.at_refl B Wk)
      refine wpIn_mono (hround ⟨(ps.zip x).foldl (fun t (q : Nat × Value) => t.setIfInBounds q.1 q.2) a.tmps, []⟩ Wk ⟨by rw [foldl_size]; exact hr.size, rfl, pEnv_ok ps (es k) x env0 a.tmps hed.app' hr.size hps fun d e he => ?_, hmw⟩) ?_
      · exact Den.keys (hks y0) ((hks y).app _) (refsB_spec hrf he) (hr.env d e he)
      · rintro e a1 Wa ⟨_, s, ⟨rfl, hsi, own', hown, hbody⟩, hra⟩
        rw [nth_eq] at hsi
        rw [forceK_eq] at hown
        cases hown
        have hla : Wa.heap[D + 1]? = some (.loop rec) := (hra.mem.at hsi).2
        refine ⟨_, run_beginRound hla (by rw [← hrec]), ?_⟩
        refine wpIn_mono (hbody a1 _ ⟨hra.size, hra.defers, fun d e he => (hra.env d e he).le (OLe.set (o' := .obj (D + 1) (.loop { rec with state := .busy })) hsi rfl), hra.mem.put hsi⟩) ?_
        rintro e2 a2 Wb ⟨_, s2, ⟨rfl, y', hy', hwk⟩, hrb⟩
        have hmb := (hwk a2 Wb hrb).mem
        have hlb : Wb.heap[D + 1]? = some (.loop { rec with state := .busy }) := (hmb.at (split y' _)).2
        refine ⟨_, _, run_endRound none hlb, rfl, ?_, ?_⟩
        · have := hmb.put (r' := .loop rec) (split y' _)
          have hre : ({ { rec with state := .busy } with state := if (none : Option Code).isNone then .ready else .done, pending := none } : Loop) = rec := by rw [← hrec]; rfl
          rw [hre]
          refine (hJi _ _).2 ⟨y', hy', ?_⟩
          have hset : (V y' ++ [OB.obj D (.deferred (some [])), .obj (D + 1) (.loop { rec with state := .busy })]).set il (.obj (D + 1) (.loop rec)) = V y' ++ [.obj D (.deferred (some [])), .obj (D + 1) (.loop rec)] := by
            rw [List.set_append_right _ _ (by have := hil y'; omega), ← hil y']; simp
          rw [hset] at this
          exact this.ofAt hm.ext (by rw [List.all_append, hna y']; rfl)
        · have hx := (hmb.put (r' := .loop { { rec with state := .busy } with state := if (none : Option Code).isNone then .ready else .done, pending := none }) (split y' _)).ext
          exact ⟨hx.os, hx.tape, hx.output, hx.size, hx.drawn, fun _ _ h => absurd trivial h⟩)
  refine ⟨D + 1, [markD D], W1, { target := .fn (.func f) ⟨lb⟩, args := #[.func (.yield (D + 1)) #[] #[]] }, W1, f, #[.func (.yield (D + 1)) #[] #[]] ++ ⟨lb⟩, W1, ?_, ?_, fun _ _ => trivial, ?_, fun h => by simp [Fw] at h, callsIn_w.2 ?_⟩
  · have := run_enterLoop_outer (P := C.P) (w := W) fn a.tmps ⟨ps⟩ asg body
    rw [hD, hrec, hW1] at this
    exact this
  · have hgv' : a.eval g = .func (.func f) #[] ⟨lb⟩ := hgv
    simp only [resolve, rangeCall, hgv', Deferred.ofValue, Sem.run_bind, Sem.run_pure, Result.andThen_ok]
    simp [Act.eval]
  · simp only [invoke]
    exact he _ _
  · rw [show (#[Value.func (.yield (D + 1)) #[] #[]] : Array Value) ++ ⟨lb⟩ = ((.func (.yield (D + 1)) #[] #[]) :: lb).toArray by simp]
    refine hcall.mono ?_
    rintro e W2 ⟨⟨v, rfl⟩, hJn, hx⟩
    obtain ⟨y, hy, hm⟩ := (hJi _ _).1 hJn
    have hl : W2.heap[D + 1]? = some (.loop rec) := (hm.at (split y _)).2
    refine ⟨none, W2.putObj (D + 1) (.loop { rec with state := .exhausted }), by have := run_endLoop (P := C.P) hl (by rw [← hrec]; simp); rw [this, ← hrec], ?_⟩
    have hm2 := hm.put (r' := .loop { rec with state := .exhausted }) (split y _)
    have hset : (V y ++ [OB.obj D (.deferred (some [])), .obj (D + 1) (.loop rec)]).set il (.obj (D + 1) (.loop { rec with state := .exhausted })) = (V y ++ [.obj D (.deferred (some []))]) ++ [.obj (D + 1) (.loop { rec with state := .exhausted })] := by
      rw [List.set_append_right _ _ (by have := hil y; omega), ← hil y]; simp
    rw [hset] at hm2
    refine ⟨trivial, _, rest y D hy, hr.size, ?_, fun d e he => Den.keys (hks y0) ((hks y).app _) (refsB_spec hrf he) (hr.env d e he), ⟨hm2.ext, fun o ho => hm2.reg o (List.mem_append_left _ ho), (List.pairwise_append.1 hm2.disj).1⟩⟩
    show [markD D] ++ a.defers = _
    rw [hr.defers]; rfl
/-- The end of a call that has ranged over a function. -/
theorem fin_mark {fn : Func} {R : Ending → World → Prop} {e : Exit} {i D : Nat} (hi : nth own i = some (.obj D (.deferred (some [])))) {own' : Own} (hw : forceK (own.set i (.obj D (.deferred none))) some = some own') (h : FendG C B nt fn R e ⟨env, own', dfs⟩) : FendG C B nt fn R e ⟨env, own, markD D :: dfs⟩ := by
  rw [nth_eq] at hi
  rw [forceK_eq] at hw
  cases hw
  refine ⟨h.1, fun a W hr => ?_⟩
  rw [hr.defers]
  have hd : W.heap[D]? = some (.deferred (some [])) := (hr.mem.at hi).2
  refine ⟨by simp, .inl ⟨D, _, rfl, run_takeDeferred hd, ?_⟩⟩
  have := h.2 ⟨a.tmps, dfs⟩ _ ⟨hr.size, rfl, fun d e he => (hr.env d e he).le (OLe.set (o' := .obj D (.deferred none)) hi rfl), hr.mem.put hi⟩
  exact this
end rules
end Go.Proofs.YtpfjolckhlgodaaDoor
