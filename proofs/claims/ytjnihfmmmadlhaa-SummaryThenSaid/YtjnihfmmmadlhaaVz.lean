/- The steps of a walk, calls, results, regions whose order is open: over XVx, XVy. -/
import Derived.Test.YtjnihfmmmadlhaaVy
import Derived.OrdersHeld
namespace Go.Proofs.Ytjnihfmmmadlhaa
open Go Go.RowKit

/-! ### stores and new blocks -/
def storeV (C : Ctx) (env : Env) (own : Own) : Op → Option Own
  | .store T x y => match ev env x, ev env y with
    | some (.p i off), some e => match val own e, C.ent T, nth own i with
      | some v, some t, some (n, T', cs) => bif Nat.beq v.cells.toList.length t.size && v.cells.toList.all Value.oneCell && Nat.ble (off + v.cells.toList.length) cs.length then
          forceK (setAt cs off v.cells.toList) fun cs' => forceK (own.set i (n, T', cs')) fun own' => some own'
        else none
      | _, _, _ => none
    | _, _ => none
  | _ => none
/-- The cells of a new block, and its type. -/
def newV (C : Ctx) (env : Env) (own : Own) : Op → Option (TypeId × List Value)
  | .box T x => match ev env x with
    | some e => match val own e with
      | some v => forceK v.cells.toList fun cs => some (T, cs)
      | none => none
    | none => none
  | .alloc T => match C.ent T with
    | some t => forceK t.zv.cells.toList fun cs => some (T, cs)
    | none => none
  | _ => none
def snoc {α : Type} : List α → α → List α
  | [], x => [x]
  | y :: r, x => y :: snoc r x
theorem snoc_eq {α : Type} : ∀ (l : List α) (x : α), snoc l x = l ++ [x]
  | [], _ => rfl
  | y :: r, x => by simp [snoc, snoc_eq r x]
/-- What guards an operation: run, pass over, or not known. -/
def gslot (ops : Array Oper) (j : Nat) : Option Nat := match nth ops.toList j with
  | some o => o.dst
  | none => none
def gst (ops : Array Oper) (env : Env) : Option (Nat × Bool) → Option Bool
  | none => some true
  | some (j, want) => match gslot ops j with
    | some s => match eget env s with
      | some (.v (.bool true)) => some want
      | some (.v (.bool false)) => some (!want)
      | some (.v (.tuple ⟨[]⟩)) => some false
      | _ => none
    | none => none

section rules
variable {C : Ctx} {B : World} {nt : Nat} {env : Env} {own : Own} {base : World} {K : Exit → St → Prop} {σ : St}

theorem OLe.snoc (own : Own) (b : Nat × TypeId × List Value) : OLe own (snoc own b) := fun i x h => ⟨x, by
  have hl := (List.getElem?_eq_some_iff.1 h).1
  rw [snoc_eq, List.getElem?_append_left hl, h], rfl⟩
theorem OLe.set {own : Own} {i n : Nat} {T : TypeId} {cs cs' : List Value} (hi : own[i]? = some (n, T, cs)) : OLe own (own.set i (n, T, cs')) := fun j x h => by
  have hl := (List.getElem?_eq_some_iff.1 h).1
  by_cases e : i = j
  · subst e
    have hx : x = (n, T, cs) := Option.some.inj (h.symm.trans hi)
    subst hx
    exact ⟨(n, T, cs'), by rw [List.getElem?_set_self hl], rfl⟩
  · exact ⟨x, by rw [List.getElem?_set_ne e]; exact h, rfl⟩

theorem Mem.alloc {σ : St} {W : World} (h : Mem B σ W) (T : TypeId) (cs : List Value) : Mem B { σ with own := σ.own ++ [(W.heap.size, T, cs)] } (W.alloc (.cells cs.toArray T)) where
  ext := h.ext.trans (Ext.alloc _ _)
  size := by have := h.size; simp; omega
  old := by
    intro k hk hne
    have hs := h.size
    have hk : k < σ.base.heap.size := hk
    rw [Below.heap_alloc _ _ _ (by omega)]
    exact h.old k hk fun e he => hne e (List.mem_append_left _ he)
  own := by
    intro e he
    rcases List.mem_append.1 he with he | he
    · exact ⟨(h.own e he).1, by rw [Below.heap_alloc _ _ _ (h.lt he)]; exact (h.own e he).2⟩
    · rw [List.mem_singleton] at he
      subst he
      exact ⟨h.ext.below.size, by show (W.heap.push _)[W.heap.size]? = _; simp⟩
  nodup := by
    show ((σ.own ++ [(W.heap.size, T, cs)]).map (·.1)).Nodup
    rw [List.map_append, List.nodup_append]
    refine ⟨h.nodup, by simp, ?_⟩
    intro x hx y hy
    obtain ⟨e, he, rfl⟩ := List.mem_map.1 hx
    have := h.lt he
    simp at hy
    omega
theorem Mem.fresh {σ : St} {W : World} (h : Mem B σ W) : B.heap.size ≤ W.heap.size ∧ σ.base.heap.size ≤ W.heap.size ∧ ∀ e ∈ σ.own, e.1 ≠ W.heap.size :=
  ⟨h.ext.below.size, h.size, fun _ he => Nat.ne_of_lt (h.lt he)⟩

theorem storeCells_run {P : Program} {n : Nat} {T : TypeId} : ∀ (vs cs : List Value) (off i : Nat) (W : World), W.heap[n]? = some (.cells cs.toArray T (0, 0)) → off + i + vs.length ≤ cs.length → (∀ v ∈ vs, v.oneCell = true) →
    ∃ W', (storeCells ⟨n, off, none⟩ vs i).run P W = .ok () W' ∧ W'.heap[n]? = some (.cells (setAt cs (off + i) vs).toArray T (0, 0)) ∧ W'.heap.size = W.heap.size ∧ (∀ k, k ≠ n → W'.heap[k]? = W.heap[k]?) ∧ W'.os = W.os ∧ W'.tape = W.tape ∧ W'.output = W.output ∧ W'.drawn = W.drawn
  | [], cs, off, i, W, h, _, _ => ⟨W, rfl, h, rfl, fun _ _ => rfl, rfl, rfl, rfl, rfl⟩
  | v :: vs, cs, off, i, W, h, hl, h1 => by
    simp only [List.length_cons] at hl
    have hlt : n < W.heap.size := by
      rcases Nat.lt_or_ge n W.heap.size with h' | h'
      · exact h'
      · simp [Array.getElem?_eq_none h'] at h
    have hcell : W.cell? ⟨n, off + i, none⟩ = some (cs[off + i]'(by omega)) := by
      simp only [World.cell?, h]
      simp [List.getElem?_eq_getElem (show off + i < cs.length by omega)]
    have hfr : W.frozen? ⟨n, off + i, none⟩ = false := by simp [World.frozen?, h]
    have hset : (W.setCell ⟨n, off + i, none⟩ v).heap[n]? = some (.cells (cs.set (off + i) v).toArray T (0, 0)) := by
      simp [World.setCell, Array.getElem?_modify, h]
    obtain ⟨W', hr, h2, h3, h4, h5, h6, h7, h8⟩ := storeCells_run (P := P) (n := n) (T := T) vs (cs.set (off + i) v) off (i + 1) (W.setCell ⟨n, off + i, none⟩ v) hset (by simp; omega) (fun u hu => h1 u (List.mem_cons_of_mem _ hu))
    refine ⟨W', ?_, ?_, ?_, ?_, h5, h6, h7, h8⟩
    · have hone : v.oneCell = true := h1 v (List.mem_cons_self ..)
      simp only [storeCells, store, addr_add, bind, Sem.bind]
      rw [← hr]
      cases v <;> simp [Sem.run, hcell, hfr, Value.oneCell] at hone ⊢
    · simpa [setAt, Nat.add_assoc] using h2
    · rw [h3]; simp [World.setCell]
    · intro k hk; rw [h4 k hk]; exact Below.heap_setCell _ _ _ _ hk

theorem mem_of_at {own : Own} {i n : Nat} {T : TypeId} {cs : List Value} (h : own[i]? = some (n, T, cs)) : (n, T, cs) ∈ own := List.mem_of_getElem? h
theorem Mem.stored {σ : St} {W W' : World} (h : Mem B σ W) {i n : Nat} {T : TypeId} {cs cs' : List Value} (hi : σ.own[i]? = some (n, T, cs)) (h2 : W'.heap[n]? = some (.cells cs'.toArray T (0, 0)))
    (h3 : W'.heap.size = W.heap.size) (h4 : ∀ k, k ≠ n → W'.heap[k]? = W.heap[k]?) (h5 : W'.os = W.os) (h6 : W'.tape = W.tape) (h7 : W'.output = W.output) (h8 : W'.drawn = W.drawn) : Mem B { σ with own := σ.own.set i (n, T, cs') } W' := by
  have hmem := mem_of_at hi
  have hlt : i < σ.own.length := (List.getElem?_eq_some_iff.1 hi).1
  have hget : σ.own[i] = (n, T, cs) := (List.getElem?_eq_some_iff.1 hi).2
  have hmap : (σ.own.set i (n, T, cs')).map (·.1) = σ.own.map (·.1) := by
    rw [List.map_set]
    apply List.ext_getElem (by simp)
    intro j h1 h2
    rw [List.getElem_set]
    split
    · subst_vars; simp [hget]
    · rfl
  have hB := (h.own _ hmem).1
  refine ⟨?_, by rw [h3]; exact h.size, ?_, ?_, by rw [hmap]; exact h.nodup⟩
  · exact ⟨⟨h5.trans h.ext.below.os, h6.trans h.ext.below.tape, h7.trans h.ext.below.output, by rw [h3]; exact h.ext.below.size, fun k hk => (h4 k (by simp at hB; omega)).trans (h.ext.below.block k hk)⟩, by rw [h8]; exact h.ext.drawn⟩
  · intro k hk hne
    rw [h4 k (fun e => hne (n, T, cs') (List.mem_set hlt (n, T, cs')) e.symm)]
    refine h.old k hk fun e he => ?_
    have : e.1 ∈ (σ.own.set i (n, T, cs')).map (·.1) := by rw [hmap]; exact List.mem_map_of_mem he
    obtain ⟨e', he', h1⟩ := List.mem_map.1 this
    exact fun hk => hne e' he' (h1.trans hk)
  · intro e he
    obtain ⟨j, hj, rfl⟩ := List.mem_iff_getElem.1 he
    rw [List.getElem_set]
    split
    · exact ⟨hB, h2⟩
    · rename_i hij
      simp only [List.length_set] at hj
      have ho := h.own _ (List.getElem_mem hj)
      refine ⟨ho.1, ?_⟩
      rw [h4 _ (fun e => ?_)]; exact ho.2
      have h1 : (σ.own.map (·.1))[j]'(by simpa using hj) = (σ.own.map (·.1))[i]'(by simpa using hlt) := by simp [e, hget]
      have hp := List.pairwise_iff_getElem.1 h.nodup
      have hj' : j < (σ.own.map (·.1)).length := by simpa using hj
      have hi' : i < (σ.own.map (·.1)).length := by simpa using hlt
      rcases Nat.lt_trichotomy i j with hlt' | heq | hlt'
      · exact hp i j hi' hj' hlt' h1.symm
      · exact hij heq
      · exact hp j i hj' hi' hlt' h1

theorem Mem.rebase {W W' : World} (h : Mem B σ W) (hx : Ext W W') : Mem B { σ with base := W' } W' where
  ext := h.ext.trans hx
  size := Nat.le_refl _
  old := fun _ _ _ => rfl
  own := fun e he => ⟨(h.own e he).1, by rw [hx.below.block _ (h.lt he)]; exact (h.own e he).2⟩
  nodup := h.nodup
theorem Mem.kept {W W' : World} (h : Mem B σ W) (hx : Ext W W') : Mem B σ W' where
  ext := h.ext.trans hx
  size := Nat.le_trans h.size hx.below.size
  old := fun k hk hne => by rw [hx.below.block _ (Nat.lt_of_lt_of_le hk h.size)]; exact h.old k hk hne
  own := fun e he => ⟨(h.own e he).1, by rw [hx.below.block _ (h.lt he)]; exact (h.own e he).2⟩
  nodup := h.nodup


/-- A new block of the call's own: n is its number. -/
def Fresh (B : World) (own : Own) (base : World) (n : Nat) : Prop := B.heap.size ≤ n ∧ base.heap.size ≤ n ∧ ∀ e ∈ own, e.1 ≠ n

theorem ox_new {o : Oper} {T : TypeId} {cs : List Value} {N : St → Prop} {d : Nat} (hv : newV C env own o.op = some (T, cs)) (hdst : o.dst = some d) (hd : Nat.blt d nt = true)
    (hN : ∀ n, Fresh B own base n → N ⟨(d, .p own.length 0) :: env, snoc own (n, T, cs), base⟩) : OX C B nt o N ⟨env, own, base⟩ := by
  obtain ⟨dst, op, ty, pos, af, g⟩ := o
  have hrun : ∀ a W, Rel B nt ⟨env, own, base⟩ a W → kind op = 1 ∧ (execOp a.eval ⟨dst, op, ty, pos, af, g⟩).run C.P W = .ok (.value (.pointer (some ⟨W.heap.size, 0, none⟩))) (W.alloc (.cells cs.toArray T)) := by
    intro a W hr
    unfold newV at hv
    split at hv
    · rename_i T' x hop
      simp only at hop
      subst hop
      split at hv
      · rename_i e he
        split at hv
        · rename_i v hv'
          rw [forceK_eq] at hv
          cases hv
          have hx := (hr.at he).val hv'
          refine ⟨rfl, ?_⟩
          simp [execOp, hx, Instr.box, newVar, newRow, newObj, bind, Sem.bind, pure, Sem.run]
        · cases hv
      · cases hv
    · rename_i T' hop
      simp only at hop
      subst hop
      split at hv
      · rename_i t ht
        rw [forceK_eq] at hv
        cases hv
        refine ⟨rfl, ?_⟩
        simp only [execOp, Instr.alloc, Sem.run_bind, (C.ok _ t ht).z, Result.andThen_ok]
        simp [newVar, newRow, newObj, bind, Sem.bind, pure, Sem.run]
      · cases hv
    · cases hv
  intro a W hr nxt Q hn
  obtain ⟨hk, hrun⟩ := hrun a W hr
  unfold Oper.wp
  rw [hrun, Oper.upon_value, hdst]
  refine hn _ _ _ (hN _ hr.mem.fresh) ?_ ⟨fun h => absurd (hk.symm.trans h) (by decide), fun _ => Ext.alloc _ _⟩
  refine hr.put (by simpa using hd) _ _ (OLe.snoc own _) ⟨(W.heap.size, T, cs), by rw [snoc_eq]; simp, rfl⟩ ?_
  have := hr.mem.alloc T cs
  rw [snoc_eq]
  exact this

theorem ox_store {o : Oper} {own' : Own} {N : St → Prop} (hv : storeV C env own o.op = some own') (hdst : o.dst = none) (hN : N ⟨env, own', base⟩) : OX C B nt o N ⟨env, own, base⟩ := by
  obtain ⟨dst, op, ty, pos, af, g⟩ := o
  simp only at hdst
  subst hdst
  intro a W hr nxt Q hn
  unfold storeV at hv
  split at hv
  · rename_i T x y hop
    simp only at hop
    subst hop
    split at hv
    · rename_i i off e hx hy
      split at hv
      · rename_i v t n T' cs hval ht hi
        cases hc : (Nat.beq v.cells.toList.length t.size && v.cells.toList.all Value.oneCell && Nat.ble (off + v.cells.toList.length) cs.length) with
        | false => rw [hc] at hv; cases hv
        | true =>
          rw [hc] at hv
          simp only [cond_true, forceK_eq, Option.some.injEq] at hv
          subst hv
          simp only [Bool.and_eq_true] at hc
          obtain ⟨⟨h1, h2⟩, h3⟩ := hc
          rw [nth_eq] at hi
          obtain ⟨b, hb, hp⟩ := hr.at hx
          have hb' : b = (n, T', cs) := Option.some.inj (hb.symm.trans hi)
          subst hb'
          have hyv := (hr.at hy).val hval
          obtain ⟨W', hrun, g2, g3, g4, g5, g6, g7, g8⟩ := storeCells_run (P := C.P) (n := n) (T := T') v.cells.toList cs off 0 W (hr.mem.own _ (mem_of_at hi)).2 (by simpa using Nat.le_of_ble_eq_true h3) (List.all_eq_true.1 h2)
          have hex : (execOp a.eval ⟨none, .store T x y, ty, pos, af, g⟩).run C.P W = .ok .skip W' := by
            have hs : v.cells.size = t.size := by simpa using Nat.eq_of_beq_eq_true h1
            simp only [execOp, hp, hyv, Instr.storeAt, Instr.sureAddr, storeVar, Sem.run_bind, Sem.run_pure, Result.andThen_ok, (C.ok T t ht).s, hs, ne_eq, not_true_eq_false, if_false, hrun]
          unfold Oper.wp
          rw [hex, Oper.upon_skip]
          refine hn _ _ _ hN ?_ ⟨(fun h => by simp [kind] at h), (fun h => by simp [kind] at h)⟩
          exact hr.keep (OLe.set hi) (hr.mem.stored hi g2 g3 g4 g5 g6 g7 g8)
      · cases hv
    · cases hv
  · cases hv

/-! ### the steps of a region in the text's order -/
theorem gslot_eq {ops : Array Oper} {j s : Nat} (h : gslot ops j = some s) : (ops[j]?).bind (·.dst) = some s := by
  unfold gslot at h
  split at h
  · rename_i o ho
    rw [nth_eq] at ho
    have : ops[j]? = some o := by simpa using ho
    rw [this]; exact h
  · cases h
theorem gst_spec {ops : Array Oper} {g : Option (Nat × Bool)} {b : Bool} {a : Act} {W : World} (hr : Rel B nt ⟨env, own, base⟩ a W) (h : gst ops env g = some b) {o : Oper} (ho : o.guard = g) : Region.wanted o (yielded ops a.tmps) = b := by
  unfold Region.wanted
  rw [ho]
  unfold gst at h
  split at h
  · cases h; rfl
  · rename_i j want
    split at h
    · rename_i s hs
      have hs' := gslot_eq hs
      have hy : ∀ u, a.tmps.getD s undef = .bool u → yielded ops a.tmps j = some u := by
        intro u hu
        simp only [yielded, hs', Option.bind_some]
        rw [Array.getD_eq_getD_getElem?] at hu
        cases hc : a.tmps[s]? with
        | none => rw [hc] at hu; simp [undef] at hu
        | some x => rw [hc] at hu; simp at hu; rw [hu]
      have hz : a.tmps.getD s undef = .tuple #[] → yielded ops a.tmps j = none := by
        intro hu
        simp only [yielded, hs', Option.bind_some]
        rw [Array.getD_eq_getD_getElem?] at hu
        cases hc : a.tmps[s]? with
        | none => rfl
        | some x => rw [hc] at hu; simp at hu; rw [hu]
      split at h
      · rename_i he
        cases h
        have := hr.env s _ he
        simp only [hy _ this]
        cases b <;> rfl
      · rename_i he
        cases h
        have := hr.env s _ he
        simp only [hy _ this]
        cases want <;> rfl
      · rename_i he
        cases h
        have := hr.env s _ he
        simp only [hz this]
        rfl
      · cases h
    · cases h

theorem jl_p {ops : Array Oper} {o : Oper} {rest : List Oper} {d : Nat} {e : EV} (hg : gst ops env o.guard = some true) (hv : pureV C env own o.op = some e) (hd : o.dst = some d) (hlt : Nat.blt d nt = true)
    (h : JL C B nt ops K rest ⟨(d, e) :: env, own, base⟩) : JL C B nt ops K (o :: rest) ⟨env, own, base⟩ := by
  intro a W hr
  unfold wpList
  rw [if_pos (gst_spec hr hg rfl)]
  refine .inl (OV.ox hd (by simpa using hlt) (pure_sound (dst := o.dst) (ty := o.type) (pos := o.pos) (af := o.after) (g := o.guard) hv) (N := JL C B nt ops K rest) h a W hr _ _ fun σ' a' W' hn hr' _ => hn a' W' hr')
theorem cmpInts_same : ∀ {xs : List Value} {r : Bool}, cmpInts xs xs = some r → r = true
  | [], r, h => by simp only [cmpInts, Option.some.injEq] at h; exact h.symm
  | x :: xs, r, h => by
    unfold cmpInts at h
    split at h
    · simp_all
    · rename_i k a xs' k' b ys' hx hy
      simp only [List.cons.injEq] at hx hy
      obtain ⟨rfl, rfl⟩ := hx
      obtain ⟨h1, rfl⟩ := hy
      cases h1
      cases hk : sameKind k k with
      | false => simp [hk] at h
      | true =>
        simp only [hk, cond_true] at h
        split at h
        · rename_i h0
          cases h
          rw [cmpInts_same h0, eqB_eq]
          simp
        · cases h
    · cases h
/-- Two that are the same are equal. -/
theorem binV_same {T : TypeId} {v u : Value} (h : binV C .eql T v v = some u) : u = .bool true := by
  cases v with
  | int k a =>
    simp only [binV] at h
    cases hk : sameKind k k with
    | false => simp [hk] at h
    | true => simp only [hk, cond_true, binInt, Option.some.injEq] at h; rw [← h, eqB_eq]; simp
  | agg xs =>
    simp only [binV] at h
    cases he : C.eqs T with
    | false => simp [he] at h
    | true =>
      simp only [he, cond_true] at h
      split at h
      · rename_i t ht
        cases hl : Nat.beq xs.toList.length t.size with
        | false => simp only [hl, cond_false] at h; cases h
        | true =>
          simp only [hl, cond_true] at h
          split at h
          · rename_i r hr; cases h; rw [cmpInts_same hr]
          · rename_i h1 _; cases h1
          · cases h
      · cases h
  | bool a =>
    simp only [binV] at h
    split at h
    · rename_i t ht
      cases hl : Nat.beq t.tag 1 with
      | false => simp only [hl, cond_false] at h; cases h
      | true =>
        simp only [hl, cond_true, Option.some.injEq] at h
        rw [← h]; simp
    · cases h
  | _ => simp [binV] at h
def isSome {α : Type} : Option α → Bool
  | some _ => true
  | none => false
theorem same_sound {T T' : TypeId} {x y : Operand} {v : Value} (hx : ev env x = some (.v v)) (hy : ev env y = some (.v v)) (hp : isSome (binV C .eql T v v) = true) {dst : Option Tmp} {ty : TypeId} {pos : String} {af : Array Edge} {g : Option (Nat × Bool)} :
    OV C B nt ⟨dst, .binOp .eql T x y T', ty, pos, af, g⟩ (.v (.bool true)) ⟨env, own, base⟩ := by
  cases hb : binV C .eql T v v with
  | none => rw [hb] at hp; cases hp
  | some u =>
    have hu := binV_same hb
    subst hu
    exact pure_sound (op := .binOp .eql T x y T') (e := .v (.bool true)) (by simp only [pureV, hx, hy, hb])
theorem jl_same {ops : Array Oper} {rest : List Oper} {d : Nat} {T T' : TypeId} {x y : Operand} {v : Value} {ty : TypeId} {pos : String} {af : Array Edge} {g : Option (Nat × Bool)} (hg : gst ops env g = some true) (hx : ev env x = some (.v v)) (hy : ev env y = some (.v v)) (hp : isSome (binV C .eql T v v) = true) (hlt : Nat.blt d nt = true)
    (h : JL C B nt ops K rest ⟨(d, .v (.bool true)) :: env, own, base⟩) : JL C B nt ops K (⟨some d, .binOp .eql T x y T', ty, pos, af, g⟩ :: rest) ⟨env, own, base⟩ := by
  intro a W hr
  unfold wpList
  rw [if_pos (gst_spec hr hg rfl)]
  exact .inl (OV.ox rfl (by simpa using hlt) (same_sound hx hy hp) (N := JL C B nt ops K rest) h a W hr _ _ fun σ' a' W' hn hr' _ => hn a' W' hr')
theorem jl_s {ops : Array Oper} {o : Oper} {rest : List Oper} {d : Nat} (hg : gst ops env o.guard = some false) (hd : o.dst = some d) (hlt : Nat.blt d nt = true)
    (h : JL C B nt ops K rest ⟨(d, .v (.tuple ⟨[]⟩)) :: env, own, base⟩) : JL C B nt ops K (o :: rest) ⟨env, own, base⟩ := by
  intro a W hr
  unfold wpList
  rw [if_neg (by rw [gst_spec hr hg rfl]; decide), hd]
  exact h _ _ (hr.put (by simpa using hlt) _ _ (OLe.refl _) rfl hr.mem)
theorem jl_x {ops : Array Oper} {o : Oper} {rest : List Oper} (hg : gst ops env o.guard = some true) (h : OX C B nt o (JL C B nt ops K rest) ⟨env, own, base⟩) : JL C B nt ops K (o :: rest) ⟨env, own, base⟩ := by
  intro a W hr
  unfold wpList
  rw [if_pos (gst_spec hr hg rfl)]
  exact .inl (h a W hr _ _ fun σ' a' W' hn hr' _ => hn a' W' hr')
theorem jl_st {ops : Array Oper} {o : Oper} {rest : List Oper} {own' : Own} (hg : gst ops env o.guard = some true) (hv : storeV C env own o.op = some own') (hdst : o.dst = none) (h : JL C B nt ops K rest ⟨env, own', base⟩) : JL C B nt ops K (o :: rest) ⟨env, own, base⟩ :=
  jl_x hg (ox_store hv hdst h)
theorem jl_n {ops : Array Oper} {o : Oper} {rest : List Oper} {T : TypeId} {cs : List Value} {d : Nat} (hg : gst ops env o.guard = some true) (hv : newV C env own o.op = some (T, cs)) (hdst : o.dst = some d) (hd : Nat.blt d nt = true)
    (h : ∀ n, Fresh B own base n → JL C B nt ops K rest ⟨(d, .p own.length 0) :: env, snoc own (n, T, cs), base⟩) : JL C B nt ops K (o :: rest) ⟨env, own, base⟩ :=
  jl_x hg (ox_new hv hdst hd h)
theorem less_bool {g : Nat} {b c : Bool} (hv : eget env g = some (.v (.bool b))) (hc : c = b) : ∀ d e, eget ((g, EV.v (.bool c)) :: env) d = some e → eget env d = some e := by
  intro d v h
  by_cases e : g = d
  · subst e; rw [eget_cons_self] at h; cases h; rw [hc]; exact hv
  · rw [eget_cons_ne e] at h; exact h
/-- A guard that is not decided: both ways. -/
theorem jl_split {ops : Array Oper} {o : Oper} {rest : List Oper} {j g : Nat} {b c : Bool} (ho : o.guard = some (j, c)) (hg : gslot ops j = some g) (hv : eget env g = some (.v (.bool b)))
    (ht : b = true → JL C B nt ops K (o :: rest) ⟨(g, .v (.bool true)) :: env, own, base⟩) (hf : b = false → JL C B nt ops K (o :: rest) ⟨(g, .v (.bool false)) :: env, own, base⟩) : JL C B nt ops K (o :: rest) ⟨env, own, base⟩ := by
  intro a W hr
  cases b
  · exact hf rfl a W (hr.less (less_bool hv rfl))
  · exact ht rfl a W (hr.less (less_bool hv rfl))

/-! ### calls -/
def Enters (P : Program) (f : FuncId) : Prop := ∀ args w, (callFunc f args).run P w = .ok (.enter f args) w

theorem run_call {c : Call} {W : World} {a : Act} {f : Nat} {first cap : Array Value} {fo : Operand} {xs : List Operand} {vs : List Value} (hr : Rel B nt ⟨env, own, base⟩ a W) (hf : ev env fo = some (.v (.func (.func f) first cap))) (hxs : argsV env own xs = some vs) (he : Enters C.P f)
    (hc : c = ⟨.value fo, ⟨xs⟩, c.argTypes⟩) (o : Oper) (ho : o.op = .call c) : (execOp a.eval o).run C.P W = .ok (.enter f (first ++ vs.toArray ++ cap)) W := by
  have hm : xs.toArray.map a.eval = vs.toArray := by rw [List.map_toArray, argsV_eval hr hxs]
  unfold execOp
  rw [ho, hc]
  simp only [resolve, hm, hr.atv hf, Deferred.ofValue, Sem.run_bind, Sem.run_pure, Result.andThen_ok, invoke]
  exact he _ _

/-- A call: what comes of it is told by the callee's contract, of whatever world the state's memory describes. -/
theorem ox_call {N : St → Prop} {d : Nat} {ty : TypeId} {pos : String} {af : Array Edge} {g : Option (Nat × Bool)} {f : Nat} {first cap : Array Value} {fo : Operand} {xs : List Operand} {vs : List Value} {at_ : Array TypeId} (hf : ev env fo = some (.v (.func (.func f) first cap))) (hxs : argsV env own xs = some vs) (he : Enters C.P f) (hd : Nat.blt d nt = true)
    (h : ∀ W, Mem B ⟨env, own, base⟩ W → Calls C.P f (first ++ vs.toArray ++ cap) W fun e W' => ∃ v, e = .returned v ∧ Ext W W' ∧ (N ⟨(d, .v v) :: env, own, base⟩ ∨ N ⟨(d, .v v) :: env, own, W'⟩)) :
    OX C B nt ⟨some d, .call ⟨.value fo, ⟨xs⟩, at_⟩, ty, pos, af, g⟩ N ⟨env, own, base⟩ := by
  intro a W hr nxt Q hn
  unfold Oper.wp
  rw [run_call hr hf hxs he rfl _ rfl, Oper.upon_enter]
  refine (h W hr.mem).mono ?_
  rintro e W' ⟨v, rfl, hx, hN | hN⟩
  · exact hn _ _ _ hN (hr.put (by simpa using hd) _ v (OLe.refl _) rfl (hr.mem.kept hx)) ⟨(fun h => by simp [kind] at h), fun _ => hx⟩
  · exact hn _ _ _ hN (hr.put (by simpa using hd) _ v (OLe.refl _) rfl (hr.mem.rebase hx)) ⟨(fun h => by simp [kind] at h), fun _ => hx⟩
/-- A call of a function that gives v and turns nothing. -/
theorem ox_pv {N : St → Prop} {d : Nat} {ty : TypeId} {pos : String} {af : Array Edge} {g : Option (Nat × Bool)} (f : Nat) {fo : Operand} {xs : List Operand} {vs : List Value} {at_ : Array TypeId} {v : Value} (hf : ev env fo = some (.v (.func (.func f) ⟨[]⟩ ⟨[]⟩))) (he : Enters C.P f) (hxs : argsV env own xs = some vs) (hd : Nat.blt d nt = true)
    (hc : ∀ W, Calls C.P f vs.toArray W (PV W v)) (hN : N ⟨(d, .v v) :: env, own, base⟩) : OX C B nt ⟨some d, .call ⟨.value fo, ⟨xs⟩, at_⟩, ty, pos, af, g⟩ N ⟨env, own, base⟩ :=
  ox_call hf hxs he hd fun W _ => by
    have := hc W
    rw [show (⟨[]⟩ : Array Value) ++ vs.toArray ++ ⟨[]⟩ = vs.toArray by simp]
    exact this.mono fun e W' ⟨h1, h2⟩ => ⟨v, h1, h2, .inl hN⟩

/-- The same, the callee named. -/
theorem ox_pvf {N : St → Prop} {d : Nat} {ty : TypeId} {pos : String} {af : Array Edge} {g : Option (Nat × Bool)} (f : Nat) {xs : List Operand} {vs : List Value} {at_ : Array TypeId} {v : Value} (he : Enters C.P f) (hc : ∀ W, Calls C.P f vs.toArray W (PV W v)) (hxs : argsV env own xs = some vs) (hd : Nat.blt d nt = true)
    (hN : N ⟨(d, .v v) :: env, own, base⟩) : OX C B nt ⟨some d, .call ⟨.value (.func f), ⟨xs⟩, at_⟩, ty, pos, af, g⟩ N ⟨env, own, base⟩ :=
  ox_pv f rfl he hxs hd hc hN

/-! ### results -/
def resOf (tmps : Array Value) : ResultVar → Sem Value
  | .tmp t => pure (tmps.getD t undef)
  | .cell a t => do loadVar t (← asAddr (tmps.getD a undef))
theorem results_eq (fn : Func) (tmps : Array Value) : results fn tmps = (do
    let vs ← fn.results.mapM (resOf tmps)
    pure (if h : vs.size = 1 then vs[0] else .tuple vs)) := by
  unfold results
  have : (fun (x : ResultVar) => match x with
    | .tmp t => pure (tmps.getD t undef)
    | .cell a t => do loadVar t (← asAddr (tmps.getD a undef))) = resOf tmps := by
    funext x; cases x <;> rfl
  rw [← this]
  rfl
def ResIs (C : Ctx) (B : World) (nt : Nat) (σ : St) (r : ResultVar) (v : Value) : Prop := ∀ a W, Rel B nt σ a W → (resOf a.tmps r).run C.P W = .ok v W
def resV (C : Ctx) (env : Env) (own : Own) : ResultVar → Option Value
  | .tmp t => match eget env t with
    | some e => val own e
    | none => none
  | .cell x T => match eget env x with
    | some e => match loadV C own T e with
      | some (.v v) => some v
      | _ => none
    | none => none
theorem ris {r : ResultVar} {v : Value} (h : resV C env own r = some v) : ResIs C B nt ⟨env, own, base⟩ r v := fun a W hr => by
  unfold resV at h
  split at h
  · split at h
    · rename_i e he
      have := (hr.env _ e he).val h
      simp only [resOf, this]
      rfl
    · cases h
  · rename_i x T
    split at h
    · rename_i e he
      split at h
      · rename_i v' hl
        cases h
        have hd := hr.env _ e he
        have hp := pure_sound (C := C) (B := B) (nt := nt) (env := (x, e) :: env) (own := own) (base := base) (op := .load T (.tmp x)) (e := .v v) (by simp only [pureV, ev, eget, Nat.beq_refl, cond_true]; exact hl) (dst := none) (ty := 0) (pos := "") (af := ⟨[]⟩) (g := none)
        obtain ⟨u, hu, hrun⟩ := hp a W ⟨hr.size, hr.defers, fun d e' h' => by
          by_cases c : x = d
          · subst c; rw [eget_cons_self] at h'; cases h'; exact hd
          · rw [eget_cons_ne c] at h'; exact hr.env d e' h', ⟨hr.mem.ext, hr.mem.size, hr.mem.old, hr.mem.own, hr.mem.nodup⟩⟩
        have hu' : u = v := hu
        subst hu'
        cases e with
        | v y => simp [loadV] at hl
        | p i off =>
          obtain ⟨b, hb, hpt⟩ := hd
          have he1 : a.eval (.tmp x) = .pointer (some ⟨b.1, off, none⟩) := hpt
          simp only [execOp, he1, Instr.loadAt, Instr.sureAddr, Sem.run_bind, Sem.run_pure, Result.andThen_ok] at hrun
          simp only [resOf, hpt, asAddr, Sem.run_bind, Sem.run_pure, Result.andThen_ok]
          cases hq : (loadVar T ⟨b.1, off, none⟩).run C.P W with
          | ok y w' =>
            rw [hq] at hrun
            simp only [Result.andThen_ok] at hrun
            cases hrun
            rfl
          | halt y w' => rw [hq] at hrun; cases hrun
      · cases h
    · cases h

def Fend (C : Ctx) (B : World) (nt : Nat) (fn : Func) (R : Ending → World → Prop) (e : Exit) (σ : St) : Prop := (e = .normal ∨ e = .ret) ∧ ∀ a W, Rel B nt σ a W → ∃ v, (results fn a.tmps).run C.P W = .ok v W ∧ R (.returned v) W

theorem fin0 {fn : Func} {R : Ending → World → Prop} {e : Exit} (he : e = .normal ∨ e = .ret) (hf : fn.results = #[]) (hR : ∀ W, Mem B σ W → R (.returned (.tuple #[])) W) : Fend C B nt fn R e σ :=
  ⟨he, fun a W hr => ⟨_, by simp [results_eq, hf], hR W hr.mem⟩⟩
theorem fin1 {fn : Func} {R : Ending → World → Prop} {e : Exit} {r : ResultVar} {v : Value} (he : e = .normal ∨ e = .ret) (hf : fn.results = #[r]) (h : ResIs C B nt σ r v) (hR : ∀ W, Mem B σ W → R (.returned v) W) : Fend C B nt fn R e σ :=
  ⟨he, fun a W hr => ⟨v, by
    have h1 := h a W hr
    simp [results_eq, hf, h1], hR W hr.mem⟩⟩
theorem fin2 {fn : Func} {R : Ending → World → Prop} {e : Exit} {r s : ResultVar} {v u : Value} (he : e = .normal ∨ e = .ret) (hf : fn.results = #[r, s]) (h : ResIs C B nt σ r v) (h' : ResIs C B nt σ s u) (hR : ∀ W, Mem B σ W → R (.returned (.tuple #[v, u])) W) : Fend C B nt fn R e σ :=
  ⟨he, fun a W hr => ⟨.tuple #[v, u], by
    have h1 := h a W hr
    have h2 := h' a W hr
    simp [results_eq, hf, h1, h2], hR W hr.mem⟩⟩
theorem fin3 {fn : Func} {R : Ending → World → Prop} {e : Exit} {r s q : ResultVar} {v u x : Value} (he : e = .normal ∨ e = .ret) (hf : fn.results = #[r, s, q]) (h : ResIs C B nt σ r v) (h' : ResIs C B nt σ s u) (h'' : ResIs C B nt σ q x) (hR : ∀ W, Mem B σ W → R (.returned (.tuple #[v, u, x])) W) : Fend C B nt fn R e σ :=
  ⟨he, fun a W hr => ⟨.tuple #[v, u, x], by
    have h1 := h a W hr
    have h2 := h' a W hr
    have h3 := h'' a W hr
    simp [results_eq, hf, h1, h2, h3], hR W hr.mem⟩⟩


theorem Den.uniq {own : Own} {e : EV} {u u' : Value} (h : Den own e u) (h' : Den own e u') : u = u' := by
  cases e with
  | v x => exact h.trans h'.symm
  | p i off =>
    obtain ⟨b, hb, rfl⟩ := h
    obtain ⟨b', hb', rfl⟩ := h'
    rw [Option.some.inj (hb.symm.trans hb')]

/-! ### regions whose order is open -/
/-- 'o' is passed over, or yields e whatever the world, as long as the state's memory describes it. -/
def YV (C : Ctx) (B : World) (nt : Nat) (ops : Array Oper) (o : Oper) (e : EV) (σ : St) : Prop :=
  ((∀ a W, Rel B nt σ a W → Region.wanted o (yielded ops a.tmps) = true) ∧ kind o.op = 0 ∧ OV C B nt o e σ) ∨
  (e = .v (.tuple ⟨[]⟩) ∧ ∀ a W, Rel B nt σ a W → Region.wanted o (yielded ops a.tmps) = false)
end rules

/-- In which order the operations of a region whose order is open are looked at; a fork where two that change the world are ready at once. -/
inductive Ord | nil | cons (i : Nat) (r : Ord) | fork (r s : Ord)
def Ord.ofList : List Nat → Ord
  | [] => .nil
  | i :: r => .cons i (ofList r)
inductive JO (C : Ctx) (B : World) (nt : Nat) (ops : Array Oper) (K : Exit → St → Prop) : Ord → St → Prop
  | nil {σ} : K .normal σ → JO C B nt ops K .nil σ
  | val {i r o d e env own base} : nth ops.toList i = some o → o.dst = some d → d < nt → kind o.op = 0 → YV C B nt ops o e ⟨env, own, base⟩ → JO C B nt ops K r ⟨(d, e) :: env, own, base⟩ → JO C B nt ops K (.cons i r) ⟨env, own, base⟩
  | eff {i r o N σ} : nth ops.toList i = some o → kind o.op ≠ 0 → (∀ a W, Rel B nt σ a W → Region.wanted o (yielded ops a.tmps) = true) → OX C B nt o N σ → (∀ σ', N σ' → JO C B nt ops K r σ') → JO C B nt ops K (.cons i r) σ
  | skip {i r o d env own base} : nth ops.toList i = some o → kind o.op ≠ 0 → o.dst = some d → d < nt → (∀ a W, Rel B nt ⟨env, own, base⟩ a W → Region.wanted o (yielded ops a.tmps) = false) → JO C B nt ops K r ⟨(d, .v (.tuple ⟨[]⟩)) :: env, own, base⟩ → JO C B nt ops K (.cons i r) ⟨env, own, base⟩
  | split {l g b env own base} : eget env g = some (.v (.bool b)) → (b = true → JO C B nt ops K l ⟨(g, .v (.bool true)) :: env, own, base⟩) → (b = false → JO C B nt ops K l ⟨(g, .v (.bool false)) :: env, own, base⟩) → JO C B nt ops K l ⟨env, own, base⟩
  | fork {r s σ} : JO C B nt ops K r σ → JO C B nt ops K s σ → JO C B nt ops K (.fork r s) σ
section rules
variable {C : Ctx} {B : World} {nt : Nat} {env : Env} {own : Own} {base : World} {K : Exit → St → Prop} {σ : St}
def KeptI (ops : Array Oper) (i : Nat) (w w' : World) : Prop := match ops[i]? with
  | some o => Kept o.op w w'
  | none => w' = w

def wpAnyG (P : Program) (md : Region.Mode) (ops : Array Oper) (Q : Exit → Act → World → Prop) : Nat → Array Bool → Act → World → Prop
  | 0, listed, a, w => Region.ready md ops listed = [] ∧ Q .normal a w
  | fuel + 1, listed, a, w =>
    (Region.ready md ops listed = [] → Q .normal a w) ∧
    ∀ i ∈ Region.ready md ops listed, wpOp P ops Q i (fun a' w' => KeptI ops i w w' ∧ wpAnyG P md ops Q fuel (listed.setIfInBounds i true) a' w') a w

theorem wpAny_of_G {P : Program} {ops : Array Oper} {Q : Exit → Act → World → Prop} {md : Region.Mode} : ∀ (fuel : Nat) (listed : Array Bool) (a : Act) (w : World), wpAnyG P md ops Q fuel listed a w → wpAny P md ops Q fuel listed a w
  | 0, _, _, _, h => h
  | fuel + 1, _, _, _, h => ⟨h.1, fun i hi => wpOp_mono (fun a' w' h' => wpAny_of_G fuel _ a' w' h'.2) (h.2 i hi)⟩

/-- j waits for i, at once or through others. -/
inductive Anc (md : Region.Mode) (ops : Array Oper) : Nat → Nat → Prop
  | edge {j i : Nat} {o : Oper} {e : Edge} : ops[j]? = some o → e ∈ o.after → Region.binds md e = true → e.on = i → Anc md ops j i
  | trans {j i : Nat} {o : Oper} {e : Edge} : ops[j]? = some o → e ∈ o.after → Region.binds md e = true → Anc md ops e.on i → Anc md ops j i
def Closed (md : Region.Mode) (ops : Array Oper) (listed : Array Bool) : Prop := ∀ j o e, listed.getD j false = true → ops[j]? = some o → e ∈ o.after → Region.binds md e = true → listed.getD e.on false = true
theorem Closed.anc {md : Region.Mode} {ops : Array Oper} {listed : Array Bool} (hc : Closed md ops listed) {j i : Nat} (h : Anc md ops j i) : (∀ o e, ops[j]? = some o → e ∈ o.after → Region.binds md e = true → listed.getD e.on false = true) → listed.getD i false = true := by
  induction h with
  | edge ho he hb hi => intro hr; subst hi; exact hr _ _ ho he hb
  | trans ho he hb _ ih => intro hr; exact ih fun o' e' ho' he' hb' => hc _ _ _ (hr _ _ ho he hb) ho' he' hb'
theorem Closed.set {md : Region.Mode} {ops : Array Oper} {listed : Array Bool} (hc : Closed md ops listed) {i : Nat} (hi : i ∈ Region.ready md ops listed) : Closed md ops (listed.setIfInBounds i true) := by
  intro j o e hj ho he hb
  obtain ⟨h0, oi, hoi, hall⟩ := mem_ready.1 hi
  refine getD_set_true ?_
  by_cases hji : i = j
  · subst hji
    rw [hoi] at ho; cases ho
    exact hall e he hb
  · exact hc j o e (by rw [getD_set_ne false hji] at hj; exact hj) ho he hb
def ancB (ops : Array Oper) : Nat → Nat → Nat → Bool
  | 0, _, _ => false
  | f + 1, j, i => match ops[j]? with
    | some o => o.after.any fun e => Region.binds .any e && (e.on == i || ancB ops f e.on i)
    | none => false
theorem ancB_spec {ops : Array Oper} : ∀ {f j i : Nat}, ancB ops f j i = true → Anc .any ops j i
  | 0, _, _, h => by simp [ancB] at h
  | f + 1, j, i, h => by
    unfold ancB at h
    split at h
    · rename_i o ho
      obtain ⟨e, he, hb⟩ := Array.any_eq_true'.1 h
      simp only [Bool.and_eq_true, Bool.or_eq_true, beq_iff_eq] at hb
      rcases hb.2 with h1 | h1
      · exact .edge ho he hb.1 h1
      · exact .trans ho he hb.1 (ancB_spec h1)
    · cases h

theorem wpAnyG_first {P : Program} {ops : Array Oper} {Q : Exit → Act → World → Prop} {md : Region.Mode} {T : World → Prop} {i : Nat} {oi : Oper} {v : Value} (hi : ops[i]? = some oi) (hsel : ∀ (j : Nat) (o : Oper) cs b, ops[j]? = some o → o.op ≠ .select cs b)
    (hQ : ∀ c a w, Q (.panic c) (a.put oi.dst v) w → Q (.panic c) a w) :
    ∀ (fuel : Nat) (listed : Array Bool) (a : Act) (w : World),
      (∀ j oj, ops[j]? = some oj → j ≠ i → listed.getD j true = false → ¬ Anc md ops j i → oi.apart ops oj = true ∧ ∀ w w', Kept oj.op w w' → T w → T w') → Closed md ops listed →
      i ∈ Region.ready md ops listed → YieldsIf P ops T oi v a → T w →
      wpAnyG P md ops Q fuel (listed.setIfInBounds i true) (a.put oi.dst v) w → wpAnyG P md ops Q (fuel + 1) listed a w := by
  have hkeep : ∀ w, KeptI ops i w w := fun w => by unfold KeptI; rw [hi]; exact Kept.same
  intro fuel
  induction fuel with
  | zero =>
    intro listed a w _ _ hr hy hS H
    refine ⟨fun h => (by rw [h] at hr; cases hr), fun j hj => ?_⟩
    by_cases hji : j = i
    · subst hji; exact hy.wpOp hi hS ⟨hkeep w, H⟩
    · have := ready_mono hj hji
      rw [H.1] at this
      cases this
  | succ fuel ih =>
    intro listed a w hfree hcl hr hy hS H
    refine ⟨fun h => (by rw [h] at hr; cases hr), fun j hj => ?_⟩
    by_cases hji : j = i
    · subst hji; exact hy.wpOp hi hS ⟨hkeep w, H⟩
    · have h1 := H.2 j (ready_mono hj hji)
      obtain ⟨hjun, oj, hoj, hall⟩ := mem_ready.1 hj
      have hnot : ¬ Anc md ops j i := fun hanc => by
        have h1 := hcl.anc hanc (fun o e ho he hb => by rw [hoj] at ho; cases ho; exact hall e he hb)
        have h0 := (mem_ready.1 hr).1
        rcases Nat.lt_or_ge i listed.size with h' | h'
        · simp [h'] at h0 h1; rw [h0] at h1; cases h1
        · simp [Array.getElem?_eq_none h'] at h1
      have hst := hfree j oj hoj hji hjun hnot
      have h2 := wpOp_putIf hoj hst.1 (fun cs b => hsel i oi cs b hi) (fun cs b => hsel j oj cs b hoj) hQ hy h1
      have hfree' : ∀ k ok, ops[k]? = some ok → k ≠ i → (listed.setIfInBounds j true).getD k true = false →
          ¬ Anc md ops k i → oi.apart ops ok = true ∧ ∀ w w', Kept ok.op w w' → T w → T w' := fun k ok hk hki hun hno => by
        refine hfree k ok hk hki ?_ hno
        by_cases hjk : j = k
        · subst hjk; exact hjun
        · rw [getD_set_ne true hjk] at hun; exact hun
      refine wpOp_mono (fun a' w' h3 => ?_) h2
      have hT : T w' := hst.2 w w' (by have := h3.2.1; unfold KeptI at this; rw [hoj] at this; exact this) hS
      refine ⟨h3.2.1, ih (listed.setIfInBounds j true) a' w' hfree' (hcl.set hj) (ready_mono hr (Ne.symm hji)) h3.1 hT ?_⟩
      rw [Array.setIfInBounds_comm _ _ hji]
      exact h3.2.2

/-- No store, nor anything of its kind, may come up beside number i. -/
def calmBeside (ops : Array Oper) (listed : Array Bool) (i : Nat) : Bool :=
  (List.range ops.size).all fun j => j == i || listed.getD j true || match ops[j]? with
    | some oj => ancB ops 2 j i || Nat.ble (kind oj.op) 1
    | none => true

def effNext (ops : Array Oper) : Ord → List Nat
  | .cons i _ => match ops[i]? with
    | some o => if kind o.op = 0 then [] else [i]
    | none => []
  | .fork r s => effNext ops r ++ effNext ops s
  | .nil => []
/-- Operations that look at no memory at all. -/
def plainOp : Op → Bool
  | .extract .. => true
  | .move .. => true
  | .assign .. => true
  | _ => false
theorem plain_run {P : Program} {ev' : Operand → Value} {o : Oper} {v : Value} {w : World} (hp : plainOp o.op = true) (h : (execOp ev' o).run P w = .ok (.value v) w) (w' : World) : (execOp ev' o).run P w' = .ok (.value v) w' := by
  obtain ⟨dst, op, ty, pos, af, g⟩ := o
  cases op <;> simp only [plainOp, Bool.false_eq_true] at hp
  · simp only [execOp] at h ⊢
    cases h; rfl
  · simp only [execOp] at h ⊢
    cases h; rfl
  · simp only [execOp] at h ⊢
    unfold Instr.extract at h ⊢
    split at h
    · split at h
      · simp_all
      · cases h
    · cases h
def drawGo (ops : Array Oper) : Nat → Array Bool → List Nat → Ord → Bool
  | 0, listed, _, .nil => (Region.ready .any ops listed).isEmpty
  | n, listed, al, .fork r s => ((effNext ops s).all fun i => !(effNext ops r).contains i) && (drawGo ops n listed (effNext ops s ++ al) r && drawGo ops n listed (effNext ops r ++ al) s)
  | n + 1, listed, al, .cons i r =>
    (match ops[i]? with
     | some o => if kind o.op = 0 then al.isEmpty && (Region.ready .any ops listed).contains i && Region.free .any ops listed i && (plainOp o.op || calmBeside ops listed i) else (Region.ready .any ops listed).contains i && (Region.ready .any ops listed).all fun j => j == i || al.contains j
     | none => false) && drawGo ops n (listed.setIfInBounds i true) [] r
  | _, _, _, _ => false

def drawOk (ops : Array Oper) (ord : Ord) : Bool := Region.noSelect ops && drawGo ops ops.size (Array.replicate ops.size false) [] ord

/-- One step of the run, whatever is ready but not set aside in 'al'. -/
def stepG (P : Program) (ops : Array Oper) (Q : Exit → Act → World → Prop) (n : Nat) (listed : Array Bool) (al : List Nat) (a : Act) (w : World) : Prop :=
  match n with
  | 0 => Region.ready .any ops listed = [] ∧ Q .normal a w
  | n + 1 => Region.ready .any ops listed ≠ [] ∧ ∀ i ∈ Region.ready .any ops listed, i ∈ al ∨ wpOp P ops Q i (fun a' w' => KeptI ops i w w' ∧ wpAnyG P .any ops Q n (listed.setIfInBounds i true) a' w') a w

theorem stepG_nil {P : Program} {ops : Array Oper} {Q : Exit → Act → World → Prop} : ∀ {n : Nat} {listed : Array Bool} {a : Act} {w : World}, stepG P ops Q n listed [] a w → wpAnyG P .any ops Q n listed a w
  | 0, _, _, _, h => h
  | _ + 1, _, _, _, h => ⟨fun hr => absurd hr h.1, fun i hi => (h.2 i hi).resolve_left (by simp)⟩

theorem jo_sound {ops : Array Oper} {K : Exit → St → Prop} (hsel : Region.noSelect ops = true) {ord : Ord} {σ : St} (h : JO C B nt ops K ord σ) : ∀ (n : Nat) (listed : Array Bool) (al : List Nat), Closed .any ops listed → drawGo ops n listed al ord = true → ∀ a W, Rel B nt σ a W → stepG C.P ops (Lift B nt K) n listed al a W := by
  induction h with
  | nil hK =>
    intro n listed al hcl hgo a W hr
    cases n with
    | zero =>
      simp only [drawGo, List.isEmpty_iff] at hgo
      exact ⟨hgo, trivial, _, hK, hr⟩
    | succ n => simp [drawGo] at hgo
  | @val i r o d e env own base hi0 hdst hd hk hy hN ih =>
    intro n listed al hcl hgo a W hr
    have hi : ops[i]? = some o := by rw [nth_eq] at hi0; simpa using hi0
    cases n with
    | zero => simp [drawGo] at hgo
    | succ n =>
    simp only [drawGo, hi, hk, if_true, Bool.and_eq_true, Bool.or_eq_true, List.isEmpty_iff] at hgo
    obtain ⟨⟨⟨⟨h0, h1⟩, h2⟩, h3⟩, h4⟩ := hgo
    subst h0
    obtain ⟨v, hv, hyif⟩ : ∃ v, Den own e v ∧ YieldsIf C.P ops (Mem B ⟨env, own, base⟩) o v a := by
      rcases hy with ⟨hw, _, hy⟩ | ⟨rfl, hy⟩
      · obtain ⟨v, hv, _⟩ := hy a W hr
        refine ⟨v, hv, .inl ⟨hw a W hr, fun w hm => ?_⟩⟩
        obtain ⟨u, hu, hrun⟩ := hy a w ⟨hr.size, hr.defers, hr.env, hm⟩
        rw [hv.uniq hu]; exact hrun
      · exact ⟨undef, rfl, .inr ⟨hy a W hr, rfl⟩⟩
    have h1' : i ∈ Region.ready .any ops listed := by simpa using h1
    have hall : wpAnyG C.P .any ops (Lift B nt K) (n + 1) listed a W := by
      have hrest := fun u => stepG_nil (ih _ _ [] (hcl.set h1') h4 _ _ (hr.put hd e v u hv hr.mem))
      by_cases hpl : plainOp o.op = true
      · have hyif' : YieldsIf C.P ops (fun _ => True) o v a := by
          rcases hyif with ⟨hw, h⟩ | h
          · exact .inl ⟨hw, fun w _ => plain_run hpl (h W hr.mem) w⟩
          · exact .inr h
        refine wpAnyG_first (T := fun _ => True) (v := v) hi (Region.noSelect_spec hsel) (fun _ _ _ h => h.1.elim) _ _ _ _ ?_ hcl h1' hyif' trivial ?_
        · intro j oj hj hne hun hno
          exact ⟨Region.free_spec hi h2 j oj hj hne hun (fun e he hb hon => hno (.edge hj he hb hon)), fun _ _ _ _ => trivial⟩
        · rw [hdst]
          exact hrest (OLe.refl _)
      · refine wpAnyG_first (T := Mem B ⟨env, own, base⟩) (v := v) hi (Region.noSelect_spec hsel) (fun _ _ _ h => h.1.elim) _ _ _ _ ?_ hcl h1' hyif hr.mem ?_
        · intro j oj hj hne hun hno
          refine ⟨Region.free_spec hi h2 j oj hj hne hun (fun e he hb hon => hno (.edge hj he hb hon)), fun w w' hkw hm => ?_⟩
          replace h3 := h3.resolve_left hpl
          simp only [calmBeside, List.all_eq_true, List.mem_range] at h3
          have h5 := h3 j (Array.getElem?_eq_some_iff.1 hj).1
          simp only [hj, Bool.or_eq_true, beq_iff_eq, hne, false_or, hun, Bool.false_eq_true] at h5
          rcases h5 with h5 | h5
          · exact absurd (ancB_spec h5) hno
          · have h6 := Nat.le_of_ble_eq_true h5
            rcases Nat.lt_or_ge (kind oj.op) 1 with h7 | h7
            · rw [hkw.1 (by omega)]; exact hm
            · exact hm.kept (hkw.2 (by omega))
        · rw [hdst]
          exact hrest (OLe.refl _)
    exact ⟨fun h0 => (by rw [h0] at h1'; cases h1'), fun j hj => .inr (hall.2 j hj)⟩
  | @eff i r o N σ hi0 hk hw hx hN ih =>
    intro n listed al hcl hgo a W hr
    have hi : ops[i]? = some o := by rw [nth_eq] at hi0; simpa using hi0
    cases n with
    | zero => simp [drawGo] at hgo
    | succ n =>
    simp only [drawGo, hi, hk, if_false, Bool.and_eq_true, List.all_eq_true, Bool.or_eq_true, beq_iff_eq] at hgo
    obtain ⟨⟨h0, h1⟩, h2⟩ := hgo
    have h0' : i ∈ Region.ready .any ops listed := by simpa using h0
    refine ⟨fun h0 => (by rw [h0] at h0'; cases h0'), fun j hj => ?_⟩
    rcases h1 j hj with rfl | h3
    · refine .inr ?_
      unfold wpOp
      simp only [hi, hw a W hr, if_true]
      refine .inl (hx a W hr _ _ fun σ' a' W' hn hr' hkept => ⟨?_, stepG_nil (ih σ' hn _ _ [] (hcl.set hj) h2 a' W' hr')⟩)
      unfold KeptI; rw [hi]; exact hkept
    · exact .inl (by simpa using h3)
  | @skip i r o d env own base hi0 hk hdst hd hw hN ih =>
    intro n listed al hcl hgo a W hr
    have hi : ops[i]? = some o := by rw [nth_eq] at hi0; simpa using hi0
    cases n with
    | zero => simp [drawGo] at hgo
    | succ n =>
    simp only [drawGo, hi, hk, if_false, Bool.and_eq_true, List.all_eq_true, Bool.or_eq_true, beq_iff_eq] at hgo
    obtain ⟨⟨h0, h1⟩, h2⟩ := hgo
    have h0' : i ∈ Region.ready .any ops listed := by simpa using h0
    refine ⟨fun h0 => (by rw [h0] at h0'; cases h0'), fun j hj => ?_⟩
    rcases h1 j hj with rfl | h3
    · refine .inr ?_
      unfold wpOp
      simp only [hi, hw a W hr, Bool.false_eq_true, if_false, hdst]
      refine ⟨?_, stepG_nil (ih _ _ [] (hcl.set hj) h2 _ _ (hr.put hd _ _ (OLe.refl _) rfl hr.mem))⟩
      unfold KeptI; rw [hi]; exact Kept.same
    · exact .inl (by simpa using h3)
  | @split l g b env own base hg ht hf iht ihf =>
    intro n listed al hcl hgo a W hr
    cases b
    · exact ihf rfl n listed al hcl hgo a W (hr.less (less_bool hg rfl))
    · exact iht rfl n listed al hcl hgo a W (hr.less (less_bool hg rfl))
  | @fork r s σ h1 h2 ih1 ih2 =>
    intro n listed al hcl hgo a W hr
    have hgo' : ((effNext ops s).all fun i => !(effNext ops r).contains i) = true ∧ drawGo ops n listed (effNext ops s ++ al) r = true ∧ drawGo ops n listed (effNext ops r ++ al) s = true := by
      cases n <;> simpa only [drawGo, Bool.and_eq_true] using hgo
    obtain ⟨hd, g1, g2⟩ := hgo'
    have k1 := ih1 n listed _ hcl g1 a W hr
    have k2 := ih2 n listed _ hcl g2 a W hr
    cases n with
    | zero => exact k1
    | succ n =>
      refine ⟨k1.1, fun j hj => ?_⟩
      rcases k1.2 j hj with h3 | h3
      · rcases k2.2 j hj with h4 | h4
        · rcases List.mem_append.1 h3 with h5 | h5
          · rcases List.mem_append.1 h4 with h6 | h6
            · have := List.all_eq_true.1 hd j h5
              simp at this
              exact absurd h6 this
            · exact .inl h6
          · exact .inl h5
        · exact .inr h4
      · exact .inr h3

theorem jc_draw {id : Nat} {ops : Array Oper} {K : Exit → St → Prop} (ord : Ord) (hok : drawOk ops ord = true) (h : JO C B nt ops K ord σ) : JC C B nt (.region id ops true) K σ := by
  intro a W hr
  simp only [drawOk, Bool.and_eq_true] at hok
  obtain ⟨h1, h3⟩ := hok
  refine wp_region_any C.mixed (wpAny_of_G _ _ _ _ ?_)
  exact stepG_nil (jo_sound h1 h _ _ [] (fun j o e hj => by simp [Array.getElem?_replicate] at hj; split at hj <;> simp at hj) h3 a { W with drawn := W.drawn + 1 } ⟨hr.size, hr.defers, hr.env, hr.mem.kept (Ext.draw W)⟩)

theorem jc_drawn {id : Nat} {ops : Array Oper} {K : Exit → St → Prop} (hok : drawOk ops (Ord.ofList (List.range ops.size)) = true) (h : JO C B nt ops K (Ord.ofList (List.range ops.size)) σ) : JC C B nt (.region id ops true) K σ := jc_draw _ hok h
theorem jo_p {ops : Array Oper} {i : Nat} {o : Oper} {r : Ord} {d : Nat} {e : EV} (hi : nth ops.toList i = some o) (hg : gst ops env o.guard = some true) (hv : pureV C env own o.op = some e) (hk : Nat.beq (kind o.op) 0 = true) (hd : o.dst = some d) (hlt : Nat.blt d nt = true)
    (h : JO C B nt ops K r ⟨(d, e) :: env, own, base⟩) : JO C B nt ops K (.cons i r) ⟨env, own, base⟩ :=
  .val hi hd (by simpa using hlt) (Nat.eq_of_beq_eq_true hk) (.inl ⟨fun _ _ hr => gst_spec hr hg rfl, Nat.eq_of_beq_eq_true hk, pure_sound (dst := o.dst) (ty := o.type) (pos := o.pos) (af := o.after) (g := o.guard) hv⟩) h
theorem jo_same {ops : Array Oper} {i : Nat} {r : Ord} {d : Nat} {T T' : TypeId} {x y : Operand} {v : Value} {ty : TypeId} {pos : String} {af : Array Edge} {g : Option (Nat × Bool)} (hi : nth ops.toList i = some ⟨some d, .binOp .eql T x y T', ty, pos, af, g⟩) (hg : gst ops env g = some true) (hx : ev env x = some (.v v)) (hy : ev env y = some (.v v)) (hp : isSome (binV C .eql T v v) = true) (hlt : Nat.blt d nt = true)
    (h : JO C B nt ops K r ⟨(d, .v (.bool true)) :: env, own, base⟩) : JO C B nt ops K (.cons i r) ⟨env, own, base⟩ :=
  .val hi rfl (by simpa using hlt) rfl (.inl ⟨fun _ _ hr => gst_spec hr hg rfl, rfl, same_sound hx hy hp⟩) h
theorem jo_s {ops : Array Oper} {i : Nat} {o : Oper} {r : Ord} {d : Nat} (hi : nth ops.toList i = some o) (hg : gst ops env o.guard = some false) (hk : Nat.beq (kind o.op) 0 = true) (hd : o.dst = some d) (hlt : Nat.blt d nt = true)
    (h : JO C B nt ops K r ⟨(d, .v (.tuple ⟨[]⟩)) :: env, own, base⟩) : JO C B nt ops K (.cons i r) ⟨env, own, base⟩ :=
  .val hi hd (by simpa using hlt) (Nat.eq_of_beq_eq_true hk) (.inr ⟨rfl, fun _ _ hr => gst_spec hr hg rfl⟩) h
theorem jo_k {ops : Array Oper} {i : Nat} {o : Oper} {r : Ord} {d : Nat} (hi : nth ops.toList i = some o) (hg : gst ops env o.guard = some false) (hk : Nat.blt 0 (kind o.op) = true) (hd : o.dst = some d) (hlt : Nat.blt d nt = true)
    (h : JO C B nt ops K r ⟨(d, .v (.tuple ⟨[]⟩)) :: env, own, base⟩) : JO C B nt ops K (.cons i r) ⟨env, own, base⟩ :=
  .skip hi (by have : 0 < kind o.op := by simpa using hk
               omega) hd (by simpa using hlt) (fun _ _ hr => gst_spec hr hg rfl) h
theorem jo_x {ops : Array Oper} {i : Nat} {o : Oper} {r : Ord} (hi : nth ops.toList i = some o) (hk : Nat.blt 0 (kind o.op) = true) (hg : gst ops env o.guard = some true) (h : OX C B nt o (JO C B nt ops K r) ⟨env, own, base⟩) : JO C B nt ops K (.cons i r) ⟨env, own, base⟩ :=
  .eff hi (by have : 0 < kind o.op := by simpa using hk
              omega) (fun _ _ hr => gst_spec hr hg rfl) h fun _ h => h
theorem jo_st {ops : Array Oper} {i : Nat} {o : Oper} {r : Ord} {own' : Own} (hi : nth ops.toList i = some o) (hg : gst ops env o.guard = some true) (hv : storeV C env own o.op = some own') (hk : Nat.blt 0 (kind o.op) = true) (hdst : o.dst = none) (h : JO C B nt ops K r ⟨env, own', base⟩) : JO C B nt ops K (.cons i r) ⟨env, own, base⟩ :=
  jo_x hi hk hg (ox_store hv hdst h)
theorem jo_n {ops : Array Oper} {i : Nat} {o : Oper} {r : Ord} {T : TypeId} {cs : List Value} {d : Nat} (hi : nth ops.toList i = some o) (hg : gst ops env o.guard = some true) (hv : newV C env own o.op = some (T, cs)) (hk : Nat.blt 0 (kind o.op) = true) (hdst : o.dst = some d) (hd : Nat.blt d nt = true)
    (h : ∀ n, Fresh B own base n → JO C B nt ops K r ⟨(d, .p own.length 0) :: env, snoc own (n, T, cs), base⟩) : JO C B nt ops K (.cons i r) ⟨env, own, base⟩ :=
  jo_x hi hk hg (ox_new hv hdst hd h)
theorem jo_split {ops : Array Oper} {i : Nat} {o : Oper} {r : Ord} {j g : Nat} {b c : Bool} (hi : nth ops.toList i = some o) (ho : o.guard = some (j, c)) (hg : gslot ops j = some g) (hv : eget env g = some (.v (.bool b)))
    (ht : b = true → JO C B nt ops K (.cons i r) ⟨(g, .v (.bool true)) :: env, own, base⟩) (hf : b = false → JO C B nt ops K (.cons i r) ⟨(g, .v (.bool false)) :: env, own, base⟩) : JO C B nt ops K (.cons i r) ⟨env, own, base⟩ := .split hv ht hf

/-! ### the beginning of a call, and the steps between -/
def mkEnv : Nat → List Value → Env
  | _, [] => []
  | k, v :: vs => (k, .v v) :: mkEnv (k + 1) vs
theorem mkEnv_mem : ∀ {vs : List Value} {k d : Nat} {e : EV}, eget (mkEnv k vs) d = some e → k ≤ d ∧ ∃ v, e = .v v ∧ vs[d - k]? = some v
  | [], k, d, e, h => by simp [mkEnv, eget] at h
  | v :: vs, k, d, e, h => by
    unfold mkEnv at h
    by_cases c : k = d
    · subst c; rw [eget_cons_self] at h; cases h; exact ⟨Nat.le_refl _, v, rfl, by simp⟩
    · rw [eget_cons_ne c] at h
      obtain ⟨h1, u, h2, h3⟩ := mkEnv_mem h
      refine ⟨by omega, u, h2, ?_⟩
      rw [show d - k = d - (k + 1) + 1 by omega]
      simpa using h3
theorem i64w (n : Int) (h1 : -9223372036854775808 ≤ n) (h2 : n ≤ 9223372036854775807) : IntKind.i64.wrap n = n := by
  unfold IntKind.wrap
  simp only [IntKind.bits, IntKind.signed, Bool.true_and, decide_eq_true_eq, Nat.add_one_sub_one]
  have h3 : (2 : Int) ^ (64 : Nat) = 18446744073709551616 := by decide
  have h4 : (2 : Int) ^ (64 - 1 : Nat) = 9223372036854775808 := by decide
  simp only [h3, h4, ge_iff_le, decide_eq_true_eq]
  split <;> omega
theorem fin_pv {v v0 : Value} (h : v = v0) : ∀ W, Mem B σ W → PV B v0 (.returned v) W := fun _ hm => ⟨by rw [h], hm.ext⟩
theorem calls_v {f : FuncId} {fn : Func} {c : Code} {vs : List Value} {R : Ending → World → Prop} (hf : C.P.funcs[f]? = some fn) (hb : fn.body = some c) (nt : Nat) (hnt : fn.ntmps = nt)
    (hsz : Nat.ble vs.length nt = true) (h : JC C B nt c (Fend C B nt fn R) ⟨mkEnv 0 vs, [], B⟩) : Calls C.P f vs.toArray B R := by
  subst hnt
  refine calls_of_jc hf hb _ (fun d e he => ?_) (by simpa using hsz) h
  obtain ⟨_, v, rfl, h1⟩ := mkEnv_mem he
  have hl := (List.getElem?_eq_some_iff.1 h1).1
  simp only [Nat.sub_zero] at h1 hl
  show _ = _
  rw [Array.getD_eq_getD_getElem?, Array.getElem?_append_left (by simpa using hl)]
  simp [h1]

theorem k_then {N : St → Prop} (h : N σ) : Kthen K N .normal σ := h
theorem k_then_e {N : St → Prop} {id : Nat} (h : K (.exit id) σ) : Kthen K N (.exit id) σ := h
theorem k_then_r {N : St → Prop} (h : K .ret σ) : Kthen K N .ret σ := h
theorem k_block_n {id : Nat} (h : K .normal σ) : Kblock id K .normal σ := h
theorem k_block_r {id : Nat} (h : K .ret σ) : Kblock id K .ret σ := h
theorem k_block_hit {id : Nat} (h : K .normal σ) : Kblock id K (.exit id) σ := by show (bif Nat.beq id id then _ else _); rw [Nat.beq_refl]; exact h
theorem k_block_miss {id id' : Nat} (hne : Nat.beq id' id = false) (h : K (.exit id') σ) : Kblock id K (.exit id') σ := by show (bif Nat.beq id' id then _ else _); rw [hne]; exact h

end rules
attribute [irreducible] Fend
end Go.Proofs.Ytjnihfmmmadlhaa
