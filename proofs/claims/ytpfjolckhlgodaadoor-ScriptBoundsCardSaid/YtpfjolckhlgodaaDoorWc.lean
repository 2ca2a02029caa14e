/- The steps of a walk, calls, results, regions whose order is open: over XWa, XWb. -/
import Derived.Test.YtpfjolckhlgodaaDoorWb
import Derived.OrdersHeld
namespace Go.Proofs.YtpfjolckhlgodaaDoor
open Go Go.RowKit

/-! ### stores and new blocks -/
def storeV (C : Ctx) (env : Env) (own : Own) : Op → Option Own
  | .store T x y => match ev env x, ev env y with
    | some (.p i off), some e => match val own e, C.ent T, nth own i with
      | some v, some t, some (.blk n T' cs) => bif Nat.beq v.cells.toList.length t.size && v.cells.toList.all Value.oneCell && Nat.ble (off + v.cells.toList.length) cs.length then
          forceK (setAt cs off v.cells.toList) fun cs' => forceK (own.set i (.blk n T' cs')) some
        else none
      | _, _, _ => none
    | _, _ => none
  | _ => none
def repZ (z : List Value) : Nat → List Value
  | 0 => []
  | n + 1 => z ++ repZ z n
/-- A new region, by the number of its block; and what the operation gives. -/
def newV (C : Ctx) (env : Env) (own : Own) : Op → Option ((Nat → OB) × (Nat → EV))
  | .box T x => match ev env x with
    | some e => match val own e with
      | some v => match idxL own with
        | some ℓ => forceK v.cells.toList fun cs => some (fun n => .blk n T cs, fun _ => .p ℓ 0)
        | none => none
      | none => none
    | none => none
  | .alloc T => match C.ent T with
    | some t => match idxL own with
      | some ℓ => forceK t.zv.cells.toList fun cs => some (fun n => .blk n T cs, fun _ => .p ℓ 0)
      | none => none
    | none => none
  | .buildSlice T len ⟨ps⟩ => match C.ent T with
    | some t => match t.slc, idxL own with
      | some (e, es), some ℓ => match C.ent e with
        | some te => match evParts env own ps with
          | some q => bif Nat.ble (len * es) 16777216 && Nat.beq te.zv.cells.toList.length es && Nat.blt 0 es then
              match buildV (fun i => some (i * es, es)) q (repZ te.zv.cells.toList len) with
              | some cs => forceK cs fun cs' => some (fun n => .row (some ⟨n, 0, none⟩) e (len * es) cs', fun _ => .s ℓ 0 len len)
              | none => none
            else none
          | none => none
        | none => none
      | _, _ => none
    | none => none
  | .makeMap _ none => some (fun n => .obj n (.map #[] 0), fun n => .v (.map (some n)))
  | _ => none
theorem buildV_len (pl : Nat → Option (Nat × Nat)) : ∀ (ps : List (Nat × Value)) (cs r : List Value), buildV pl ps cs = some r → r.length = cs.length
  | [], cs, r, h => by simp only [buildV, Option.some.injEq] at h; rw [h]
  | (i, v) :: ps, cs, r, h => by
    unfold buildV at h
    split at h
    · rename_i off size hp
      cases hc : (Nat.beq v.cells.toList.length size && Nat.ble (off + v.cells.toList.length) cs.length) with
      | false => rw [hc] at h; cases h
      | true =>
        rw [hc, cond_true, forceK_eq] at h
        rw [buildV_len pl ps _ r h, setAt_len]
    · cases h
theorem repZ_len (z : List Value) : ∀ n, (repZ z n).length = n * z.length
  | 0 => by simp [repZ]
  | n + 1 => by simp [repZ, repZ_len z n, Nat.succ_mul]; omega
theorem repZ_get (z : List Value) : ∀ (n i : Nat), i < n * z.length → (repZ z n)[i]? = z[i % z.length]?
  | 0, i, h => by simp at h
  | n + 1, i, h => by
    rw [Nat.succ_mul] at h
    unfold repZ
    rcases Nat.lt_or_ge i z.length with h1 | h1
    · rw [List.getElem?_append_left h1, Nat.mod_eq_of_lt h1]
    · rw [List.getElem?_append_right h1, repZ_get z n (i - z.length) (by omega), Nat.mod_eq_sub_mod h1]
theorem repZ_eq (z : Array Value) (n : Nat) : (Array.range (n * z.size)).map (fun i => z[i % z.size]!) = (repZ z.toList n).toArray := by
  apply Array.ext_getElem?
  intro i
  rcases Nat.lt_or_ge i (n * z.size) with h | h
  · have h0 : 0 < z.size := by
      rcases Nat.eq_zero_or_pos z.size with e | e
      · rw [e] at h; simp at h
      · exact e
    have h1 : i % z.size < z.size := Nat.mod_lt _ h0
    have := repZ_get z.toList n i (by simpa using h)
    simp only [Array.length_toList] at this
    simp [h, h1, this]
  · have := repZ_len z.toList n
    simp only [Array.length_toList] at this
    rw [Array.getElem?_eq_none (by simpa using h), Array.getElem?_eq_none (by simp [this]; exact h)]
def snoc {α : Type} : List α → α → List α
  | [], x => [x]
  | y :: r, x => y :: snoc r x
theorem snoc_eq {α : Type} : ∀ (l : List α) (x : α), snoc l x = l ++ [x]
  | [], _ => rfl
  | y :: r, x => by simp [snoc, snoc_eq r x]
def appL {α : Type} : List α → List α → List α
  | [], l => l
  | y :: r, l => y :: appL r l
theorem appL_eq {α : Type} : ∀ (l m : List α), appL l m = l ++ m
  | [], _ => rfl
  | y :: r, m => by simp [appL, appL_eq r m]
/-- What guards an operation: run, pass over, or not known. -/
def gslot (ops : Array Oper) (j : Nat) : Option Nat := match nth ops.toList j with
  | some o => o.dst
  | none => none
def gst (ops : Array Oper) (env : Env) : Option (Nat × Bool) → Option Bool
  | none => some true
  | some (j, want) => match gslot ops j with
    | some s => match eget env s with
      | some (.v (.bool true)) => some want
      | some (.v (.bool false)) => some (!want)
      | some (.v (.tuple ⟨[]⟩)) => some false
      | _ => none
    | none => none

section rules
variable {C : Ctx} {B : Bas} {nt : Nat} {ρ : Option Nat} {env : Env} {own : Own} {dfs : List Deferred} {K : Exit → St → Prop} {σ : St}

theorem storeCells_run {P : Program} {n : Nat} {T : TypeId} : ∀ (vs cs : List Value) (off i : Nat) (W : World), W.heap[n]? = some (.cells cs.toArray T (0, 0)) → off + i + vs.length ≤ cs.length → (∀ v ∈ vs, v.oneCell = true) →
    ∃ W', (storeCells ⟨n, off, none⟩ vs i).run P W = .ok () W' ∧ W'.heap[n]? = some (.cells (setAt cs (off + i) vs).toArray T (0, 0)) ∧ W'.heap.size = W.heap.size ∧ (∀ k, k ≠ n → W'.heap[k]? = W.heap[k]?) ∧ W'.os = W.os ∧ W'.tape = W.tape ∧ W'.output = W.output ∧ W'.drawn = W.drawn
  | [], cs, off, i, W, h, _, _ => ⟨W, rfl, h, rfl, fun _ _ => rfl, rfl, rfl, rfl, rfl⟩
  | v :: vs, cs, off, i, W, h, hl, h1 => by
    simp only [List.length_cons] at hl
    have hlt : n < W.heap.size := by
      rcases Nat.lt_or_ge n W.heap.size with h' | h'
      · exact h'
      · simp [Array.getElem?_eq_none h'] at h
    have hcell : W.cell? ⟨n, off + i, none⟩ = some (cs[off + i]'(by omega)) := by
      simp only [World.cell?, h]
      simp [List.getElem?_eq_getElem (show off + i < cs.length by omega)]
    have hfr : W.frozen? ⟨n, off + i, none⟩ = false := by simp [World.frozen?, h]
    have hset : (W.setCell ⟨n, off + i, none⟩ v).heap[n]? = some (.cells (cs.set (off + i) v).toArray T (0, 0)) := by
      simp [World.setCell, Array.getElem?_modify, h]
    obtain ⟨W', hr, h2, h3, h4, h5, h6, h7, h8⟩ := storeCells_run (P := P) (n := n) (T := T) vs (cs.set (off + i) v) off (i + 1) (W.setCell ⟨n, off + i, none⟩ v) hset (by simp; omega) (fun u hu => h1 u (List.mem_cons_of_mem _ hu))
    refine ⟨W', ?_, ?_, ?_, ?_, h5, h6, h7, h8⟩
    · have hone : v.oneCell = true := h1 v (List.mem_cons_self ..)
      simp only [storeCells, store, addr_add, bind, Sem.bind]
      rw [← hr]
      cases v <;> simp [Sem.run, hcell, hfr, Value.oneCell] at hone ⊢
    · simpa [setAt, Nat.add_assoc] using h2
    · rw [h3]; simp [World.setCell]
    · intro k hk; rw [h4 k hk]; exact Below.heap_setCell _ _ _ _ hk

theorem ZOk.app {own news : Own} {zs : List Nat} {Z : Nat → Prop} (h : ZOk own zs Z) : ZOk (own ++ news) zs Z := by
  refine ⟨fun j hj => by have := h.1 j hj; simp; omega, fun b => (h.2 b).trans ⟨?_, ?_⟩⟩
  · rintro ⟨j, hj, o, ho, hb⟩
    exact ⟨j, hj, o, by rw [List.getElem?_append_left (h.1 j hj)]; exact ho, hb⟩
  · rintro ⟨j, hj, o, ho, hb⟩
    exact ⟨j, hj, o, by rw [List.getElem?_append_left (h.1 j hj)] at ho; exact ho, hb⟩
theorem ZOk.setfp {own : Own} {zs : List Nat} {Z : Nat → Prop} (h : ZOk own zs Z) {i : Nat} {o o' : OB} (hi : own[i]? = some o) (hf : ∀ b, o'.fp b ↔ o.fp b) : ZOk (own.set i o') zs Z := by
  have hl := (List.getElem?_eq_some_iff.1 hi).1
  refine ⟨fun j hj => by simpa using h.1 j hj, fun b => (h.2 b).trans ⟨?_, ?_⟩⟩
  · rintro ⟨j, hj, q, hq, hb⟩
    by_cases e : i = j
    · subst e; rw [hi] at hq; cases hq; exact ⟨i, hj, o', List.getElem?_set_self hl, (hf b).2 hb⟩
    · exact ⟨j, hj, q, by rw [List.getElem?_set_ne e]; exact hq, hb⟩
  · rintro ⟨j, hj, q, hq, hb⟩
    by_cases e : i = j
    · subst e; rw [List.getElem?_set_self hl] at hq; cases hq; exact ⟨i, hj, o, hi, (hf b).1 hb⟩
    · exact ⟨j, hj, q, by rw [List.getElem?_set_ne e] at hq; exact hq, hb⟩
def notIn (zs : List Nat) (i : Nat) : Bool := !(zs.any (Nat.beq i))
theorem notIn_spec {zs : List Nat} {i : Nat} (h : notIn zs i = true) : i ∉ zs := fun hx => by
  have : zs.any (Nat.beq i) = true := List.any_eq_true.2 ⟨i, hx, Nat.beq_refl i⟩
  simp [notIn, this] at h
theorem ZOk.setne {own : Own} {zs : List Nat} {Z : Nat → Prop} (h : ZOk own zs Z) {i : Nat} {o' : OB} (hn : i ∉ zs) : ZOk (own.set i o') zs Z := by
  refine ⟨fun j hj => by simpa using h.1 j hj, fun b => (h.2 b).trans ⟨?_, ?_⟩⟩
  · rintro ⟨j, hj, q, hq, hb⟩
    exact ⟨j, hj, q, by rw [List.getElem?_set_ne (fun e : i = j => hn (by rw [e]; exact hj))]; exact hq, hb⟩
  · rintro ⟨j, hj, q, hq, hb⟩
    exact ⟨j, hj, q, by rw [List.getElem?_set_ne (fun e : i = j => hn (by rw [e]; exact hj))] at hq; exact hq, hb⟩
/-- What lies in zs is apart from region i. -/
theorem ZOk.apart {own : Own} {zs : List Nat} {Z : Nat → Prop} (h : ZOk own zs Z) {W : World} (hm : Mem B own W) {i : Nat} {o : OB} (hi : own[i]? = some o) (hn : i ∉ zs) : ∀ b, Z b → ¬ o.fp b := by
  intro b hb hob
  obtain ⟨j, hj, q, hq, hqb⟩ := (h.2 b).1 hb
  exact hm.apart hi hq (fun e => hn (e ▸ hj)) b hob hqb
/-- A store into a region that is not one of zs. -/
def stIn (zs : List Nat) (env : Env) : Op → Bool
  | .store _ x _ => match ev env x with
    | some (.p i _) => notIn zs i
    | _ => false
  | _ => false
theorem stIn_nil {o : Op} {own' : Own} (hv : storeV C env own o = some own') : stIn [] env o = true := by
  unfold storeV at hv
  split at hv
  · split at hv
    · rename_i hx hy
      simp [stIn, hx, notIn]
    · cases hv
  · cases hv
theorem newRow_run {P : Program} (T : TypeId) (cs : Array Value) (W : World) : (newRow T cs).run P W = .ok ⟨W.heap.size, 0, none⟩ (W.alloc (.cells cs T)) := by
  simp [newRow, newObj, bind, Sem.bind, pure, Sem.run]
theorem alloc_new (W : World) (o : Obj) : (W.alloc o).heap[W.heap.size]? = some o := by
  show (W.heap.push o)[W.heap.size]? = some o
  simp
theorem alloc_size (W : World) (o : Obj) : (W.alloc o).heap.size = W.heap.size + 1 := by
  show (W.heap.push o).size = _
  simp
theorem alloc_old (W : World) (o : Obj) {b : Nat} (h : b < W.heap.size) : (W.alloc o).heap[b]? = W.heap[b]? := Below.heap_alloc _ _ _ h
/-- A new region of a block just laid. -/
theorem Rel.push {a : Act} {W : World} (hr : Rel B nt ⟨env, own, dfs⟩ a W) {o : OB} {ob : Obj} {d : Nat} {e : EV} {v : Value} (hd : d < nt) (hreg : Reg B (W.alloc ob) o) (hn : ∀ b, o.fp b → b = W.heap.size) (hv : Den (own ++ [o]) e v) :
    Rel B nt ⟨(d, e) :: env, own ++ [o], dfs⟩ (a.put (some d) v) (W.alloc ob) :=
  hr.put hd e v (OLe.app _ _) hv (hr.mem.push (hr.mem.ext.ext (Ext.alloc _ _)) (by rw [alloc_size]; omega) (fun b hb => alloc_old _ _ hb) hreg (fun b hb => by rw [hn b hb]; exact Nat.le_refl _))
theorem Mem.newb {W : World} (h : Mem B own W) : B.fresh W.heap.size := .inl h.ext.size
theorem ox_new {zs : List Nat} {o : Oper} {N : St → Prop} {d : Nat} {f : Nat → OB} {g : Nat → EV} (hv : newV C env own o.op = some (f, g)) (hdst : o.dst = some d) (hd : Nat.blt d nt = true)
    {own' : Nat → Own} (hw : ∀ n, forceK (snoc own (f n)) some = some (own' n)) (hN : ∀ n, N ⟨(d, g n) :: env, own' n, dfs⟩) : OX C B nt zs o N ⟨env, own, dfs⟩ := by
  obtain ⟨dst, op, ty, pos, af, gu⟩ := o
  have hd' : d < nt := by simpa using hd
  have key : ∀ a W, Rel B nt ⟨env, own, dfs⟩ a W → kind op = 1 ∧ ∃ v ob, (execOp a.eval ⟨dst, op, ty, pos, af, gu⟩).run C.P W = .ok (.value v) (W.alloc ob) ∧ Reg B (W.alloc ob) (f W.heap.size) ∧ (∀ b, (f W.heap.size).fp b → b = W.heap.size) ∧ Den (own ++ [f W.heap.size]) (g W.heap.size) v := by
    intro a W hr
    have last : ∀ o : OB, (own ++ [o])[own.length]? = some o := fun o => by simp
    have fr := hr.mem.newb
    unfold newV at hv
    split at hv
    · rename_i T' x hop
      simp only at hop
      subst hop
      split at hv
      · rename_i e he
        split at hv
        · rename_i v hv'
          split at hv
          · rename_i ℓ hℓ
            have hℓ := idxL_eq hℓ
            subst hℓ
            rw [forceK_eq] at hv
            cases hv
            have hx := (hr.at he).val hv'
            refine ⟨rfl, _, .cells v.cells T', ?_, ⟨fr, by rw [alloc_new]⟩, fun b hb => hb, ⟨_, _, _, last _, rfl, rfl⟩⟩
            simp only [execOp, hx, Instr.box, newVar, Sem.run_bind, newRow_run, Result.andThen_ok, Sem.run_pure, Nat.zero_add]
          · cases hv
        · cases hv
      · cases hv
    · rename_i T' hop
      simp only at hop
      subst hop
      split at hv
      · rename_i t ht
        split at hv
        · rename_i ℓ hℓ
          have hℓ := idxL_eq hℓ
          subst hℓ
          rw [forceK_eq] at hv
          cases hv
          refine ⟨rfl, _, .cells t.zv.cells T', ?_, ⟨fr, by rw [alloc_new]⟩, fun b hb => hb, ⟨_, _, _, last _, rfl, rfl⟩⟩
          simp only [execOp, Instr.alloc, Sem.run_bind, (C.ok _ t ht).z, Result.andThen_ok, newVar, newRow_run, Sem.run_pure, Nat.zero_add]
        · cases hv
      · cases hv
    · rename_i T' len ps hop
      simp only at hop
      subst hop
      split at hv
      · rename_i t ht
        split at hv
        · rename_i e es ℓ he hℓ
          have hℓ := idxL_eq hℓ
          subst hℓ
          obtain ⟨hu, hes⟩ := (C.ok _ t ht).c e es he
          split at hv
          · rename_i te hte
            split at hv
            · rename_i q hq
              cases hc : (Nat.ble (len * es) 16777216 && Nat.beq te.zv.cells.toList.length es && Nat.blt 0 es) with
              | false => rw [hc] at hv; cases hv
              | true =>
                rw [hc, cond_true] at hv
                split at hv
                · rename_i cs hb
                  rw [forceK_eq] at hv
                  cases hv
                  simp only [Bool.and_eq_true] at hc
                  have h1 := Nat.le_of_ble_eq_true hc.1.1
                  have h2 := Nat.eq_of_beq_eq_true hc.1.2
                  have h3 : 0 < es := by simpa using hc.2
                  simp only [Array.length_toList] at h2
                  have hlen := buildV_len _ _ _ _ hb
                  simp only [repZ_len, Array.length_toList, h2] at hlen
                  have hm := evParts_eval hr hq
                  have hps : ∀ (f : Nat × Operand → Nat × Value), (⟨ps⟩ : Array (Nat × Operand)).map f = (ps.map f).toArray := fun f => by rw [← List.map_toArray]
                  have hf := fill_eq (fun i => some (i * es, es)) q (repZ te.zv.cells.toList len).toArray cs (by simpa using hb)
                  refine ⟨rfl, .slice (some ⟨W.heap.size, 0, none⟩) len len, .cells cs.toArray e, ?_, ⟨fun h0 => ?_, fun h0 => ⟨W.heap.size, cs.toArray, rfl, fr, alloc_new _ _, by simpa using hlen, by omega, fun j v hj => by simpa using hj⟩⟩, ?_, ⟨_, _, last _, rfl, fun _ => ⟨_, _, rfl, rfl⟩⟩⟩
                  · have hgt : ¬ (len * es > 2 ^ 24) := by
                      have : (2 : Nat) ^ 24 = 16777216 := by decide
                      omega
                    simp only [execOp, Instr.buildSlice, hps, hm, Sem.run_bind, run_underlying hu, hes, Result.andThen_ok, if_neg hgt, Sem.run_pure]
                    by_cases h0 : len * es = 0
                    · have hl0 : len = 0 := by rcases Nat.mul_eq_zero.1 h0 with h | h; exact h; omega
                      subst hl0
                      simp only [repZ] at hf
                      simp only [if_pos h0, h0, show Array.range 0 = #[] from rfl, Array.map_empty, if_true, Sem.run_bind, Sem.run_pure, Result.andThen_ok]
                      have hf' : Instr.fill (fun i => some (i * es, es)) #[] q = some cs.toArray := hf
                      simp only [hf', Sem.run_bind, newRow_run, Result.andThen_ok, Sem.run_pure]
                    · have hr2 := repZ_eq te.zv.cells len
                      rw [h2] at hr2
                      simp only [if_neg h0, Sem.run_bind, (C.ok _ te hte).z, Result.andThen_ok, Sem.run_pure, h2, hr2, hf, newRow_run]
                  · exact List.length_eq_zero_iff.1 (by rw [hlen, h0])
                  · rintro b ⟨_, x, hx, rfl⟩
                    cases hx; rfl
                · cases hv
            · cases hv
          · cases hv
        · cases hv
      · cases hv
    · rename_i T' hop
      simp only at hop
      subst hop
      cases hv
      refine ⟨rfl, _, .map #[] 0, ?_, ⟨fr, alloc_new _ _⟩, fun b hb => hb, rfl⟩
      simp [execOp, Instr.makeMap, newObj, bind, Sem.bind, pure, Sem.run]
    · cases hv
  intro a W Z hr hz nxt Q hn
  obtain ⟨hk, v, ob, hrun, hreg, hfp, hden⟩ := key a W hr
  unfold Oper.wp
  rw [hrun, Oper.upon_value, hdst]
  have hNn := hN W.heap.size
  have hww := hw W.heap.size
  rw [forceK_eq, snoc_eq] at hww
  rw [← Option.some.inj hww] at hNn
  exact hn _ _ _ hNn (hr.push hd' hreg hfp hden) hz.app (Kept.ext (by rw [hk]; decide) (Ext.alloc _ _))

theorem ox_store {zs : List Nat} {o : Oper} {own' : Own} {N : St → Prop} (hv : storeV C env own o.op = some own') (hin : stIn zs env o.op = true) (hdst : o.dst = none) (hN : N ⟨env, own', dfs⟩) : OX C B nt zs o N ⟨env, own, dfs⟩ := by
  obtain ⟨dst, op, ty, pos, af, g⟩ := o
  simp only at hdst
  subst hdst
  intro a W Z hr hz nxt Q hn
  unfold storeV at hv
  split at hv
  · rename_i T x y hop
    simp only at hop
    subst hop
    split at hv
    · rename_i i off e hx hy
      have hno : i ∉ zs := by
        simp only [stIn, hx] at hin
        exact notIn_spec hin
      split at hv
      · rename_i v t n T' cs hval ht hi
        cases hc : (Nat.beq v.cells.toList.length t.size && v.cells.toList.all Value.oneCell && Nat.ble (off + v.cells.toList.length) cs.length) with
        | false => rw [hc] at hv; cases hv
        | true =>
          rw [hc] at hv
          simp only [cond_true, forceK_eq, Option.some.injEq] at hv
          subst hv
          simp only [Bool.and_eq_true] at hc
          obtain ⟨⟨h1, h2⟩, h3⟩ := hc
          rw [nth_eq] at hi
          have hp := (hr.at hx).blk hi
          have hyv := (hr.at hy).val hval
          have hreg := hr.mem.at hi
          obtain ⟨W', hrun, g2, g3, g4, g5, g6, g7, g8⟩ := storeCells_run (P := C.P) (n := n) (T := T') v.cells.toList cs off 0 W hreg.2 (by simpa using Nat.le_of_ble_eq_true h3) (List.all_eq_true.1 h2)
          have hex : (execOp a.eval ⟨none, .store T x y, ty, pos, af, g⟩).run C.P W = .ok .skip W' := by
            have hs : v.cells.size = t.size := by simpa using Nat.eq_of_beq_eq_true h1
            simp only [execOp, hp, hyv, Instr.storeAt, Instr.sureAddr, storeVar, Sem.run_bind, Sem.run_pure, Result.andThen_ok, (C.ok T t ht).s, hs, ne_eq, not_true_eq_false, if_false, hrun]
          have hxt : ExtG B W' := hr.mem.ext.turn (f := fun b => b = n) (fun b hb => by cases hb; exact hreg.1) g5 g6 g7 (by omega) (Dr.le (by omega)) (fun b _ hb => g4 b hb)
          unfold Oper.wp
          rw [hex, Oper.upon_skip]
          refine hn _ _ _ hN ?_ (hz.setfp hi fun b => Iff.rfl) (Kept.mk3 rfl (fun h => by simp [kind] at h) (fun _ => ⟨hxt, by omega⟩) (fun _ b hb _ => g4 b fun e => hz.apart hr.mem hi hno b hb e))
          exact hr.keep (OLe.set hi rfl) (hr.mem.upd hi (fun b hb => hb) hxt (by omega) (fun b _ hb => g4 b hb) ⟨hreg.1, by simpa using g2⟩)
      · cases hv
    · cases hv
  · cases hv

/-! ### the steps of a region in the text's order -/
theorem gslot_eq {ops : Array Oper} {j s : Nat} (h : gslot ops j = some s) : (ops[j]?).bind (·.dst) = some s := by
  unfold gslot at h
  split at h
  · rename_i o ho
    rw [nth_eq] at ho
    have : ops[j]? = some o := by simpa using ho
    rw [this]; exact h
  · cases h
theorem gst_spec {ops : Array Oper} {g : Option (Nat × Bool)} {b : Bool} {a : Act} {W : World} (hr : Rel B nt ⟨env, own, dfs⟩ a W) (h : gst ops env g = some b) {o : Oper} (ho : o.guard = g) : Region.wanted o (yielded ops a.tmps) = b := by
  unfold Region.wanted
  rw [ho]
  unfold gst at h
  split at h
  · cases h; rfl
  · rename_i j want
    split at h
    · rename_i s hs
      have hs' := gslot_eq hs
      have hy : ∀ u, a.tmps.getD s undef = .bool u → yielded ops a.tmps j = some u := by
        intro u hu
        simp only [yielded, hs', Option.bind_some]
        rw [Array.getD_eq_getD_getElem?] at hu
        cases hc : a.tmps[s]? with
        | none => rw [hc] at hu; simp [undef] at hu
        | some x => rw [hc] at hu; simp at hu; rw [hu]
      have hz : a.tmps.getD s undef = .tuple #[] → yielded ops a.tmps j = none := by
        intro hu
        simp only [yielded, hs', Option.bind_some]
        rw [Array.getD_eq_getD_getElem?] at hu
        cases hc : a.tmps[s]? with
        | none => rfl
        | some x => rw [hc] at hu; simp at hu; rw [hu]
      split at h
      · rename_i he
        cases h
        have := hr.env s _ he
        simp only [hy _ this]
        cases b <;> rfl
      · rename_i he
        cases h
        have := hr.env s _ he
        simp only [hy _ this]
        cases want <;> rfl
      · rename_i he
        cases h
        have := hr.env s _ he
        simp only [hz this]
        rfl
      · cases h
    · cases h

theorem wpi_wanted {ops : Array Oper} {o : Oper} {rest : List Oper} {a : Act} {W : World} {Q : Exit → Act → World → Prop} (hw : Region.wanted o (yielded ops a.tmps) = true) (hd : noDefer o.op = true) (h : o.wp C.P a W (wpListI (Fw ρ) C.P ops Q rest) Q) : wpListI (Fw ρ) C.P ops Q (o :: rest) a W := by
  unfold wpListI
  rw [if_pos hw]
  exact oper_in hd h
theorem jl_x {ops : Array Oper} {o : Oper} {rest : List Oper} (hg : gst ops env o.guard = some true) (hd : noDefer o.op = true) (h : OX C B nt [] o (JL C B nt ρ ops K rest) ⟨env, own, dfs⟩) : JL C B nt ρ ops K (o :: rest) ⟨env, own, dfs⟩ := by
  intro a W hr
  exact wpi_wanted (gst_spec hr hg rfl) hd (h a W _ hr (ZOk.none _) _ _ fun σ' a' W' hn hr' _ _ => hn a' W' hr')
theorem jl_v {ops : Array Oper} {o : Oper} {rest : List Oper} {d : Nat} {e : EV} (hg : gst ops env o.guard = some true) (hnd : noDefer o.op = true) (hd : o.dst = some d) (hlt : Nat.blt d nt = true) (hv : OV C B nt o e ⟨env, own, dfs⟩)
    (h : JL C B nt ρ ops K rest ⟨(d, e) :: env, own, dfs⟩) : JL C B nt ρ ops K (o :: rest) ⟨env, own, dfs⟩ := jl_x hg hnd (OV.ox hd (by simpa using hlt) hv h)
theorem pure_ov {o : Oper} {e : EV} (hv : pureV C env own o.op = some e) : OV C B nt o e ⟨env, own, dfs⟩ := pure_sound (dst := o.dst) (ty := o.type) (pos := o.pos) (af := o.after) (g := o.guard) hv
theorem jl_p {ops : Array Oper} {o : Oper} {rest : List Oper} {d : Nat} {e : EV} (hg : gst ops env o.guard = some true) (hnd : noDefer o.op = true) (hv : pureV C env own o.op = some e) (hd : o.dst = some d) (hlt : Nat.blt d nt = true)
    (h : JL C B nt ρ ops K rest ⟨(d, e) :: env, own, dfs⟩) : JL C B nt ρ ops K (o :: rest) ⟨env, own, dfs⟩ := jl_v hg hnd hd hlt (pure_ov hv) h
/-- The same, the value in another form. -/
theorem OV.as {o : Oper} {v v' : Value} (h : OV C B nt o (.v v) σ) (e : v = v') : OV C B nt o (.v v') σ := e ▸ h
theorem cmpInts_same : ∀ {xs : List Value} {r : Bool}, cmpInts xs xs = some r → r = true
  | [], r, h => by simp only [cmpInts, Option.some.injEq] at h; exact h.symm
  | x :: xs, r, h => by
    unfold cmpInts at h
    split at h
    · simp_all
    · rename_i k a xs' k' b ys' hx hy
      simp only [List.cons.injEq] at hx hy
      obtain ⟨rfl, rfl⟩ := hx
      obtain ⟨h1, rfl⟩ := hy
      cases h1
      cases hk : sameKind k k with
      | false => simp [hk] at h
      | true =>
        simp only [hk, cond_true] at h
        split at h
        · rename_i h0
          cases h
          rw [cmpInts_same h0, eqB_eq]
          simp
        · cases h
    · cases h
/-- Two that are the same are equal. -/
theorem binV_same {T : TypeId} {v u : Value} (h : binV C .eql T v v = some u) : u = .bool true := by
  cases v with
  | int k a =>
    simp only [binV] at h
    cases hk : sameKind k k with
    | false => simp [hk] at h
    | true => simp only [hk, cond_true, binInt, Option.some.injEq] at h; rw [← h, eqB_eq]; simp
  | agg xs =>
    simp only [binV] at h
    cases he : C.eqs T with
    | false => simp [he] at h
    | true =>
      simp only [he, cond_true] at h
      split at h
      · rename_i t ht
        cases hl : Nat.beq xs.toList.length t.size with
        | false => simp only [hl, cond_false] at h; cases h
        | true =>
          simp only [hl, cond_true] at h
          split at h
          · rename_i r hr; cases h; rw [cmpInts_same hr]
          · rename_i h1 _; cases h1
          · cases h
      · cases h
  | bool a =>
    simp only [binV] at h
    split at h
    · rename_i t ht
      cases hl : Nat.beq t.tag 1 with
      | false => simp only [hl, cond_false] at h; cases h
      | true =>
        simp only [hl, cond_true, Option.some.injEq] at h
        rw [← h]; simp
    · cases h
  | string a => simp only [binV, Option.some.injEq] at h; rw [← h]; simp [strB]
  | nilFunc =>
    simp only [binV, funcEq] at h
    split at h
    · rename_i r t hr ht
      cases hr
      cases hl : Nat.beq t.tag 3 with
      | false => simp only [hl, cond_false] at h; cases h
      | true => simp only [hl, cond_true, Option.some.injEq] at h; rw [← h]
    · cases h
  | _ => simp [binV, funcEq] at h
def isSome {α : Type} : Option α → Bool
  | some _ => true
  | none => false
theorem same_sound {T T' : TypeId} {x y : Operand} {v : Value} (hx : ev env x = some (.v v)) (hy : ev env y = some (.v v)) (hp : isSome (binV C .eql T v v) = true) {dst : Option Tmp} {ty : TypeId} {pos : String} {af : Array Edge} {g : Option (Nat × Bool)} :
    OV C B nt ⟨dst, .binOp .eql T x y T', ty, pos, af, g⟩ (.v (.bool true)) ⟨env, own, dfs⟩ := by
  cases hb : binV C .eql T v v with
  | none => rw [hb] at hp; cases hp
  | some u =>
    have hu := binV_same hb
    subst hu
    exact pure_sound (op := .binOp .eql T x y T') (e := .v (.bool true)) (by simp only [pureV, hx, hy, hb])
theorem jl_same {ops : Array Oper} {rest : List Oper} {d : Nat} {T T' : TypeId} {x y : Operand} {v : Value} {ty : TypeId} {pos : String} {af : Array Edge} {g : Option (Nat × Bool)} (hg : gst ops env g = some true) (hx : ev env x = some (.v v)) (hy : ev env y = some (.v v)) (hp : isSome (binV C .eql T v v) = true) (hlt : Nat.blt d nt = true)
    (h : JL C B nt ρ ops K rest ⟨(d, .v (.bool true)) :: env, own, dfs⟩) : JL C B nt ρ ops K (⟨some d, .binOp .eql T x y T', ty, pos, af, g⟩ :: rest) ⟨env, own, dfs⟩ := jl_v (o := ⟨some d, .binOp .eql T x y T', ty, pos, af, g⟩) hg rfl rfl hlt (same_sound hx hy hp) h
theorem jl_s {ops : Array Oper} {o : Oper} {rest : List Oper} {d : Nat} (hg : gst ops env o.guard = some false) (hd : o.dst = some d) (hlt : Nat.blt d nt = true)
    (h : JL C B nt ρ ops K rest ⟨(d, .v (.tuple ⟨[]⟩)) :: env, own, dfs⟩) : JL C B nt ρ ops K (o :: rest) ⟨env, own, dfs⟩ := by
  intro a W hr
  unfold wpListI
  rw [if_neg (by rw [gst_spec hr hg rfl]; decide), hd]
  exact h _ _ (hr.put (by simpa using hlt) _ _ (OLe.refl _) rfl hr.mem)
theorem jl_st {ops : Array Oper} {o : Oper} {rest : List Oper} {own' : Own} (hg : gst ops env o.guard = some true) (hnd : noDefer o.op = true) (hv : storeV C env own o.op = some own') (hdst : o.dst = none) (h : JL C B nt ρ ops K rest ⟨env, own', dfs⟩) : JL C B nt ρ ops K (o :: rest) ⟨env, own, dfs⟩ :=
  jl_x hg hnd (ox_store hv (stIn_nil hv) hdst h)
theorem jl_n {ops : Array Oper} {o : Oper} {rest : List Oper} {f : Nat → OB} {g : Nat → EV} {d : Nat} (hg : gst ops env o.guard = some true) (hnd : noDefer o.op = true) (hv : newV C env own o.op = some (f, g)) (hdst : o.dst = some d) (hd : Nat.blt d nt = true)
    {own' : Nat → Own} (hw : ∀ n, forceK (snoc own (f n)) some = some (own' n)) (h : ∀ n, JL C B nt ρ ops K rest ⟨(d, g n) :: env, own' n, dfs⟩) : JL C B nt ρ ops K (o :: rest) ⟨env, own, dfs⟩ :=
  jl_x hg hnd (ox_new hv hdst hd hw h)
theorem less_bool {g : Nat} {b c : Bool} (hv : eget env g = some (.v (.bool b))) (hc : c = b) : ∀ d e, eget ((g, EV.v (.bool c)) :: env) d = some e → eget env d = some e := by
  intro d v h
  by_cases e : g = d
  · subst e; rw [eget_cons_self] at h; cases h; rw [hc]; exact hv
  · rw [eget_cons_ne e] at h; exact h
/-- A guard that is not decided: both ways. -/
theorem jl_split {ops : Array Oper} {o : Oper} {rest : List Oper} {j g : Nat} {b c : Bool} (ho : o.guard = some (j, c)) (hg : gslot ops j = some g) (hv : eget env g = some (.v (.bool b)))
    (ht : b = true → JL C B nt ρ ops K (o :: rest) ⟨(g, .v (.bool true)) :: env, own, dfs⟩) (hf : b = false → JL C B nt ρ ops K (o :: rest) ⟨(g, .v (.bool false)) :: env, own, dfs⟩) : JL C B nt ρ ops K (o :: rest) ⟨env, own, dfs⟩ := by
  intro a W hr
  cases b
  · exact hf rfl a W (hr.less (less_bool hv rfl))
  · exact ht rfl a W (hr.less (less_bool hv rfl))
theorem jl_split_lt {ops : Array Oper} {o : Oper} {rest : List Oper} {j g : Nat} {p q : Int} {c : Bool} (ho : o.guard = some (j, c)) (hg : gslot ops j = some g) (hv : eget env g = some (.v (.bool (ltB p q))))
    (ht : p < q → JL C B nt ρ ops K (o :: rest) ⟨(g, .v (.bool true)) :: env, own, dfs⟩) (hf : q ≤ p → JL C B nt ρ ops K (o :: rest) ⟨(g, .v (.bool false)) :: env, own, dfs⟩) : JL C B nt ρ ops K (o :: rest) ⟨env, own, dfs⟩ :=
  jl_split ho hg hv (fun h => ht (by rw [ltB_eq] at h; simpa using h)) (fun h => hf (by rw [ltB_eq] at h; simpa using h))
theorem jl_split_ge {ops : Array Oper} {o : Oper} {rest : List Oper} {j g : Nat} {p q : Int} {c : Bool} (ho : o.guard = some (j, c)) (hg : gslot ops j = some g) (hv : eget env g = some (.v (.bool (!(ltB p q)))))
    (ht : q ≤ p → JL C B nt ρ ops K (o :: rest) ⟨(g, .v (.bool true)) :: env, own, dfs⟩) (hf : p < q → JL C B nt ρ ops K (o :: rest) ⟨(g, .v (.bool false)) :: env, own, dfs⟩) : JL C B nt ρ ops K (o :: rest) ⟨env, own, dfs⟩ :=
  jl_split ho hg hv (fun h => ht (by rw [ltB_eq] at h; simpa using h)) (fun h => hf (by rw [ltB_eq] at h; simpa using h))
theorem jl_split_eq {ops : Array Oper} {o : Oper} {rest : List Oper} {j g : Nat} {p q : Int} {c : Bool} (ho : o.guard = some (j, c)) (hg : gslot ops j = some g) (hv : eget env g = some (.v (.bool (eqB p q))))
    (ht : p = q → JL C B nt ρ ops K (o :: rest) ⟨(g, .v (.bool true)) :: env, own, dfs⟩) (hf : p ≠ q → JL C B nt ρ ops K (o :: rest) ⟨(g, .v (.bool false)) :: env, own, dfs⟩) : JL C B nt ρ ops K (o :: rest) ⟨env, own, dfs⟩ :=
  jl_split ho hg hv (fun h => ht (by rw [eqB_eq] at h; simpa using h)) (fun h => hf (by rw [eqB_eq] at h; simpa using h))
theorem jl_split_ne {ops : Array Oper} {o : Oper} {rest : List Oper} {j g : Nat} {p q : Int} {c : Bool} (ho : o.guard = some (j, c)) (hg : gslot ops j = some g) (hv : eget env g = some (.v (.bool (!(eqB p q)))))
    (ht : p ≠ q → JL C B nt ρ ops K (o :: rest) ⟨(g, .v (.bool true)) :: env, own, dfs⟩) (hf : p = q → JL C B nt ρ ops K (o :: rest) ⟨(g, .v (.bool false)) :: env, own, dfs⟩) : JL C B nt ρ ops K (o :: rest) ⟨env, own, dfs⟩ :=
  jl_split ho hg hv (fun h => ht (by rw [eqB_eq] at h; simpa using h)) (fun h => hf (by rw [eqB_eq] at h; simpa using h))

/-! ### calls -/
def Enters (P : Program) (f : FuncId) : Prop := ∀ args w, (callFunc f args).run P w = .ok (.enter f args) w
/-- What is said of an argument. -/
inductive AS where
  | x (v : Value)
  /-- A slice, n long, with room for c, whose cells read so. -/
  | r (n c : Nat) (ys : List Value)
  /-- A pointer behind which the cells read so. -/
  | q (ys : List Value)
def RdS (W : World) (a : Option Addr) (ys : List Value) : Prop := ∀ (j : Nat) (v : Value), ys[j]? = some v → ∃ b lo, a = some ⟨b, lo, none⟩ ∧ W.cell? ⟨b, lo + j, none⟩ = some v
def AS.ok (W : World) : AS → Value → Prop
  | .x v, u => u = v
  | .r n c ys, u => ∃ a, u = .slice a n c ∧ RdS W a ys ∧ (c ≠ 0 → ∃ b lo, a = some ⟨b, lo, none⟩) ∧ n ≤ c
  | .q ys, u => ∃ a, u = .pointer a ∧ RdS W a ys ∧ ys ≠ []
def ASs (W : World) : List AS → List Value → Prop
  | [], [] => True
  | s :: ss, u :: us => s.ok W u ∧ ASs W ss us
  | _, _ => False
/-- A callee's contract. -/
def Con (P : Program) (f : FuncId) (as : List AS) (R : World → Ending → World → Prop) : Prop := ∀ W us, ASs W as us → Calls P f us.toArray W (R W)
def Sub (xs : List Value) (off : Nat) (ys : List Value) : Prop := ∀ (j : Nat) (v : Value), ys[j]? = some v → xs[off + j]? = some v
theorem Sub.refl (xs : List Value) : Sub xs 0 xs := fun j v h => by rw [Nat.zero_add]; exact h
theorem Sub.nil (xs : List Value) (off : Nat) : Sub xs off [] := fun j v h => by simp at h
/-- What the state says of an argument. -/
inductive AM (own : Own) : List EV → List AS → Prop
  | nil : AM own [] []
  | x {e es v as} : val own e = some v → AM own es as → AM own (e :: es) (.x v :: as)
  | r {i off n c xs ys es as} : contAt own i = some xs → Sub xs off ys → (c = 0 → ys = []) → n ≤ c → AM own es as → AM own (.s i off n c :: es) (.r n c ys :: as)
  | q {i off xs ys es as} : contAt own i = some xs → Sub xs off ys → ys ≠ [] → AM own es as → AM own (.p i off :: es) (.q ys :: as)
  | w {i n T xs off ys es as} : nth own i = some (.blk n T xs) → Sub xs off ys → ys ≠ [] → AM own es as → AM own (.v (.pointer (some ⟨n, off, none⟩)) :: es) (.q ys :: as)
  | u {i off n c b lo o xs ys es as} : nth own i = some o → o.key = some ⟨b, lo, none⟩ → cont o = some xs → Sub xs off ys → n ≤ c → AM own es as → AM own (.v (.slice (some ⟨b, lo + off, none⟩) n c) :: es) (.r n c ys :: as)
theorem AM.ok {es : List EV} {as : List AS} (h : AM own es as) {W : World} (hm : Mem B own W) : ∀ {us}, Dens own es us → ASs W as us := by
  induction h with
  | nil => intro us hd; cases hd; trivial
  | x hv _ ih => intro us hd; cases hd with | cons h1 h2 => exact ⟨h1.val hv, ih h2⟩
  | @r i off n c xs ys es as hc hs h0 hnc _ ih =>
    intro us hd
    cases hd with
    | cons h1 h2 =>
      refine ⟨?_, ih h2⟩
      obtain ⟨o, a, ho, rfl, hk⟩ := h1
      refine ⟨a, rfl, fun j v hj => ?_, fun hc0 => let ⟨b, lo, _, h3⟩ := hk hc0; ⟨b, lo + off, h3⟩, hnc⟩
      obtain ⟨o', ho', hco⟩ := contAt_spec hc
      rw [ho] at ho'; cases ho'
      have hc0 : c ≠ 0 := fun e => by rw [h0 e] at hj; simp at hj
      obtain ⟨b, lo, hk1, rfl⟩ := hk hc0
      obtain ⟨b', lo', hk', hcell⟩ := hm.cell ho hco (hs j v hj)
      rw [hk1] at hk'; cases hk'
      exact ⟨b, lo + off, rfl, by rw [Nat.add_assoc]; exact hcell⟩
  | @q i off xs ys es as hc hs h0 _ ih =>
    intro us hd
    cases hd with
    | cons h1 h2 =>
      refine ⟨?_, ih h2⟩
      obtain ⟨b, o, rfl, hcell⟩ := hm.cellAt hc h1
      exact ⟨_, rfl, fun j v hj => ⟨b, o, rfl, hcell j v (hs j v hj)⟩, h0⟩
  | @w i n T xs off ys es as hi hs h0 _ ih =>
    intro us hd
    cases hd with
    | cons h1 h2 =>
      refine ⟨?_, ih h2⟩
      cases h1
      rw [nth_eq] at hi
      refine ⟨_, rfl, fun j v hj => ⟨n, off, rfl, ?_⟩, h0⟩
      obtain ⟨b, lo, hk, hcell⟩ := hm.cell (xs := xs) hi rfl (hs j v hj)
      cases hk
      simpa using hcell
  | @u i off n c b lo o xs ys es as hi hk hc hs hnc _ ih =>
    intro us hd
    cases hd with
    | cons h1 h2 =>
      refine ⟨?_, ih h2⟩
      cases h1
      rw [nth_eq] at hi
      refine ⟨_, rfl, fun j v hj => ?_, fun _ => ⟨_, _, rfl⟩, hnc⟩
      obtain ⟨b', lo', hk', hcell⟩ := hm.cell hi hc (hs j v hj)
      rw [hk] at hk'; cases hk'
      exact ⟨b, lo + off, rfl, by rw [Nat.add_assoc]; exact hcell⟩
theorem Dens.app {es fs : List EV} {us vs : List Value} (h : Dens own es us) (k : Dens own fs vs) : Dens own (es ++ fs) (us ++ vs) := by
  induction h with
  | nil => exact k
  | cons h1 _ ih => exact .cons h1 ih
theorem Dens.vals : ∀ (vs : List Value), Dens own (vs.map EV.v) vs
  | [] => .nil
  | _ :: r => .cons rfl (Dens.vals r)
def mapV : List Value → List EV
  | [] => []
  | v :: r => .v v :: mapV r
theorem mapV_eq : ∀ (l : List Value), mapV l = l.map EV.v
  | [] => rfl
  | v :: r => by simp [mapV, mapV_eq r]
def notRo : OB → Bool
  | .ro _ _ => false
  | .abs _ _ => false
  | _ => true
theorem Reg.lift {W W' : World} (hm : Mem B own W) {o : OB} (h : Reg (Bas.of W) W' o) (hn : notRo o = true) : Reg B W' o := by
  have fr : ∀ b, (Bas.of W).fresh b → B.fresh b := fun b hb => .inl (Nat.le_trans hm.ext.size (hb.resolve_right fun x => x))
  cases o with
  | blk n T cs => exact ⟨fr n h.1, h.2⟩
  | row a T m xs => exact ⟨h.1, fun h0 => let ⟨b, cs, ha, hf, h1⟩ := h.2 h0; ⟨b, cs, ha, fr b hf, h1⟩⟩
  | ro a xs => cases hn
  | obj n o => exact ⟨fr n h.1, h.2⟩
  | frz n xs => exact ⟨fr n h.1, h.2⟩
  | abs f inv => cases hn
  | dead a => trivial
/-- What a callee has made joins the caller's memory. -/
theorem Mem.join {own news : Own} {W W' : World} (hm : Mem B own W) (h : Mem (Bas.of W) news W') (hn : ∀ o ∈ news, notRo o = true) : Mem B (own ++ news) W' :=
  have hx := h.ext.to
  hm.app (hm.ext.ext hx) hx.below.size hx.below.block (fun o ho => (h.reg o ho).lift hm (hn o ho)) h.disj fun o ho b hb => ((h.reg o ho).fresh hb).resolve_right fun x => x
/-- Returned G x, where what is in the regions O x has been made. -/
def PG {ι : Type} (φ : ι → Prop) (G : ι → Value) (O : ι → Own) (W : World) (e : Ending) (W' : World) : Prop := ∃ x, φ x ∧ e = .returned (G x) ∧ Mem (Bas.of W) (O x) W'
/-- A row of the callee's making: n elements of k cells, which read xs. -/
def PS (T k n : Nat) (xs : List Value) (W : World) (e : Ending) (W' : World) : Prop := ∃ a c, n ≤ c ∧ 0 < k ∧ e = .returned (.slice a n c) ∧ Mem (Bas.of W) [.row a T (c * k) xs] W'
theorem PV.pg {W W' : World} {e : Ending} {v : Value} (h : PV W v e W') : PG (fun _ : Unit => True) (fun _ => v) (fun _ => []) W e W' := ⟨(), trivial, h.1, ⟨ExtG.of h.2, fun _ h => absurd h (by simp), List.Pairwise.nil⟩⟩
theorem PG.pv {W W' : World} {e : Ending} {v : Value} (h : PG (fun _ : Unit => True) (fun _ => v) (fun _ => []) W e W') : PV W v e W' := let ⟨_, _, h1, h2⟩ := h; ⟨h1, h2.ext.to⟩
theorem run_call {c : Call} {W : World} {a : Act} {f : Nat} {first cap : Array Value} {fo : Operand} {xs : List Operand} (hr : Rel B nt ⟨env, own, dfs⟩ a W) (hf : ev env fo = some (.v (.func (.func f) first cap))) (he : Enters C.P f)
    (hc : c = ⟨.value fo, ⟨xs⟩, c.argTypes⟩) (o : Oper) (ho : o.op = .call c) : (execOp a.eval o).run C.P W = .ok (.enter f (first ++ (xs.map a.eval).toArray ++ cap)) W := by
  have hm : xs.toArray.map a.eval = (xs.map a.eval).toArray := by rw [List.map_toArray]
  unfold execOp
  rw [ho, hc]
  simp only [resolve, hm, hr.atv hf, Deferred.ofValue, Sem.run_bind, Sem.run_pure, Result.andThen_ok, invoke]
  exact he _ _
/-- A call by its contract. -/
theorem ox_con {zs : List Nat} {ι : Type} {φ : ι → Prop} {G : ι → Value} {O : ι → Own} {N : St → Prop} {d : Nat} {ty : TypeId} {pos : String} {af : Array Edge} {g : Option (Nat × Bool)} (f : Nat) {first cap : List Value} {fo : Operand} {xs : List Operand} {es : List EV} {as : List AS} {at_ : Array TypeId} (he : Enters C.P f)
    (hc : Con C.P f as (PG φ G O)) (hf : ev env fo = some (.v (.func (.func f) ⟨first⟩ ⟨cap⟩))) (hxs : evs env xs = some es) {fs : List EV} (hfs : appL (mapV first) (appL es (mapV cap)) = fs) (ha : AM own fs as) (hd : Nat.blt d nt = true) (ho : ∀ x, (O x).all notRo = true)
    {own' : ι → Own} (hw : ∀ x, forceK (appL own (O x)) some = some (own' x)) (hN : ∀ x, φ x → N ⟨(d, .v (G x)) :: env, own' x, dfs⟩) : OX C B nt zs ⟨some d, .call ⟨.value fo, ⟨xs⟩, at_⟩, ty, pos, af, g⟩ N ⟨env, own, dfs⟩ := by
  intro a W Z hr hz nxt Q hn
  unfold Oper.wp
  rw [run_call hr hf he rfl _ rfl, Oper.upon_enter]
  rw [← hfs, appL_eq, appL_eq, mapV_eq, mapV_eq] at ha
  have hds : Dens own (first.map EV.v ++ (es ++ cap.map EV.v)) (first ++ (xs.map a.eval ++ cap)) := (Dens.vals _).app ((evs_den hr hxs).app (Dens.vals _))
  have hcall := hc W _ (ha.ok hr.mem hds)
  rw [show (⟨first⟩ : Array Value) ++ (xs.map a.eval).toArray ++ ⟨cap⟩ = (first ++ (xs.map a.eval ++ cap)).toArray by simp]
  refine hcall.mono ?_
  rintro e W' ⟨x, hx, rfl, hm⟩
  have hNx := hN x hx
  have hww := hw x
  rw [forceK_eq, appL_eq] at hww
  rw [← Option.some.inj hww] at hNx
  have hall : ∀ o ∈ O x, notRo o = true := List.all_eq_true.1 (ho x)
  exact hn _ _ _ hNx (hr.put (by simpa using hd) _ _ (OLe.app _ _) rfl (hr.mem.join hm hall)) hz.app (Kept.ext (by simp [kind]) hm.ext.to)
/-- A call that gives a row. -/
theorem ox_cons {zs : List Nat} {T k n : Nat} {ys : List Value} {N : St → Prop} {d : Nat} {ty : TypeId} {pos : String} {af : Array Edge} {g : Option (Nat × Bool)} (f : Nat) {first cap : List Value} {fo : Operand} {xs : List Operand} {es : List EV} {as : List AS} {at_ : Array TypeId} (he : Enters C.P f)
    (hc : Con C.P f as (PS T k n ys)) (hf : ev env fo = some (.v (.func (.func f) ⟨first⟩ ⟨cap⟩))) (hxs : evs env xs = some es) {fs : List EV} (hfs : appL (mapV first) (appL es (mapV cap)) = fs) (ha : AM own fs as) (hd : Nat.blt d nt = true)
    {ℓ : Nat} (hℓ : idxL own = some ℓ) {own' : Nat → Option Addr → Own} (hw : ∀ c a, forceK (snoc own (.row a T (c * k) ys)) some = some (own' c a)) (hN : ∀ c, n ≤ c → ∀ a, N ⟨(d, .s ℓ 0 n c) :: env, own' c a, dfs⟩) : OX C B nt zs ⟨some d, .call ⟨.value fo, ⟨xs⟩, at_⟩, ty, pos, af, g⟩ N ⟨env, own, dfs⟩ := by
  intro a W Z hr hz nxt Q hn
  unfold Oper.wp
  rw [run_call hr hf he rfl _ rfl, Oper.upon_enter]
  rw [← hfs, appL_eq, appL_eq, mapV_eq, mapV_eq] at ha
  have hds : Dens own (first.map EV.v ++ (es ++ cap.map EV.v)) (first ++ (xs.map a.eval ++ cap)) := (Dens.vals _).app ((evs_den hr hxs).app (Dens.vals _))
  have hcall := hc W _ (ha.ok hr.mem hds)
  rw [show (⟨first⟩ : Array Value) ++ (xs.map a.eval).toArray ++ ⟨cap⟩ = (first ++ (xs.map a.eval ++ cap)).toArray by simp]
  refine hcall.mono ?_
  rintro e W' ⟨ad, c, hc, hk0, rfl, hm⟩
  have hℓ := idxL_eq hℓ
  subst hℓ
  have hNx := hN c hc ad
  have hww := hw c ad
  rw [forceK_eq, snoc_eq] at hww
  rw [← Option.some.inj hww] at hNx
  refine hn _ _ _ hNx (hr.put (by simpa using hd) _ _ (OLe.app _ _) ⟨.row ad T (c * k) ys, ad, by simp, rfl, fun h0 => ?_⟩ (hr.mem.join hm (by simp [notRo]))) hz.app (Kept.ext (by simp [kind]) hm.ext.to)
  obtain ⟨b, cs, hb, _⟩ := (hm.reg _ (List.mem_singleton.2 rfl)).2 (Nat.mul_ne_zero h0 (by omega))
  exact ⟨b, 0, hb, hb⟩
/-- A call with plain arguments of a function that gives v and turns nothing. -/
theorem ox_pvf {zs : List Nat} {N : St → Prop} {d : Nat} {ty : TypeId} {pos : String} {af : Array Edge} {g : Option (Nat × Bool)} (f : Nat) {fo : Operand} {first cap : List Value} {xs : List Operand} {vs : List Value} {at_ : Array TypeId} {v : Value} {us : List Value} (hc : ∀ W, Calls C.P f us.toArray W (PV W v)) (hf : ev env fo = some (.v (.func (.func f) ⟨first⟩ ⟨cap⟩))) (hxs : argsV env own xs = some vs) (hus : appL first (appL vs cap) = us) (hd : Nat.blt d nt = true) (he : Enters C.P f)
    (hN : N ⟨(d, .v v) :: env, own, dfs⟩) : OX C B nt zs ⟨some d, .call ⟨.value fo, ⟨xs⟩, at_⟩, ty, pos, af, g⟩ N ⟨env, own, dfs⟩ := by
  intro a W Z hr hz nxt Q hn
  unfold Oper.wp
  rw [run_call hr hf he rfl _ rfl, Oper.upon_enter, argsV_eval hr hxs]
  have hcall := hc W
  rw [← hus, appL_eq, appL_eq] at hcall
  rw [show (⟨first⟩ : Array Value) ++ vs.toArray ++ ⟨cap⟩ = (first ++ (vs ++ cap)).toArray by simp]
  refine hcall.mono ?_
  rintro e W' ⟨rfl, hx⟩
  exact hn _ _ _ hN (hr.put (by simpa using hd) _ _ (OLe.refl _) rfl (hr.mem.ext' hx)) hz (Kept.ext (by simp [kind]) hx)
end rules
end Go.Proofs.YtpfjolckhlgodaaDoor
