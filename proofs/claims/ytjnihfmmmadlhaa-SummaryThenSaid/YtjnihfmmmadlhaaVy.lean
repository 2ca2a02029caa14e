/- The evaluator of single operations, and that it says what the model does. -/
import Derived.Test.YtjnihfmmmadlhaaVx
import Derived.Laws.Sem
import Derived.Wp
import Derived.Laws.Small
namespace Go.Proofs.Ytjnihfmmmadlhaa
open Go Go.RowKit

/-! ## what an operation gives -/
def nth {α : Type} : List α → Nat → Option α
  | [], _ => none
  | x :: _, 0 => some x
  | _ :: r, n + 1 => nth r n
theorem nth_eq {α : Type} : ∀ (l : List α) (n : Nat), nth l n = l[n]?
  | [], _ => rfl
  | _ :: _, 0 => rfl
  | _ :: r, n + 1 => by simpa [nth] using nth_eq r n
def takeN (cs : List Value) (off : Nat) : Nat → Option (List Value)
  | 0 => some []
  | k + 1 => match nth cs off with
    | some v => match takeN cs (off + 1) k with
      | some r => some (v :: r)
      | none => none
    | none => none
theorem takeN_spec : ∀ {k : Nat} {cs : List Value} {off : Nat} {vs : List Value}, takeN cs off k = some vs → vs.length = k ∧ ∀ (j : Nat) (v : Value), vs[j]? = some v → cs[off + j]? = some v
  | 0, cs, off, vs, h => by simp only [takeN, Option.some.injEq] at h; subst h; exact ⟨rfl, fun j v h => by simp at h⟩
  | k + 1, cs, off, vs, h => by
    unfold takeN at h
    split at h
    · rename_i v hv
      split at h
      · rename_i r hr
        cases h
        obtain ⟨h1, h2⟩ := takeN_spec hr
        refine ⟨by simp [h1], fun j u hj => ?_⟩
        cases j with
        | zero => simp at hj; subst hj; rw [← nth_eq]; exact hv
        | succ j => have := h2 j u (by simpa using hj); rw [show off + (j + 1) = off + 1 + j by omega]; exact this
      · cases h
    · cases h
def minI (a b : Int) : Int := bif ltB b a then b else a
def maxI (a b : Int) : Int := bif ltB a b then b else a
theorem minI_eq (a b : Int) : minI a b = min a b := by
  unfold minI; rw [ltB_eq]
  by_cases h : b < a
  · simp [h]; omega
  · simp [h]; omega
theorem maxI_eq (a b : Int) : maxI a b = max a b := by
  unfold maxI; rw [ltB_eq]
  by_cases h : a < b
  · simp [h]; omega
  · simp [h]; omega
/-- Both operands whole numbers of one kind: what the operation gives. -/
def binInt (op : BinOp) (k : IntKind) (a b : Int) : Option Value :=
  match op with
  | .add => some (.int k (k.wrap (a + b)))
  | .sub => some (.int k (k.wrap (a - b)))
  | .mul => some (.int k (k.wrap (a * b)))
  | .eql => some (.bool (eqB a b))
  | .neq => some (.bool (!(eqB a b)))
  | .lss => some (.bool (ltB a b))
  | .leq => some (.bool (!(ltB b a)))
  | .gtr => some (.bool (ltB b a))
  | .geq => some (.bool (!(ltB a b)))
  | _ => none
def binV (C : Ctx) (op : BinOp) (T : TypeId) : Value → Value → Option Value
  | .int k a, .int k' b => bif sameKind k k' then binInt op k a b else none
  | .agg xs, .agg ys => bif C.eqs T then match C.ent T with
    | some t => bif Nat.beq xs.toList.length t.size then match op, cmpInts xs.toList ys.toList with
      | .eql, some r => some (.bool r)
      | .neq, some r => some (.bool (!r))
      | _, _ => none
      else none
    | none => none
    else none
  | .bool a, .bool b => match C.ent T with
    | some t => bif Nat.beq t.tag 1 then match op with
      | .eql => some (.bool (a == b))
      | .neq => some (.bool (!(a == b)))
      | _ => none
      else none
    | none => none
  | _, _ => none
def intOf2 : Int → Option Nat
  | .ofNat n => some n
  | .negSucc _ => none
def loadV (C : Ctx) (own : Own) (T : TypeId) : EV → Option EV
  | .p i off => match nth own i with
    | some (_, _, cs) => match C.ent T with
      | some t => match t.agg with
        | true => match takeN cs off t.size with
          | some vs => some (.v (.agg vs.toArray))
          | none => none
        | false => match nth cs off with
          | some v => some (.v v)
          | none => none
      | none => none
    | none => none
  | _ => none
def fieldV (C : Ctx) (T : TypeId) (f : Nat) : EV → Option EV
  | .p i off => match C.ent T with
    | some t => match nth t.flds f with
      | some o => some (.p i (off + o))
      | none => none
    | none => none
  | _ => none
def indexAddrV (C : Ctx) (T : TypeId) : EV → EV → Option EV
  | .p i off, .v (.int _ n) => match C.ent T with
    | some t => match t.arr with
      | some (len, es) => match intOf2 n with
        | some m => bif Nat.blt m len then some (.p i (off + m * es)) else none
        | none => none
      | none => none
    | none => none
  | _, _ => none
def indexV (C : Ctx) (T : TypeId) : EV → EV → Option EV
  | .v (.agg cs), .v (.int _ n) => match C.ent T with
    | some t => match t.arr with
      | some (len, 1) => match intOf2 n with
        | some m => bif Nat.blt m len then match nth cs.toList m with
          | some v => some (.v v)
          | none => none
          else none
        | none => none
      | _ => none
    | none => none
  | _, _ => none
def builtinV (C : Ctx) (b : Builtin) (ts : List TypeId) : List EV → Option EV
  | [.v (.int k x), .v (.int k' y)] => bif sameKind k k' then match b with
    | .min => some (.v (.int k (minI x y)))
    | .max => some (.v (.int k (maxI x y)))
    | _ => none
    else none
  | [.v (.slice _ n _)] => match b, ts with
    | .len, [T] => match C.ent T with
      | some t => match t.slc with
        | some _ => some (.v (.int .i64 n))
        | none => none
      | none => none
    | _, _ => none
  | _ => none
/-- Cells written from a place on. -/
def setAt (cs : List Value) (off : Nat) : List Value → List Value
  | [] => cs
  | v :: vs => setAt (cs.set off v) (off + 1) vs
def forceK {α β : Type} : List α → (List α → Option β) → Option β
  | [], k => k []
  | x :: r, k => forceK r fun r' => k (x :: r')
theorem forceK_eq {α β : Type} : ∀ (l : List α) (k : List α → Option β), forceK l k = k l
  | [], _ => rfl
  | x :: r, k => by unfold forceK; rw [forceK_eq r]
/-- A composite value: its parts laid over nought. -/
def buildV (pl : Nat → Option (Nat × Nat)) : List (Nat × Value) → List Value → Option (List Value)
  | [], cs => some cs
  | (i, v) :: r, cs => match pl i with
    | some (off, size) => bif Nat.beq v.cells.toList.length size && Nat.ble (off + v.cells.toList.length) cs.length then forceK (setAt cs off v.cells.toList) fun cs' => buildV pl r cs'
      else none
    | none => none
theorem setAt_len : ∀ (vs cs : List Value) (off : Nat), (setAt cs off vs).length = cs.length
  | [], _, _ => rfl
  | v :: vs, cs, off => by unfold setAt; rw [setAt_len vs]; simp
theorem foldl_setAt : ∀ (vs : List Value) (cs : Array Value) (off j : Nat), ((vs.zipIdx j).foldl (fun cs (p : Value × Nat) => cs.setIfInBounds (off + p.2) p.1) cs).toList = setAt cs.toList (off + j) vs
  | [], cs, off, j => by simp [setAt]
  | v :: vs, cs, off, j => by
    simp only [List.zipIdx_cons, List.foldl_cons, setAt]
    rw [foldl_setAt vs _ off (j + 1)]
    simp [Nat.add_assoc]
theorem fill_eq (pl : Nat → Option (Nat × Nat)) : ∀ (ps : List (Nat × Value)) (cs : Array Value) (r : List Value), buildV pl ps cs.toList = some r → Instr.fill pl cs ps = some r.toArray
  | [], cs, r, h => by simp only [buildV, Option.some.injEq] at h; subst h; simp [Instr.fill]
  | (i, v) :: ps, cs, r, h => by
    unfold buildV at h
    split at h
    · rename_i off size hp
      cases hc : (Nat.beq v.cells.toList.length size && Nat.ble (off + v.cells.toList.length) cs.toList.length) with
      | false => rw [hc] at h; cases h
      | true =>
        rw [hc, cond_true, forceK_eq] at h
        simp only [Bool.and_eq_true] at hc
        have h1 := Nat.eq_of_beq_eq_true hc.1
        have h2 := Nat.le_of_ble_eq_true hc.2
        simp only [Array.length_toList] at h1 h2
        unfold Instr.fill
        simp only [hp]
        rw [if_neg (by simp [h1]; omega)]
        refine fill_eq pl ps _ r ?_
        have := foldl_setAt v.cells.toList cs off 0
        rw [← Array.foldl_toList]
        simp only [Array.toList_zipIdx, Nat.add_zero] at this ⊢
        rw [this]; exact h
    · cases h
def placeS (t : Ty) (i : Nat) : Option (Nat × Nat) := match nth t.flds i, nth t.fsz i with
  | some o, some s => some (o, s)
  | _, _ => none
def evParts (env : Env) (own : Own) : List (Nat × Operand) → Option (List (Nat × Value))
  | [] => some []
  | (i, x) :: r => match ev env x with
    | some e => match val own e with
      | some v => match evParts env own r with
        | some q => some ((i, v) :: q)
        | none => none
      | none => none
    | none => none
/-- The arguments, as values. -/
def argsV (env : Env) (own : Own) : List Operand → Option (List Value)
  | [] => some []
  | x :: xs => match ev env x with
    | some e => match val own e with
      | some v => match argsV env own xs with
        | some r => some (v :: r)
        | none => none
      | none => none
    | none => none
def evs (env : Env) : List Operand → Option (List EV)
  | [] => some []
  | x :: xs => match ev env x with
    | some e => match evs env xs with
      | some r => some (e :: r)
      | none => none
    | none => none
def pureV (C : Ctx) (env : Env) (own : Own) : Op → Option EV
  | .move x | .assign x => ev env x
  | .pick c x y => match ev env c with
    | some (.v (.bool true)) => ev env x
    | some (.v (.bool false)) => ev env y
    | _ => none
  | .binOp op T x y _ => match ev env x, ev env y with
    | some (.v a), some (.v b) => match binV C op T a b with
      | some v => some (.v v)
      | none => none
    | _, _ => none
  | .unOp .not _ x => match ev env x with
    | some (.v (.bool b)) => some (.v (.bool (!b)))
    | _ => none
  | .unOp .neg _ x => match ev env x with
    | some (.v (.int k n)) => some (.v (.int k (k.wrap (0 - n))))
    | _ => none
  | .extract x i => match ev env x with
    | some (.v (.tuple vs)) => match nth vs.toList i with
      | some v => some (.v v)
      | none => none
    | _ => none
  | .load T x => match ev env x with
    | some e => loadV C own T e
    | none => none
  | .fieldAddr T x f => match ev env x with
    | some e => fieldV C T f e
    | none => none
  | .indexAddr T x y => match ev env x, ev env y with
    | some e, some e' => indexAddrV C T e e'
    | _, _ => none
  | .index T x y => match ev env x, ev env y with
    | some e, some e' => indexV C T e e'
    | _, _ => none
  | .call ⟨.builtin b, ⟨xs⟩, ⟨ts⟩⟩ => match evs env xs with
    | some es => builtinV C b ts es
    | none => none
  | .build T ⟨ps⟩ => match C.ent T, evParts env own ps with
    | some t, some q => match t.arr with
      | some (_, es) => match buildV (fun i => some (i * es, es)) q t.zv.cells.toList with
        | some r => some (.v (.agg r.toArray))
        | none => none
      | none => match t.flds with
        | _ :: _ => match buildV (placeS t) q t.zv.cells.toList with
          | some r => some (.v (.agg r.toArray))
          | none => none
        | [] => none
    | _, _ => none
  | .makeFunc fn ⟨[]⟩ ⟨xs⟩ => match argsV env own xs with
    | some vs => some (.v (.func fn ⟨[]⟩ vs.toArray))
    | none => none
  | _ => none

section sound
variable {C : Ctx} {B : World} {nt : Nat} {env : Env} {own : Own} {base : World}

theorem Mem.lt {σ : St} {W : World} (h : Mem B σ W) {e : Nat × TypeId × List Value} (he : e ∈ σ.own) : e.1 < W.heap.size := by
  have := (h.own e he).2
  rcases Nat.lt_or_ge e.1 W.heap.size with h' | h'
  · exact h'
  · simp [Array.getElem?_eq_none h'] at this
/-- The cells of an own block. -/
theorem Mem.cell {σ : St} {W : World} (h : Mem B σ W) {n : Nat} {T : TypeId} {cs : List Value} (he : (n, T, cs) ∈ σ.own) {off : Nat} {v : Value} (hv : cs[off]? = some v) : W.cell? ⟨n, off, none⟩ = some v := by
  have := (h.own _ he).2
  simp only [World.cell?, this]
  simpa using hv

theorem addr_add (n off i : Nat) : (⟨n, off, none⟩ : Addr).add i = ⟨n, off + i, none⟩ := by
  unfold Addr.add
  split
  · subst_vars; rfl
  · rfl

theorem loadCells_run {P : Program} {W : World} {n : Nat} : ∀ (vs : List Value) (off i : Nat) (acc : Array Value), (∀ j v, vs[j]? = some v → W.cell? ⟨n, off + (i + j), none⟩ = some v) →
    (loadCellsFrom ⟨n, off, none⟩ i vs.length acc).run P W = .ok (acc ++ vs.toArray) W
  | [], off, i, acc, _ => by simp [loadCellsFrom]
  | v :: vs, off, i, acc, h => by
    have h0 := h 0 v rfl
    simp only [List.length_cons, loadCellsFrom, load, addr_add]
    simp only [Nat.add_zero] at h0
    simp only [bind, Sem.bind, Sem.run, h0]
    have := loadCells_run (P := P) (W := W) (n := n) vs off (i + 1) (acc.push v) (fun j u hj => by have := h (j + 1) u (by simpa using hj); rw [show i + 1 + j = i + (j + 1) by omega]; exact this)
    rw [this]
    simp


theorem binV_run {op : BinOp} {T : TypeId} {a b v : Value} (h : binV C op T a b = some v) (x y : Operand) (w : World) : (do eqGuard op T x y a b; binOp op T a b : Sem Value).run C.P w = .ok v w := by
  unfold binV at h
  split at h
  · rename_i k a k' b
    cases hk : sameKind k k' with
    | false => simp [hk] at h
    | true =>
      simp only [hk, cond_true] at h
      have := sameKind_eq hk
      subst this
      cases op <;> simp only [binInt, Option.some.injEq, reduceCtorEq] at h <;> subst h <;> simp [eqGuard, binOp, Op.intArith, Op.intCmp, ltB_eq, eqB_eq, bne] <;> first | rfl | (rw [Bool.eq_iff_iff]; simp)
  · rename_i xs ys
    cases he : C.eqs T with
    | false => simp [he] at h
    | true =>
      simp only [he, cond_true] at h
      split at h
      · rename_i t ht
        cases hl : Nat.beq xs.toList.length t.size with
        | false => simp only [hl, cond_false] at h; cases h
        | true =>
          simp only [hl, cond_true] at h
          split at h
          · rename_i r hr
            cases h
            obtain ⟨h1, _, h2, _⟩ := C.eqok T t xs.toList ys.toList r he ht (Nat.eq_of_beq_eq_true hl) hr x y w
            simp only [Sem.run_bind]
            simp only [Array.toArray_toList] at h1 h2
            rw [h1, Result.andThen_ok, h2]
          · rename_i r hr
            cases h
            obtain ⟨_, h1, _, h2⟩ := C.eqok T t xs.toList ys.toList r he ht (Nat.eq_of_beq_eq_true hl) hr x y w
            simp only [Sem.run_bind]
            simp only [Array.toArray_toList] at h1 h2
            rw [h1, Result.andThen_ok, h2]
          · cases h
      · cases h
  · split at h
    · rename_i t ht
      cases hl : Nat.beq t.tag 1 with
      | false => simp only [hl, cond_false] at h; cases h
      | true =>
        simp only [hl, cond_true] at h
        have hb := (C.ok T t ht).b (Nat.eq_of_beq_eq_true hl)
        rename_i a b _
        have he1 := run_eql_bool w T a b hb
        have he2 := run_neq_bool w T a b hb
        split at h
        · cases h
          rw [Sem.run_bind]
          simp [eqGuard, he1]
        · cases h
          rw [Sem.run_bind]
          simp [eqGuard, he2]
        · cases h
    · cases h
  · cases h

theorem ov_of {o : Oper} {e : EV} (h : ∀ a W, Rel B nt ⟨env, own, base⟩ a W → ∃ v, Den own e v ∧ (execOp a.eval o).run C.P W = .ok (.value v) W) : OV C B nt o e ⟨env, own, base⟩ := h

inductive Dens (own : Own) : List EV → List Value → Prop
  | nil : Dens own [] []
  | cons {e v es vs} : Den own e v → Dens own es vs → Dens own (e :: es) (v :: vs)
theorem evs_den {a : Act} {W : World} (hr : Rel B nt ⟨env, own, base⟩ a W) : ∀ {xs : List Operand} {es : List EV}, evs env xs = some es → Dens own es (xs.map a.eval)
  | [], es, h => by simp only [evs, Option.some.injEq] at h; subst h; exact .nil
  | x :: xs, es, h => by
    unfold evs at h
    split at h
    · rename_i e he
      split at h
      · rename_i r hr'
        cases h
        exact .cons (hr.at he) (evs_den hr hr')
      · cases h
    · cases h

theorem argsV_eval {a : Act} {W : World} (hr : Rel B nt ⟨env, own, base⟩ a W) : ∀ {xs : List Operand} {vs : List Value}, argsV env own xs = some vs → xs.map a.eval = vs
  | [], vs, h => by simp only [argsV, Option.some.injEq] at h; subst h; rfl
  | x :: xs, vs, h => by
    unfold argsV at h
    split at h
    · rename_i e he
      split at h
      · rename_i v hv
        split at h
        · rename_i r hr'
          cases h
          rw [List.map_cons, (hr.at he).val hv, argsV_eval hr hr']
        · cases h
      · cases h
    · cases h

theorem evParts_eval {a : Act} {W : World} (hr : Rel B nt ⟨env, own, base⟩ a W) : ∀ {ps : List (Nat × Operand)} {q : List (Nat × Value)}, evParts env own ps = some q → ps.map (fun p => (p.1, a.eval p.2)) = q
  | [], q, h => by simp only [evParts, Option.some.injEq] at h; subst h; rfl
  | (i, x) :: ps, q, h => by
    unfold evParts at h
    split at h
    · rename_i e he
      split at h
      · rename_i v hv
        split at h
        · rename_i r hr'
          cases h
          rw [List.map_cons, (hr.at he).val hv, evParts_eval hr hr']
        · cases h
      · cases h
    · cases h
theorem zip_nth : ∀ (l m : List Nat) (i : Nat), (match nth l i, nth m i with | some o, some s => some (o, s) | _, _ => none) = (l.zip m)[i]?
  | [], m, i => by simp [nth]
  | _ :: _, [], i => by cases i <;> simp [nth]
  | a :: l, b :: m, 0 => by simp [nth]
  | a :: l, b :: m, i + 1 => by simpa [nth] using zip_nth l m i

theorem pure_sound {op : Op} {e : EV} (h : pureV C env own op = some e) {dst : Option Tmp} {ty : TypeId} {pos : String} {af : Array Edge} {g : Option (Nat × Bool)} : OV C B nt ⟨dst, op, ty, pos, af, g⟩ e ⟨env, own, base⟩ := by
  intro a W hr
  unfold pureV at h
  split at h
  · exact ⟨_, hr.at h, by simp only [execOp]; rfl⟩
  · exact ⟨_, hr.at h, by simp only [execOp]; rfl⟩
  · split at h
    · rename_i hc
      exact ⟨_, hr.at h, by simp only [execOp, hr.atv hc]; rfl⟩
    · rename_i hc
      exact ⟨_, hr.at h, by simp only [execOp, hr.atv hc]; rfl⟩
    · cases h
  · split at h
    · rename_i x y hx hy
      split at h
      · rename_i v hv
        cases h
        refine ⟨_, rfl, ?_⟩
        have := binV_run hv
        simp only [execOp, hr.atv hx, hr.atv hy]
        rw [Sem.run_bind, this]
        rfl
      · cases h
    · cases h
  · split at h
    · rename_i hx
      cases h
      exact ⟨_, rfl, by simp only [execOp, hr.atv hx]; rfl⟩
    · cases h
  · split at h
    · rename_i hx
      cases h
      exact ⟨_, rfl, by simp only [execOp, hr.atv hx]; rfl⟩
    · cases h
  · rename_i x i
    split at h
    · rename_i vs hx
      split at h
      · rename_i v hv
        cases h
        refine ⟨_, rfl, ?_⟩
        rw [nth_eq] at hv
        have hv' : vs[i]? = some v := by simpa using hv
        simp only [execOp, hr.atv hx, Instr.extract, hv']
        rfl
      · cases h
    · cases h
  · -- load
    split at h
    · rename_i e' hx
      unfold loadV at h
      split at h
      · rename_i i off
        split at h
        · rename_i n T' cs hi
          rw [nth_eq] at hi
          have hmem := List.mem_of_getElem? hi
          obtain ⟨b, hb, hp⟩ := hr.at hx
          have hb' : b = (n, T', cs) := Option.some.inj (hb.symm.trans hi)
          subst hb'
          split at h
          · rename_i t ht
            split at h
            · rename_i ha
              split at h
              · rename_i vs hvs
                cases h
                obtain ⟨h1, h2⟩ := takeN_spec hvs
                have hc := loadCells_run (P := C.P) (W := W) (n := n) vs off 0 #[] (fun j v hj => hr.mem.cell hmem (by simpa using h2 j v hj))
                refine ⟨_, rfl, ?_⟩
                simp only [execOp, hp, Instr.loadAt, Instr.sureAddr, loadVar, Sem.run_bind, Sem.run_pure, Result.andThen_ok, (C.ok _ t ht).a, ha, (C.ok _ t ht).s, ← h1, loadCells, if_true, hc]
                simp
              · cases h
            · rename_i ha
              split at h
              · rename_i v hv
                cases h
                rw [nth_eq] at hv
                have hc := hr.mem.cell hmem hv
                refine ⟨_, rfl, ?_⟩
                simp only [execOp, hp, Instr.loadAt, Instr.sureAddr, loadVar, Sem.run_bind, Sem.run_pure, Result.andThen_ok, (C.ok _ t ht).a, ha]
                simp [load, Sem.run, hc]
              · cases h
          · cases h
        · cases h
      · cases h
    · cases h
  · -- fieldAddr
    split at h
    · rename_i e' hx
      unfold fieldV at h
      split at h
      · rename_i i off
        split at h
        · rename_i t ht
          split at h
          · rename_i o ho
            cases h
            rw [nth_eq] at ho
            obtain ⟨b, hb, hp⟩ := hr.at hx
            refine ⟨_, ⟨b, hb, rfl⟩, ?_⟩
            simp only [execOp, hp, Sem.run_bind, (C.ok _ t ht).f _ o ho, Result.andThen_ok]
            rfl
          · cases h
        · cases h
      · cases h
    · cases h
  · -- indexAddr
    split at h
    · rename_i x y hx hy
      unfold indexAddrV at h
      split at h
      · rename_i i off k n
        split at h
        · rename_i t ht
          split at h
          · rename_i len es ha
            split at h
            · rename_i m hm
              cases hl : Nat.blt m len with
              | false => simp [hl] at h
              | true =>
                simp only [hl, cond_true, Option.some.injEq] at h
                subst h
                have hn : n = (m : Int) := by
                  cases n with
                  | ofNat j => simp only [intOf2, Option.some.injEq] at hm; rw [hm]; rfl
                  | negSucc j => simp [intOf2] at hm
                subst hn
                have hlt : m < len := by simpa using hl
                obtain ⟨b, hb, hp⟩ := hr.at hx
                obtain ⟨e1, hu, hs, _⟩ := (C.ok _ t ht).g len es ha
                refine ⟨_, ⟨b, hb, rfl⟩, ?_⟩
                simp only [execOp, hp, hr.atv hy, Instr.indexAt, asIntOf, Sem.run_bind, Sem.run_pure, Result.andThen_ok, run_underlying hu, Instr.sureAddr]
                simp [hs, hlt, addr_add]
            · cases h
          · cases h
        · cases h
      · cases h
    · cases h
  · -- index
    split at h
    · rename_i x y hx hy
      unfold indexV at h
      split at h
      · rename_i cs k n
        split at h
        · rename_i t ht
          split at h
          · rename_i len ha
            split at h
            · rename_i m hm
              cases hl : Nat.blt m len with
              | false => simp [hl] at h
              | true =>
                simp only [hl, cond_true] at h
                split at h
                · rename_i v hv
                  cases h
                  have hn : n = (m : Int) := by
                    cases n with
                    | ofNat j => simp only [intOf2, Option.some.injEq] at hm; rw [hm]; rfl
                    | negSucc j => simp [intOf2] at hm
                  subst hn
                  have hlt : m < len := by simpa using hl
                  obtain ⟨e1, hu, hs, hag⟩ := (C.ok _ t ht).g len 1 ha
                  rw [nth_eq] at hv
                  have hv' : cs[m]? = some v := by simpa using hv
                  refine ⟨_, rfl, ?_⟩
                  simp only [execOp, hr.atv hx, hr.atv hy, Instr.index, asIntOf, Sem.run_bind, Sem.run_pure, Result.andThen_ok, run_underlying hu]
                  simp [hs, hlt, part, hag, hv']
                · cases h
            · cases h
          · cases h
        · cases h
      · cases h
    · cases h
  · -- built-in functions
    rename_i b xs ts
    split at h
    · rename_i es hes
      obtain ⟨us, hus, hd⟩ : ∃ us, xs.map a.eval = us ∧ Dens own es us := ⟨_, rfl, evs_den hr hes⟩
      unfold builtinV at h
      split at h
      · rename_i k x k' y
        cases hk : sameKind k k' with
        | false => simp [hk] at h
        | true =>
          simp only [hk, cond_true] at h
          have := sameKind_eq hk
          subst this
          have hm : xs.map a.eval = [.int k x, .int k y] := by
            rw [hus]
            cases hd with
            | cons h1 hd => cases hd with
              | cons h2 hd => cases hd; rw [h1, h2]
          split at h
          · cases h
            refine ⟨_, rfl, ?_⟩
            have e : (if y < x then y else x) = minI x y := by rw [minI_eq]; split <;> omega
            rw [← e]
            simp only [execOp, resolve, List.map_toArray, hm, Sem.run_bind, Sem.run_pure, Result.andThen_ok, invoke, builtin, Builtin.min_, List.foldlM, Builtin.min2]
          · cases h
            refine ⟨_, rfl, ?_⟩
            have e : (if y > x then y else x) = maxI x y := by rw [maxI_eq]; split <;> omega
            rw [← e]
            simp only [execOp, resolve, List.map_toArray, hm, Sem.run_bind, Sem.run_pure, Result.andThen_ok, invoke, builtin, Builtin.max_, List.foldlM, Builtin.max2]
          · cases h
      · rename_i s n c
        split at h
        · rename_i T
          split at h
          · rename_i t ht
            split at h
            · rename_i e1 he1
              cases h
              have hm : xs.map a.eval = [.slice s n c] := by
                rw [hus]
                cases hd with
                | cons h1 hd => cases hd; rw [h1]
              refine ⟨_, rfl, ?_⟩
              simp only [execOp, resolve, List.map_toArray, hm, Sem.run_bind, Sem.run_pure, Result.andThen_ok, invoke, builtin, Builtin.len_]
              simp [run_underlying ((C.ok _ t ht).c _ he1)]
              rfl
            · cases h
          · cases h
        · cases h
      · cases h
    · cases h
  · -- build
    rename_i T ps
    have hps : ∀ (f : Nat × Operand → Nat × Value), (⟨ps⟩ : Array (Nat × Operand)).map f = (ps.map f).toArray := fun f => by rw [← List.map_toArray]
    split at h
    · rename_i t q ht hq
      have hm := evParts_eval hr hq
      split at h
      · rename_i len es ha
        split at h
        · rename_i r hb
          cases h
          obtain ⟨e, hu, hs, _⟩ := (C.ok _ t ht).g len es ha
          refine ⟨_, rfl, ?_⟩
          have hf := fill_eq (fun i => some (i * es, es)) q t.zv.cells r hb
          simp only [execOp, hps, hm, Instr.build, Sem.run_bind, (C.ok _ t ht).z, Result.andThen_ok, run_underlying hu, hs, hf, Sem.run_pure]
        · cases h
      · split at h
        · rename_i x y hfl
          split at h
          · rename_i r hb
            cases h
            obtain ⟨fs, hu, hmp⟩ := (C.ok _ t ht).m x y hfl
            refine ⟨_, rfl, ?_⟩
            have hpl : (fun i => ((t.flds.zip t.fsz).toArray)[i]?) = placeS t := by
              funext i
              unfold placeS
              rw [zip_nth]
              simp
            have hf := fill_eq (placeS t) q t.zv.cells r hb
            rw [← hpl] at hf
            simp only [execOp, hps, hm, Instr.build, Sem.run_bind, (C.ok _ t ht).z, Result.andThen_ok, run_underlying hu, hmp, hf, Sem.run_pure]
          · cases h
        · cases h
    · cases h
  · -- makeFunc
    rename_i fn xs
    split at h
    · rename_i vs hvs
      cases h
      refine ⟨_, rfl, ?_⟩
      have hm : (⟨xs⟩ : Array Operand).map a.eval = vs.toArray := by rw [← argsV_eval hr hvs, ← List.map_toArray]
      simp only [execOp, Instr.makeFunc, hm]
      simp
    · cases h
  · cases h
end sound
end Go.Proofs.Ytjnihfmmmadlhaa
