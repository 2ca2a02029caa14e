/- The evaluator of single operations, and that it says what the model does. -/
import Derived.Test.YtpfjolckhlgodaaDoorWa
import Derived.Laws.Sem
import Derived.Wp
import Derived.Laws.Small
namespace Go.Proofs.YtpfjolckhlgodaaDoor
open Go Go.RowKit

def isFuncB : Option TypeDesc → Bool
  | some (.func _ _ _) => true
  | _ => false
theorem isFunc_of {d : Option TypeDesc} (h : isFuncB d = true) : ∃ a b c, d = some (.func a b c) := by
  unfold isFuncB at h
  split at h
  · exact ⟨_, _, _, rfl⟩
  · cases h
/-! ## what an operation gives -/
def takeN (cs : List Value) (off : Nat) : Nat → Option (List Value)
  | 0 => some []
  | k + 1 => match nth cs off with
    | some v => match takeN cs (off + 1) k with
      | some r => some (v :: r)
      | none => none
    | none => none
theorem takeN_spec : ∀ {k : Nat} {cs : List Value} {off : Nat} {vs : List Value}, takeN cs off k = some vs → vs.length = k ∧ ∀ (j : Nat) (v : Value), vs[j]? = some v → cs[off + j]? = some v
  | 0, cs, off, vs, h => by simp only [takeN, Option.some.injEq] at h; subst h; exact ⟨rfl, fun j v h => by simp at h⟩
  | k + 1, cs, off, vs, h => by
    unfold takeN at h
    split at h
    · rename_i v hv
      split at h
      · rename_i r hr
        cases h
        obtain ⟨h1, h2⟩ := takeN_spec hr
        refine ⟨by simp [h1], fun j u hj => ?_⟩
        cases j with
        | zero => simp at hj; subst hj; rw [← nth_eq]; exact hv
        | succ j => have := h2 j u (by simpa using hj); rw [show off + (j + 1) = off + 1 + j by omega]; exact this
      · cases h
    · cases h
def minI (a b : Int) : Int := bif ltB b a then b else a
def maxI (a b : Int) : Int := bif ltB a b then b else a
theorem minI_eq (a b : Int) : minI a b = min a b := by
  unfold minI; rw [ltB_eq]
  by_cases h : b < a
  · simp [h]; omega
  · simp [h]; omega
theorem maxI_eq (a b : Int) : maxI a b = max a b := by
  unfold maxI; rw [ltB_eq]
  by_cases h : a < b
  · simp [h]; omega
  · simp [h]; omega
/-- Both operands whole numbers of one kind: what the operation gives. -/
def bitsI (op : BinOp) (k : IntKind) (a b : Int) : Int := match op with
  | .and => k.wrap (BitVec.ofInt k.bits a &&& BitVec.ofInt k.bits b).toNat
  | .or => k.wrap (BitVec.ofInt k.bits a ||| BitVec.ofInt k.bits b).toNat
  | .xor => k.wrap (BitVec.ofInt k.bits a ^^^ BitVec.ofInt k.bits b).toNat
  | _ => k.wrap (BitVec.ofInt k.bits a &&& ~~~(BitVec.ofInt k.bits b)).toNat
def shI (op : BinOp) (k : IntKind) (a b : Int) : Int := match op with
  | .shl => k.wrap (a * 2 ^ (min b.toNat k.bits))
  | _ => a.fdiv (2 ^ (min b.toNat k.bits))
def binInt (op : BinOp) (k : IntKind) (a b : Int) : Option Value :=
  match op with
  | .add => some (.int k (k.wrap (a + b)))
  | .sub => some (.int k (k.wrap (a - b)))
  | .mul => some (.int k (k.wrap (a * b)))
  | .eql => some (.bool (eqB a b))
  | .neq => some (.bool (!(eqB a b)))
  | .lss => some (.bool (ltB a b))
  | .leq => some (.bool (!(ltB b a)))
  | .gtr => some (.bool (ltB b a))
  | .geq => some (.bool (!(ltB a b)))
  | .and => some (.int k (bitsI .and k a b))
  | .or => some (.int k (bitsI .or k a b))
  | .xor => some (.int k (bitsI .xor k a b))
  | .andNot => some (.int k (bitsI .andNot k a b))
  | .quo => bif eqB b 0 then none else some (.int k (k.wrap (a.tdiv b)))
  | .rem => bif eqB b 0 then none else some (.int k (a.tmod b))
  | _ => none
def strB (a b : ByteArray) : Bool := a.toList == b.toList
def funcEq : Value → Value → Option Bool
  | .nilFunc, .nilFunc => some true
  | .nilFunc, .func .. => some false
  | .func .., .nilFunc => some false
  | _, _ => none
def binV (C : Ctx) (op : BinOp) (T : TypeId) : Value → Value → Option Value
  | .int k a, .int k' b => match op with
    | .shl => bif ltB b 0 then none else some (.int k (shI .shl k a b))
    | .shr => bif ltB b 0 then none else some (.int k (shI .shr k a b))
    | op => bif sameKind k k' then binInt op k a b else none
  | .agg xs, .agg ys => bif C.eqs T then match C.ent T with
    | some t => bif Nat.beq xs.toList.length t.size then match op, cmpInts xs.toList ys.toList with
      | .eql, some r => some (.bool r)
      | .neq, some r => some (.bool (!r))
      | _, _ => none
      else none
    | none => none
    else none
  | .bool a, .bool b => match C.ent T with
    | some t => bif Nat.beq t.tag 1 then match op with
      | .eql => some (.bool (a == b))
      | .neq => some (.bool (!(a == b)))
      | _ => none
      else none
    | none => none
  | .string a, .string b => match op with
    | .eql => some (.bool (strB a b))
    | .neq => some (.bool (!(strB a b)))
    | _ => none
  | a, b => match funcEq a b, C.ent T with
    | some r, some t => bif Nat.beq t.tag 3 then match op with
      | .eql => some (.bool r)
      | .neq => some (.bool (!r))
      | _ => none
      else none
    | _, _ => none
def intOf2 : Int → Option Nat
  | .ofNat n => some n
  | .negSucc _ => none
def cont : OB → Option (List Value)
  | .blk _ _ cs => some cs
  | .row _ _ _ xs => some xs
  | .ro _ xs => some xs
  | .frz _ xs => some xs
  | _ => none
def contAt (own : Own) (i : Nat) : Option (List Value) := match nth own i with
  | some o => cont o
  | none => none
def loadV (C : Ctx) (own : Own) (T : TypeId) : EV → Option EV
  | .p i off => match contAt own i with
    | some cs => match C.ent T with
      | some t => match t.agg with
        | true => match takeN cs off t.size with
          | some vs => some (.v (.agg vs.toArray))
          | none => none
        | false => match nth cs off with
          | some v => some (.v v)
          | none => none
      | none => none
    | none => none
  | _ => none
def fieldV (C : Ctx) (T : TypeId) (f : Nat) : EV → Option EV
  | .p i off => match C.ent T with
    | some t => match nth t.flds f with
      | some o => some (.p i (off + o))
      | none => none
    | none => none
  | _ => none
def elemSize (_ : Ctx) (t : Ty) : Option Nat := match t.slc with
  | some (_, s) => some s
  | none => none
def indexAddrV (C : Ctx) (T : TypeId) : EV → EV → Option EV
  | .p i off, .v (.int _ n) => match C.ent T with
    | some t => match t.arr with
      | some (len, es) => match intOf2 n with
        | some m => bif Nat.blt m len then some (.p i (off + m * es)) else none
        | none => none
      | none => none
    | none => none
  | .s i off len cap, .v (.int _ n) => match C.ent T with
    | some t => match elemSize C t with
      | some es => match intOf2 n with
        | some m => bif Nat.blt m len && Nat.ble len cap then some (.p i (off + m * es)) else none
        | none => none
      | none => none
    | none => none
  | _, _ => none
def indexV (C : Ctx) (T : TypeId) : EV → EV → Option EV
  | .v (.agg cs), .v (.int _ n) => match C.ent T with
    | some t => match t.arr with
      | some (len, 1) => match intOf2 n with
        | some m => bif Nat.blt m len then match nth cs.toList m with
          | some v => some (.v v)
          | none => none
          else none
        | none => none
      | _ => none
    | none => none
  | _, _ => none
def builtinV (C : Ctx) (b : Builtin) (ts : List TypeId) : List EV → Option EV
  | [.v (.int k x), .v (.int k' y)] => bif sameKind k k' then match b with
    | .min => some (.v (.int k (minI x y)))
    | .max => some (.v (.int k (maxI x y)))
    | _ => none
    else none
  | [.v (.slice _ n m)] => match ts with
    | [T] => match C.ent T with
      | some t => match t.slc with
        | some _ => match b with
          | .len => some (.v (.int .i64 n))
          | .cap => some (.v (.int .i64 m))
          | _ => none
        | none => none
      | none => none
    | _ => none
  | [.s _ _ n m] => match ts with
    | [T] => match C.ent T with
      | some t => match t.slc with
        | some _ => match b with
          | .len => some (.v (.int .i64 n))
          | .cap => some (.v (.int .i64 m))
          | _ => none
        | none => none
      | none => none
    | _ => none
  | [.v (.string s)] => match b, ts with
    | .len, [T] => match C.ent T with
      | some t => bif Nat.beq t.tag 2 then some (.v (.int .i64 s.size)) else none
      | none => none
    | _, _ => none
  | _ => none
/-- The bounds of a slice, if they are plain. -/
def loB (env : Env) (d : Nat) : Option Operand → Option Nat
  | none => some d
  | some x => match ev env x with
    | some (.v (.int _ n)) => intOf2 n
    | _ => none
def mxHi : Option Operand → Option Operand → Bool
  | some _, none => false
  | _, _ => true
def sliceV (C : Ctx) (env : Env) (T : TypeId) (lo hi mx : Option Operand) : EV → Option EV
  | .p i off => match C.ent T with
    | some t => match t.arr with
      | some (len, es) => match loB env len mx with
        | some m => match loB env len hi, loB env 0 lo with
          | some h, some l => bif (Nat.ble l h && (Nat.ble h m && Nat.ble m len)) && mxHi mx hi then some (.s i (off + l * es) (h - l) (m - l)) else none
          | _, _ => none
        | none => none
      | none => none
    | none => none
  | .s i off n c => match C.ent T with
    | some t => match elemSize C t with
      | some es => match loB env c mx with
        | some m => match loB env n hi, loB env 0 lo with
          | some h, some l => bif (Nat.ble l h && (Nat.ble h m && Nat.ble m c)) && mxHi mx hi then some (.s i (off + l * es) (h - l) (m - l)) else none
          | _, _ => none
        | none => none
      | none => none
    | none => none
  | _ => none
/-- Cells written from a place on. -/
def setAt (cs : List Value) (off : Nat) : List Value → List Value
  | [] => cs
  | v :: vs => setAt (cs.set off v) (off + 1) vs
def forceK {α β : Type} : List α → (List α → Option β) → Option β
  | [], k => k []
  | x :: r, k => forceK r fun r' => k (x :: r')
theorem forceK_eq {α β : Type} : ∀ (l : List α) (k : List α → Option β), forceK l k = k l
  | [], _ => rfl
  | x :: r, k => by unfold forceK; rw [forceK_eq r]
/-- A composite value: its parts laid over nought. -/
def buildV (pl : Nat → Option (Nat × Nat)) : List (Nat × Value) → List Value → Option (List Value)
  | [], cs => some cs
  | (i, v) :: r, cs => match pl i with
    | some (off, size) => bif Nat.beq v.cells.toList.length size && Nat.ble (off + v.cells.toList.length) cs.length then forceK (setAt cs off v.cells.toList) fun cs' => buildV pl r cs'
      else none
    | none => none
theorem setAt_len : ∀ (vs cs : List Value) (off : Nat), (setAt cs off vs).length = cs.length
  | [], _, _ => rfl
  | v :: vs, cs, off => by unfold setAt; rw [setAt_len vs]; simp
theorem foldl_setAt : ∀ (vs : List Value) (cs : Array Value) (off j : Nat), ((vs.zipIdx j).foldl (fun cs (p : Value × Nat) => cs.setIfInBounds (off + p.2) p.1) cs).toList = setAt cs.toList (off + j) vs
  | [], cs, off, j => by simp [setAt]
  | v :: vs, cs, off, j => by
    simp only [List.zipIdx_cons, List.foldl_cons, setAt]
    rw [foldl_setAt vs _ off (j + 1)]
    simp [Nat.add_assoc]
theorem fill_eq (pl : Nat → Option (Nat × Nat)) : ∀ (ps : List (Nat × Value)) (cs : Array Value) (r : List Value), buildV pl ps cs.toList = some r → Instr.fill pl cs ps = some r.toArray
  | [], cs, r, h => by simp only [buildV, Option.some.injEq] at h; subst h; simp [Instr.fill]
  | (i, v) :: ps, cs, r, h => by
    unfold buildV at h
    split at h
    · rename_i off size hp
      cases hc : (Nat.beq v.cells.toList.length size && Nat.ble (off + v.cells.toList.length) cs.toList.length) with
      | false => rw [hc] at h; cases h
      | true =>
        rw [hc, cond_true, forceK_eq] at h
        simp only [Bool.and_eq_true] at hc
        have h1 := Nat.eq_of_beq_eq_true hc.1
        have h2 := Nat.le_of_ble_eq_true hc.2
        simp only [Array.length_toList] at h1 h2
        unfold Instr.fill
        simp only [hp]
        rw [if_neg (by simp [h1]; omega)]
        refine fill_eq pl ps _ r ?_
        have := foldl_setAt v.cells.toList cs off 0
        rw [← Array.foldl_toList]
        simp only [Array.toList_zipIdx, Nat.add_zero] at this ⊢
        rw [this]; exact h
    · cases h
def placeS (t : Ty) (i : Nat) : Option (Nat × Nat) := match nth t.flds i, nth t.fsz i with
  | some o, some s => some (o, s)
  | _, _ => none
def evParts (env : Env) (own : Own) : List (Nat × Operand) → Option (List (Nat × Value))
  | [] => some []
  | (i, x) :: r => match ev env x with
    | some e => match val own e with
      | some v => match evParts env own r with
        | some q => some ((i, v) :: q)
        | none => none
      | none => none
    | none => none
/-- The arguments, as values. -/
def argsV (env : Env) (own : Own) : List Operand → Option (List Value)
  | [] => some []
  | x :: xs => match ev env x with
    | some e => match val own e with
      | some v => match argsV env own xs with
        | some r => some (v :: r)
        | none => none
      | none => none
    | none => none
def evs (env : Env) : List Operand → Option (List EV)
  | [] => some []
  | x :: xs => match ev env x with
    | some e => match evs env xs with
      | some r => some (e :: r)
      | none => none
    | none => none
def convV (C : Ctx) (src dst : TypeId) : Value → Option Value
  | .int _ n => match C.ent src, C.ent dst with
    | some t, some t' => match t.int, t'.int with
      | some _, some k => some (.int k (k.wrap n))
      | _, _ => none
    | _, _ => none
  | _ => none
def pureV (C : Ctx) (env : Env) (own : Own) : Op → Option EV
  | .move x | .assign x => ev env x
  | .pick c x y => match ev env c with
    | some (.v (.bool true)) => ev env x
    | some (.v (.bool false)) => ev env y
    | _ => none
  | .binOp op T x y _ => match ev env x, ev env y with
    | some (.v a), some (.v b) => match binV C op T a b with
      | some v => some (.v v)
      | none => none
    | _, _ => none
  | .unOp .not _ x => match ev env x with
    | some (.v (.bool b)) => some (.v (.bool (!b)))
    | _ => none
  | .unOp .neg _ x => match ev env x with
    | some (.v (.int k n)) => some (.v (.int k (k.wrap (0 - n))))
    | _ => none
  | .unOp .xor _ x => match ev env x with
    | some (.v (.int k n)) => some (.v (.int k (bitsI .xor k (if k.signed then -1 else k.max) n)))
    | _ => none
  | .convert src dst x => match ev env x with
    | some (.v v) => match convV C src dst v with
      | some r => some (.v r)
      | none => none
    | _ => none
  | .extract x i => match ev env x with
    | some (.v (.tuple vs)) => match nth vs.toList i with
      | some v => some (.v v)
      | none => none
    | _ => none
  | .load T x => match ev env x with
    | some e => loadV C own T e
    | none => none
  | .fieldAddr T x f => match ev env x with
    | some e => fieldV C T f e
    | none => none
  | .indexAddr T x y => match ev env x, ev env y with
    | some e, some e' => indexAddrV C T e e'
    | _, _ => none
  | .index T x y => match ev env x, ev env y with
    | some e, some e' => indexV C T e e'
    | _, _ => none
  | .slice T x lo hi mx => match ev env x with
    | some e => sliceV C env T lo hi mx e
    | none => none
  | .call ⟨.builtin b, ⟨xs⟩, ⟨ts⟩⟩ => match evs env xs with
    | some es => builtinV C b ts es
    | none => none
  | .build T ⟨ps⟩ => match C.ent T, evParts env own ps with
    | some t, some q => match t.arr with
      | some (_, es) => match buildV (fun i => some (i * es, es)) q t.zv.cells.toList with
        | some r => some (.v (.agg r.toArray))
        | none => none
      | none => match t.flds with
        | _ :: _ => match buildV (placeS t) q t.zv.cells.toList with
          | some r => some (.v (.agg r.toArray))
          | none => none
        | [] => none
    | _, _ => none
  | .makeFunc fn ⟨[]⟩ ⟨xs⟩ => match argsV env own xs with
    | some vs => some (.v (.func fn ⟨[]⟩ vs.toArray))
    | none => none
  | _ => none

section sound
variable {C : Ctx} {B : Bas} {nt : Nat} {env : Env} {own : Own} {dfs : List Deferred}

/-- The cells of a region. -/
theorem Mem.cell {W : World} (h : Mem B own W) {i : Nat} {o : OB} {xs : List Value} (hi : own[i]? = some o) (hc : cont o = some xs) {j : Nat} {v : Value} (hv : xs[j]? = some v) : ∃ b lo, o.key = some ⟨b, lo, none⟩ ∧ W.cell? ⟨b, lo + j, none⟩ = some v := by
  have hr := h.at hi
  cases o with
  | blk n T cs =>
    cases hc
    refine ⟨n, 0, rfl, ?_⟩
    simp only [World.cell?, hr.2, Nat.zero_add]
    simpa using hv
  | row a T m ys =>
    cases hc
    have hm : m ≠ 0 := fun e => by have := hr.1 e; subst this; simp at hv
    obtain ⟨b, cs, ha, _, h1, h2, h3, h4⟩ := hr.2 hm
    refine ⟨b, 0, ha, ?_⟩
    simp only [World.cell?, h1, Nat.zero_add]
    simpa using h4 j v hv
  | ro a ys =>
    cases hc
    obtain ⟨b, lo, ha, hb, hg, hcell⟩ := hr j v hv
    refine ⟨b, lo, ha, ?_⟩
    rw [← hcell]
    exact World.cell?_of_block (h.ext.block b hb hg)
  | obj n o => cases hc
  | frz n ys =>
    cases hc
    obtain ⟨_, cs, T, fr, h1, h2⟩ := hr
    refine ⟨n, 0, rfl, ?_⟩
    simp only [World.cell?, h1, Nat.zero_add]
    simpa using h2 j v hv
  | abs f inv => cases hc
  | dead a => cases hc
theorem contAt_spec {i : Nat} {xs : List Value} (h : contAt own i = some xs) : ∃ o, own[i]? = some o ∧ cont o = some xs := by
  unfold contAt at h
  split at h
  · rename_i o ho
    rw [nth_eq] at ho
    exact ⟨o, ho, h⟩
  · cases h
theorem den_cell {i off : Nat} {xs : List Value} {u : Value} (hc : contAt own i = some xs) (hd : Den own (.p i off) u) : ∃ b o, u = .pointer (some ⟨b, o, none⟩) ∧ ∀ W, Mem B own W → ∀ (j : Nat) (v : Value), xs[off + j]? = some v → W.cell? ⟨b, o + j, none⟩ = some v := by
  obtain ⟨o, ho, hco⟩ := contAt_spec hc
  obtain ⟨o', b, lo, ho', hk, rfl⟩ := hd
  rw [ho] at ho'; cases ho'
  refine ⟨b, lo + off, rfl, fun W h j v hv => ?_⟩
  obtain ⟨b', lo', hk', hcell⟩ := h.cell ho hco hv
  rw [hk] at hk'; cases hk'
  rw [show lo + off + j = lo + (off + j) by omega]; exact hcell
theorem Mem.cellAt {W : World} (h : Mem B own W) {i off : Nat} {xs : List Value} {u : Value} (hc : contAt own i = some xs) (hd : Den own (.p i off) u) : ∃ b o, u = .pointer (some ⟨b, o, none⟩) ∧ ∀ (j : Nat) (v : Value), xs[off + j]? = some v → W.cell? ⟨b, o + j, none⟩ = some v := by
  obtain ⟨o, ho, hco⟩ := contAt_spec hc
  obtain ⟨o', b, lo, ho', hk, rfl⟩ := hd
  rw [ho] at ho'; cases ho'
  refine ⟨b, lo + off, rfl, fun j v hv => ?_⟩
  obtain ⟨b', lo', hk', hcell⟩ := h.cell ho hco hv
  rw [hk] at hk'; cases hk'
  rw [show lo + off + j = lo + (off + j) by omega]; exact hcell
theorem addr_add (n off i : Nat) : (⟨n, off, none⟩ : Addr).add i = ⟨n, off + i, none⟩ := by
  unfold Addr.add
  split
  · subst_vars; rfl
  · rfl
theorem loadCells_run {P : Program} {W : World} {n : Nat} : ∀ (vs : List Value) (off i : Nat) (acc : Array Value), (∀ j v, vs[j]? = some v → W.cell? ⟨n, off + (i + j), none⟩ = some v) →
    (loadCellsFrom ⟨n, off, none⟩ i vs.length acc).run P W = .ok (acc ++ vs.toArray) W
  | [], off, i, acc, _ => by simp [loadCellsFrom]
  | v :: vs, off, i, acc, h => by
    have h0 := h 0 v rfl
    simp only [List.length_cons, loadCellsFrom, load, addr_add]
    simp only [Nat.add_zero] at h0
    simp only [bind, Sem.bind, Sem.run, h0]
    have := loadCells_run (P := P) (W := W) (n := n) vs off (i + 1) (acc.push v) (fun j u hj => by have := h (j + 1) u (by simpa using hj); rw [show i + 1 + j = i + (j + 1) by omega]; exact this)
    rw [this]
    simp
/-- A value of its cells. -/
def ldV : Bool → List Value → Option Value
  | true, vs => some (.agg vs.toArray)
  | false, [v] => some v
  | false, _ => none
/-- What a load of a type T at an address gives, if these cells are there. -/
theorem load_run {P : Program} {T : TypeId} {t : Ty} (ht : TyOk P T t) {W : World} {b o : Nat} {vs : List Value} (hl : vs.length = t.size) (hv : ∀ (j : Nat) (v : Value), vs[j]? = some v → W.cell? ⟨b, o + j, none⟩ = some v) {r : Value}
    (hr : ldV t.agg vs = some r) : (loadVar T ⟨b, o, none⟩).run P W = .ok r W := by
  unfold loadVar
  simp only [Sem.run_bind, ht.a, Result.andThen_ok]
  cases ha : t.agg with
  | true =>
    rw [ha] at hr; cases hr
    have hc := loadCells_run (P := P) (W := W) (n := b) vs o 0 #[] (fun j v hj => by rw [Nat.zero_add]; exact hv j v hj)
    simp only [if_true, Sem.run_bind, ht.s, Result.andThen_ok, ← hl, loadCells, hc]
    simp
  | false =>
    rw [ha] at hr
    match vs, hr with
    | [v], hr =>
      have hvr : v = r := Option.some.inj hr
      subst hvr
      have := hv 0 v rfl
      simp [load, Sem.run]
      simp at this
      rw [this]
theorem funcEq_run {P : Program} {T : TypeId} {q1 q2 q3} (hq : P.underlying T = some (.func q1 q2 q3)) {a b : Value} {r : Bool} (h : funcEq a b = some r) (x y : Operand) (w : World) :
    (eqGuard .eql T x y a b).run P w = .ok () w ∧ (binOp .eql T a b).run P w = .ok (.bool r) w ∧ (eqGuard .neq T x y a b).run P w = .ok () w ∧ (binOp .neq T a b).run P w = .ok (.bool !r) w := by
  have key : ∀ d, (Op.equalIn (d + 1) T a b).run P w = .ok r w := fun d => by
    unfold Op.equalIn
    rw [Sem.run_bind, run_underlying hq, Result.andThen_ok]
    unfold funcEq at h
    split at h <;> first | cases h | skip
    all_goals rfl
  have k := key 9999
  have e1 : (do let z ← Op.equalIn (9999 + 1) T a b; pure (Value.bool z) : Sem Value).run P w = .ok (.bool r) w := by rw [Sem.run_bind, k]; rfl
  have e2 : (do let z ← Op.equalIn (9999 + 1) T a b; pure (Value.bool (!z)) : Sem Value).run P w = .ok (.bool !r) w := by rw [Sem.run_bind, k]; rfl
  unfold funcEq at h
  split at h
  · exact ⟨rfl, e1, rfl, e2⟩
  · exact ⟨rfl, e1, rfl, e2⟩
  · exact ⟨rfl, e1, rfl, e2⟩
  · cases h
theorem binV_run {op : BinOp} {T : TypeId} {a b v : Value} (h : binV C op T a b = some v) (x y : Operand) (w : World) : (do eqGuard op T x y a b; binOp op T a b : Sem Value).run C.P w = .ok v w := by
  unfold binV at h
  split at h
  · rename_i k a k' b
    split at h
    · cases hb : ltB b 0 with
      | true => rw [hb] at h; cases h
      | false =>
        rw [hb] at h
        simp only [cond_false, Option.some.injEq] at h
        rw [ltB_eq] at hb
        have : ¬ b < 0 := by simpa using hb
        subst h
        simp [eqGuard, binOp, Op.shift, this, shI]
    · cases hb : ltB b 0 with
      | true => rw [hb] at h; cases h
      | false =>
        rw [hb] at h
        simp only [cond_false, Option.some.injEq] at h
        rw [ltB_eq] at hb
        have : ¬ b < 0 := by simpa using hb
        subst h
        simp [eqGuard, binOp, Op.shift, this, shI]
    · rename_i hn1 hn2
      cases hk : sameKind k k' with
      | false => simp [hk] at h
      | true =>
        simp only [hk, cond_true] at h
        have := sameKind_eq hk
        subst this
        cases op <;> simp only [binInt, Option.some.injEq, reduceCtorEq] at h
        case quo =>
          cases hb : eqB b 0 with
          | true => rw [hb] at h; cases h
          | false =>
            rw [hb] at h
            simp only [cond_false, Option.some.injEq] at h
            rw [eqB_eq] at hb
            have : ¬ b = 0 := by simpa using hb
            subst h
            simp [eqGuard, binOp, Op.intDiv, this]
        case rem =>
          cases hb : eqB b 0 with
          | true => rw [hb] at h; cases h
          | false =>
            rw [hb] at h
            simp only [cond_false, Option.some.injEq] at h
            rw [eqB_eq] at hb
            have : ¬ b = 0 := by simpa using hb
            subst h
            simp [eqGuard, binOp, Op.intDiv, this]
        all_goals (subst h; simp [eqGuard, binOp, Op.intArith, Op.intCmp, Op.intBits, bitsI, ltB_eq, eqB_eq, bne] <;> first | rfl | (rw [Bool.eq_iff_iff]; simp))
  · rename_i xs ys
    cases he : C.eqs T with
    | false => simp [he] at h
    | true =>
      simp only [he, cond_true] at h
      split at h
      · rename_i t ht
        cases hl : Nat.beq xs.toList.length t.size with
        | false => simp only [hl, cond_false] at h; cases h
        | true =>
          simp only [hl, cond_true] at h
          split at h
          · rename_i r hr
            cases h
            obtain ⟨h1, _, h2, _⟩ := C.eqok T t xs.toList ys.toList r he ht (Nat.eq_of_beq_eq_true hl) hr x y w
            simp only [Sem.run_bind]
            simp only [Array.toArray_toList] at h1 h2
            rw [h1, Result.andThen_ok, h2]
          · rename_i r hr
            cases h
            obtain ⟨_, h1, _, h2⟩ := C.eqok T t xs.toList ys.toList r he ht (Nat.eq_of_beq_eq_true hl) hr x y w
            simp only [Sem.run_bind]
            simp only [Array.toArray_toList] at h1 h2
            rw [h1, Result.andThen_ok, h2]
          · cases h
      · cases h
  · split at h
    · rename_i t ht
      cases hl : Nat.beq t.tag 1 with
      | false => simp only [hl, cond_false] at h; cases h
      | true =>
        simp only [hl, cond_true] at h
        have hb := (C.ok T t ht).b (Nat.eq_of_beq_eq_true hl)
        rename_i a b _
        have he1 := run_eql_bool w T a b hb
        have he2 := run_neq_bool w T a b hb
        split at h
        · cases h
          rw [Sem.run_bind]
          simp [eqGuard, he1]
        · cases h
          rw [Sem.run_bind]
          simp [eqGuard, he2]
        · cases h
    · cases h
  · split at h
    · cases h
      rw [Sem.run_bind]
      simp [eqGuard, binOp, Op.stringOp, strB]
    · cases h
      rw [Sem.run_bind]
      simp [eqGuard, binOp, Op.stringOp, strB]
    · cases h
  · split at h
    · rename_i r t hf ht
      cases hl : Nat.beq t.tag 3 with
      | false => simp only [hl, cond_false] at h; cases h
      | true =>
        simp only [hl, cond_true] at h
        obtain ⟨q1, q2, q3, hq⟩ := (C.ok T t ht).q (Nat.eq_of_beq_eq_true hl)
        obtain ⟨e1, e2, e3, e4⟩ := funcEq_run hq hf x y w
        split at h
        · cases h
          rw [Sem.run_bind, e1, Result.andThen_ok, e2]
        · cases h
          rw [Sem.run_bind, e3, Result.andThen_ok, e4]
        · cases h
    · cases h

inductive Dens (own : Own) : List EV → List Value → Prop
  | nil : Dens own [] []
  | cons {e v es vs} : Den own e v → Dens own es vs → Dens own (e :: es) (v :: vs)
theorem evs_den {a : Act} {W : World} (hr : Rel B nt ⟨env, own, dfs⟩ a W) : ∀ {xs : List Operand} {es : List EV}, evs env xs = some es → Dens own es (xs.map a.eval)
  | [], es, h => by simp only [evs, Option.some.injEq] at h; subst h; exact .nil
  | x :: xs, es, h => by
    unfold evs at h
    split at h
    · rename_i e he
      split at h
      · rename_i r hr'
        cases h
        exact .cons (hr.at he) (evs_den hr hr')
      · cases h
    · cases h
theorem argsV_eval {a : Act} {W : World} (hr : Rel B nt ⟨env, own, dfs⟩ a W) : ∀ {xs : List Operand} {vs : List Value}, argsV env own xs = some vs → xs.map a.eval = vs
  | [], vs, h => by simp only [argsV, Option.some.injEq] at h; subst h; rfl
  | x :: xs, vs, h => by
    unfold argsV at h
    split at h
    · rename_i e he
      split at h
      · rename_i v hv
        split at h
        · rename_i r hr'
          cases h
          rw [List.map_cons, (hr.at he).val hv, argsV_eval hr hr']
        · cases h
      · cases h
    · cases h
theorem evParts_eval {a : Act} {W : World} (hr : Rel B nt ⟨env, own, dfs⟩ a W) : ∀ {ps : List (Nat × Operand)} {q : List (Nat × Value)}, evParts env own ps = some q → ps.map (fun p => (p.1, a.eval p.2)) = q
  | [], q, h => by simp only [evParts, Option.some.injEq] at h; subst h; rfl
  | (i, x) :: ps, q, h => by
    unfold evParts at h
    split at h
    · rename_i e he
      split at h
      · rename_i v hv
        split at h
        · rename_i r hr'
          cases h
          rw [List.map_cons, (hr.at he).val hv, evParts_eval hr hr']
        · cases h
      · cases h
    · cases h
theorem zip_nth : ∀ (l m : List Nat) (i : Nat), (match nth l i, nth m i with | some o, some s => some (o, s) | _, _ => none) = (l.zip m)[i]?
  | [], m, i => by simp [nth]
  | _ :: _, [], i => by cases i <;> simp [nth]
  | a :: l, b :: m, 0 => by simp [nth]
  | a :: l, b :: m, i + 1 => by simpa [nth] using zip_nth l m i
theorem elemSize_spec {T : TypeId} {t : Ty} {es : Nat} (ht : C.ent T = some t) (h : elemSize C t = some es) : ∃ e, C.P.underlying T = some (.slice e) ∧ ∀ w, (sizeOf e).run C.P w = .ok es w := by
  unfold elemSize at h
  split at h
  · rename_i e s hs
    cases h
    exact ⟨e, (C.ok T t ht).c e _ hs⟩
  · cases h
theorem intOf2_eq {n : Int} {m : Nat} (h : intOf2 n = some m) : n = (m : Int) := by
  cases n with
  | ofNat j => simp only [intOf2, Option.some.injEq] at h; rw [h]; rfl
  | negSucc j => simp [intOf2] at h

/-- The address of an element of a slice. -/
theorem indexAt_slice {P : Program} {T e : TypeId} {es : Nat} (hu : P.underlying T = some (.slice e)) (hs : ∀ w, (sizeOf e).run P w = .ok es w) {b o n c m : Nat} {k : IntKind} (hm : m < n) (w : World) :
    (Instr.indexAt T (.slice (some ⟨b, o, none⟩) n c) (.int k (m : Int))).run P w = .ok (.pointer (some ⟨b, o + m * es, none⟩)) w := by
  unfold Instr.indexAt
  simp [asIntOf, run_underlying hu, hs, addr_add, hm]
theorem index_s {T : TypeId} {t : Ty} {es i off n c m : Nat} {k : IntKind} {u : Value} (ht : C.ent T = some t) (he : elemSize C t = some es) (hm : m < n) (hc : n ≤ c) (hd : Den own (.s i off n c) u) :
    ∃ v, Den own (.p i (off + m * es)) v ∧ ∀ w, (Instr.indexAt T u (.int k (m : Int))).run C.P w = .ok v w := by
  obtain ⟨o, a, ho, rfl, hk⟩ := hd
  obtain ⟨b, lo, h1, rfl⟩ := hk (by omega)
  obtain ⟨e, hu, hs⟩ := elemSize_spec ht he
  exact ⟨_, ⟨o, b, lo, ho, h1, rfl⟩, fun w => by rw [indexAt_slice hu hs hm, Nat.add_assoc]⟩
/-- The bounds of a slice. -/
theorem bound_run {P : Program} {k : IntKind} {n y : Nat} {code : BoundsCode} (h : n ≤ y) (w : World) : (Instr.sliceBound (.int k (n : Int)) y code).run P w = .ok n w := by
  unfold Instr.sliceBound
  simp [asIntOf, h]
def IsB (v : Option Value) (d n : Nat) : Prop := (v = none ∧ n = d) ∨ ∃ k, v = some (.int k (n : Int))
theorem bounds_run {P : Program} {s : Bool} {len cap l h m : Nat} {lo hi mx : Option Value} (hl : IsB lo 0 l) (hh : IsB hi len h) (hm : IsB mx cap m) (h1 : l ≤ h) (h2 : h ≤ m) (h3 : m ≤ cap) (hx : mx ≠ none → hi ≠ none) (w : World) :
    (Instr.sliceBounds s len cap lo hi mx).run P w = .ok (l, h, m) w := by
  unfold Instr.sliceBounds
  rcases hm with ⟨rfl, rfl⟩ | ⟨km, rfl⟩
  · rcases hh with ⟨rfl, rfl⟩ | ⟨kh, rfl⟩
    · rcases hl with ⟨rfl, rfl⟩ | ⟨kl, rfl⟩
      · simp
      · simp [bound_run h1]
    · rcases hl with ⟨rfl, rfl⟩ | ⟨kl, rfl⟩
      · simp [bound_run h2]
      · simp [bound_run h1, bound_run h2]
  · rcases hh with ⟨rfl, rfl⟩ | ⟨kh, rfl⟩
    · exact absurd rfl (hx (by simp))
    · rcases hl with ⟨rfl, rfl⟩ | ⟨kl, rfl⟩
      · simp [bound_run h2, bound_run h3]
      · simp [bound_run h1, bound_run h2, bound_run h3]
theorem slice_s {T : TypeId} {t : Ty} {es i off n c l h m : Nat} {lo hi mx : Option Value} {u : Value} (ht : C.ent T = some t) (he : elemSize C t = some es) (hl : IsB lo 0 l) (hh : IsB hi n h) (hm : IsB mx c m) (h1 : l ≤ h) (h2 : h ≤ m) (h3 : m ≤ c) (hx : mx ≠ none → hi ≠ none) (hd : Den own (.s i off n c) u) :
    ∃ v, Den own (.s i (off + l * es) (h - l) (m - l)) v ∧ ∀ w, (Instr.sliceAt T u lo hi mx).run C.P w = .ok v w := by
  obtain ⟨o, a, ho, rfl, hk⟩ := hd
  obtain ⟨e, hu, hs⟩ := elemSize_spec ht he
  refine ⟨.slice (if m = l then a else a.map (·.add (l * es))) (h - l) (m - l), ⟨o, _, ho, rfl, fun hc => ?_⟩, fun w => ?_⟩
  · obtain ⟨b, lo, hk1, rfl⟩ := hk (by omega)
    exact ⟨b, lo, hk1, by rw [if_neg (by omega)]; simp [addr_add, Nat.add_assoc]⟩
  · unfold Instr.sliceAt
    simp only [Sem.run_bind, run_underlying hu, Result.andThen_ok, Instr.slice, bounds_run hl hh hm h1 h2 h3 hx, hs, Sem.run_pure]
theorem slice_p {T : TypeId} {t : Ty} {len es i off l h m : Nat} {lo hi mx : Option Value} {u : Value} (ht : C.ent T = some t) (he : t.arr = some (len, es)) (hl : IsB lo 0 l) (hh : IsB hi len h) (hm : IsB mx len m) (h1 : l ≤ h) (h2 : h ≤ m) (h3 : m ≤ len) (hx : mx ≠ none → hi ≠ none) (hd : Den own (.p i off) u) :
    ∃ v, Den own (.s i (off + l * es) (h - l) (m - l)) v ∧ ∀ w, (Instr.sliceAt T u lo hi mx).run C.P w = .ok v w := by
  obtain ⟨o, b, lo', ho, hk, rfl⟩ := hd
  obtain ⟨e, hu, hs, _⟩ := (C.ok T t ht).g len es he
  refine ⟨.slice (some (if m = l then ⟨b, lo' + off, none⟩ else (⟨b, lo' + off, none⟩ : Addr).add (l * es))) (h - l) (m - l), ⟨o, _, ho, rfl, fun hc => ⟨b, lo', hk, by rw [if_neg (by omega), addr_add]; simp [Nat.add_assoc]⟩⟩, fun w => ?_⟩
  unfold Instr.sliceAt
  simp only [Sem.run_bind, run_underlying hu, Result.andThen_ok, Instr.sureAddr, bounds_run hl hh hm h1 h2 h3 hx, hs, Sem.run_pure]
theorem loB_isB {a : Act} {W : World} (hr : Rel B nt ⟨env, own, dfs⟩ a W) {d n : Nat} {x : Option Operand} (h : loB env d x = some n) : IsB (x.map a.eval) d n := by
  cases x with
  | none => simp only [loB, Option.some.injEq] at h; exact .inl ⟨rfl, h.symm⟩
  | some x =>
    simp only [loB] at h
    split at h
    · rename_i k m hx
      exact .inr ⟨k, by rw [← intOf2_eq h, Option.map_some, hr.atv hx]⟩
    · cases h

theorem pure_sound {op : Op} {e : EV} (h : pureV C env own op = some e) {dst : Option Tmp} {ty : TypeId} {pos : String} {af : Array Edge} {g : Option (Nat × Bool)} : OV C B nt ⟨dst, op, ty, pos, af, g⟩ e ⟨env, own, dfs⟩ := by
  intro a W hr
  unfold pureV at h
  split at h
  · exact ⟨_, hr.at h, fun w hw => by simp only [execOp]; rfl⟩
  · exact ⟨_, hr.at h, fun w hw => by simp only [execOp]; rfl⟩
  · split at h
    · rename_i hc
      exact ⟨_, hr.at h, fun w hw => by simp only [execOp, hr.atv hc]; rfl⟩
    · rename_i hc
      exact ⟨_, hr.at h, fun w hw => by simp only [execOp, hr.atv hc]; rfl⟩
    · cases h
  · split at h
    · rename_i x y hx hy
      split at h
      · rename_i v hv
        cases h
        refine ⟨_, rfl, fun w hw => ?_⟩
        have := binV_run hv
        simp only [execOp, hr.atv hx, hr.atv hy]
        rw [Sem.run_bind, this]
        rfl
      · cases h
    · cases h
  · split at h
    · rename_i hx
      cases h
      exact ⟨_, rfl, fun w hw => by simp only [execOp, hr.atv hx]; rfl⟩
    · cases h
  · split at h
    · rename_i hx
      cases h
      exact ⟨_, rfl, fun w hw => by simp only [execOp, hr.atv hx]; rfl⟩
    · cases h
  · split at h
    · rename_i hx
      cases h
      exact ⟨_, rfl, fun w hw => by simp only [execOp, hr.atv hx]; rfl⟩
    · cases h
  · -- convert
    split at h
    · rename_i v hx
      split at h
      · rename_i r hv
        cases h
        unfold convV at hv
        split at hv
        · split at hv
          · rename_i t t' ht ht'
            split at hv
            · rename_i k1 k hk1 hk
              cases hv
              refine ⟨_, rfl, fun w hw => ?_⟩
              simp only [execOp, hr.atv hx, convert, Sem.run_bind, run_underlying ((C.ok _ t ht).k _ hk1), run_underlying ((C.ok _ t' ht').k _ hk), Result.andThen_ok, Conv.intToInt, Sem.run_pure]
            · cases hv
          · cases hv
        · cases hv
      · cases h
    · cases h
  · rename_i x i
    split at h
    · rename_i vs hx
      split at h
      · rename_i v hv
        cases h
        refine ⟨_, rfl, fun w hw => ?_⟩
        rw [nth_eq] at hv
        have hv' : vs[i]? = some v := by simpa using hv
        simp only [execOp, hr.atv hx, Instr.extract, hv']
        rfl
      · cases h
    · cases h
  · -- load
    split at h
    · rename_i e' hx
      unfold loadV at h
      split at h
      · rename_i i off
        split at h
        · rename_i cs hcs
          obtain ⟨b, o, hp, hcell⟩ := den_cell (B := B) hcs (hr.at hx)
          split at h
          · rename_i t ht
            split at h
            · rename_i ha
              split at h
              · rename_i vs hvs
                cases h
                obtain ⟨h1, h2⟩ := takeN_spec hvs
                refine ⟨_, rfl, fun w hw => ?_⟩
                simp only [execOp, hp, Instr.loadAt, Instr.sureAddr, Sem.run_bind, Sem.run_pure, Result.andThen_ok, load_run (C.ok _ t ht) h1 (fun j v hj => hcell w hw j v (h2 j v hj)) (r := .agg vs.toArray) (by rw [ha]; rfl)]
              · cases h
            · rename_i ha
              split at h
              · rename_i v hv
                cases h
                rw [nth_eq] at hv
                refine ⟨_, rfl, fun w hw => ?_⟩
                have hc := hcell w hw 0 v (by simpa using hv)
                simp only [Nat.add_zero] at hc
                simp only [execOp, hp, Instr.loadAt, Instr.sureAddr, loadVar, Sem.run_bind, Sem.run_pure, Result.andThen_ok, (C.ok _ t ht).a, ha]
                simp [load, Sem.run, hc]
              · cases h
          · cases h
        · cases h
      · cases h
    · cases h
  · -- fieldAddr
    split at h
    · rename_i e' hx
      unfold fieldV at h
      split at h
      · rename_i i off
        split at h
        · rename_i t ht
          split at h
          · rename_i o ho
            cases h
            rw [nth_eq] at ho
            obtain ⟨ob, b, lo, hb, hk, hp⟩ := hr.at hx
            refine ⟨_, ⟨ob, b, lo, hb, hk, rfl⟩, fun w hw => ?_⟩
            simp only [execOp, hp, Sem.run_bind, (C.ok _ t ht).f _ o ho, Result.andThen_ok, Nat.add_assoc]
            rfl
          · cases h
        · cases h
      · cases h
    · cases h
  · -- indexAddr
    split at h
    · rename_i x y hx hy
      unfold indexAddrV at h
      split at h
      · rename_i i off k n
        split at h
        · rename_i t ht
          split at h
          · rename_i len es ha
            split at h
            · rename_i m hm
              cases hl : Nat.blt m len with
              | false => simp [hl] at h
              | true =>
                simp only [hl, cond_true, Option.some.injEq] at h
                subst h
                have hn := intOf2_eq hm
                subst hn
                have hlt : m < len := by simpa using hl
                obtain ⟨ob, b, lo, hb, hk, hp⟩ := hr.at hx
                obtain ⟨e1, hu, hs, _⟩ := (C.ok _ t ht).g len es ha
                refine ⟨_, ⟨ob, b, lo, hb, hk, rfl⟩, fun w hw => ?_⟩
                simp only [execOp, hp, hr.atv hy, Instr.indexAt, asIntOf, Sem.run_bind, Sem.run_pure, Result.andThen_ok, run_underlying hu, Instr.sureAddr]
                simp [hs, hlt, addr_add, Nat.add_assoc]
            · cases h
          · cases h
        · cases h
      · rename_i i off len cap k n
        split at h
        · rename_i t ht
          split at h
          · rename_i es he
            split at h
            · rename_i m hm
              cases hl : (Nat.blt m len && Nat.ble len cap) with
              | false => simp [hl] at h
              | true =>
                simp only [hl, cond_true, Option.some.injEq] at h
                subst h
                have hn := intOf2_eq hm
                subst hn
                simp only [Bool.and_eq_true] at hl
                have hlt : m < len := by simpa using hl.1
                obtain ⟨v, hv, hrun⟩ := index_s (k := k) ht he hlt (Nat.le_of_ble_eq_true hl.2) (hr.at hx)
                refine ⟨v, hv, fun w hw => ?_⟩
                simp only [execOp, hr.atv hy, Sem.run_bind, hrun, Result.andThen_ok]
                rfl
            · cases h
          · cases h
        · cases h
      · cases h
    · cases h
  · -- index
    split at h
    · rename_i x y hx hy
      unfold indexV at h
      split at h
      · rename_i cs k n
        split at h
        · rename_i t ht
          split at h
          · rename_i len ha
            split at h
            · rename_i m hm
              cases hl : Nat.blt m len with
              | false => simp [hl] at h
              | true =>
                simp only [hl, cond_true] at h
                split at h
                · rename_i v hv
                  cases h
                  have hn := intOf2_eq hm
                  subst hn
                  have hlt : m < len := by simpa using hl
                  obtain ⟨e1, hu, hs, hag⟩ := (C.ok _ t ht).g len 1 ha
                  rw [nth_eq] at hv
                  have hv' : cs[m]? = some v := by simpa using hv
                  refine ⟨_, rfl, fun w hw => ?_⟩
                  simp only [execOp, hr.atv hx, hr.atv hy, Instr.index, asIntOf, Sem.run_bind, Sem.run_pure, Result.andThen_ok, run_underlying hu]
                  simp [hs, hlt, part, hag rfl, hv']
                · cases h
            · cases h
          · cases h
        · cases h
      · cases h
    · cases h
  · -- slice
    rename_i T x lo hi mx
    split at h
    · rename_i e' hx
      unfold sliceV at h
      split at h
      · rename_i i off
        split at h
        · rename_i t ht
          split at h
          · rename_i len es ha
            split at h
            · rename_i m hm
              split at h
              · rename_i hh l h1 h2
                cases hl : ((Nat.ble l hh && (Nat.ble hh m && Nat.ble m len)) && mxHi mx hi) with
                | false => rw [hl] at h; cases h
                | true =>
                  rw [hl] at h
                  simp only [cond_true, Option.some.injEq] at h
                  subst h
                  simp only [Bool.and_eq_true] at hl
                  obtain ⟨v, hv, hrun⟩ := slice_p ht ha (loB_isB hr h2) (loB_isB hr h1) (loB_isB hr hm) (Nat.le_of_ble_eq_true hl.1.1) (Nat.le_of_ble_eq_true hl.1.2.1) (Nat.le_of_ble_eq_true hl.1.2.2) (by cases mx <;> cases hi <;> simp_all [mxHi]) (hr.at hx)
                  refine ⟨v, hv, fun w hw => ?_⟩
                  simp only [execOp, Sem.run_bind, hrun, Result.andThen_ok]
                  rfl
              · cases h
            · cases h
          · cases h
        · cases h
      · rename_i i off n c
        split at h
        · rename_i t ht
          split at h
          · rename_i es ha
            split at h
            · rename_i m hm
              split at h
              · rename_i hh l h1 h2
                cases hl : ((Nat.ble l hh && (Nat.ble hh m && Nat.ble m c)) && mxHi mx hi) with
                | false => rw [hl] at h; cases h
                | true =>
                  rw [hl] at h
                  simp only [cond_true, Option.some.injEq] at h
                  subst h
                  simp only [Bool.and_eq_true] at hl
                  obtain ⟨v, hv, hrun⟩ := slice_s ht ha (loB_isB hr h2) (loB_isB hr h1) (loB_isB hr hm) (Nat.le_of_ble_eq_true hl.1.1) (Nat.le_of_ble_eq_true hl.1.2.1) (Nat.le_of_ble_eq_true hl.1.2.2) (by cases mx <;> cases hi <;> simp_all [mxHi]) (hr.at hx)
                  refine ⟨v, hv, fun w hw => ?_⟩
                  simp only [execOp, Sem.run_bind, hrun, Result.andThen_ok]
                  rfl
              · cases h
            · cases h
          · cases h
        · cases h
      · cases h
    · cases h
  · -- built-in functions
    rename_i b xs ts
    split at h
    · rename_i es hes
      obtain ⟨us, hus, hd⟩ : ∃ us, xs.map a.eval = us ∧ Dens own es us := ⟨_, rfl, evs_den hr hes⟩
      unfold builtinV at h
      split at h
      · rename_i k x k' y
        cases hk : sameKind k k' with
        | false => simp [hk] at h
        | true =>
          simp only [hk, cond_true] at h
          have := sameKind_eq hk
          subst this
          have hm : xs.map a.eval = [.int k x, .int k y] := by
            rw [hus]
            cases hd with
            | cons h1 hd => cases hd with
              | cons h2 hd => cases hd; rw [h1, h2]
          split at h
          · cases h
            refine ⟨_, rfl, fun w hw => ?_⟩
            have e : (if y < x then y else x) = minI x y := by rw [minI_eq]; split <;> omega
            rw [← e]
            simp only [execOp, resolve, List.map_toArray, hm, Sem.run_bind, Sem.run_pure, Result.andThen_ok, invoke, builtin, Builtin.min_, List.foldlM, Builtin.min2]
          · cases h
            refine ⟨_, rfl, fun w hw => ?_⟩
            have e : (if y > x then y else x) = maxI x y := by rw [maxI_eq]; split <;> omega
            rw [← e]
            simp only [execOp, resolve, List.map_toArray, hm, Sem.run_bind, Sem.run_pure, Result.andThen_ok, invoke, builtin, Builtin.max_, List.foldlM, Builtin.max2]
          · cases h
      · rename_i s n c
        split at h
        · rename_i T
          split at h
          · rename_i t ht
            split at h
            · rename_i e1 he1
              have hm : xs.map a.eval = [.slice s n c] := by
                rw [hus]
                cases hd with
                | cons h1 hd => cases hd; rw [h1]
              split at h
              · cases h
                refine ⟨_, rfl, fun w hw => ?_⟩
                simp only [execOp, resolve, List.map_toArray, hm, Sem.run_bind, Sem.run_pure, Result.andThen_ok, invoke, builtin, Builtin.len_]
                simp [run_underlying ((C.ok _ t ht).c _ _ he1).1]
                rfl
              · cases h
                refine ⟨_, rfl, fun w hw => ?_⟩
                simp only [execOp, resolve, List.map_toArray, hm, Sem.run_bind, Sem.run_pure, Result.andThen_ok, invoke, builtin, Builtin.cap_]
                simp [run_underlying ((C.ok _ t ht).c _ _ he1).1]
                rfl
              · cases h
            · cases h
          · cases h
        · cases h
      · rename_i i off n c
        split at h
        · rename_i T
          split at h
          · rename_i t ht
            split at h
            · rename_i e1 he1
              obtain ⟨s, hm⟩ : ∃ s, xs.map a.eval = [.slice s n c] := by
                rw [hus]
                cases hd with
                | cons h1 hd => cases hd; obtain ⟨_, s, _, rfl, _⟩ := h1; exact ⟨s, rfl⟩
              split at h
              · cases h
                refine ⟨_, rfl, fun w hw => ?_⟩
                simp only [execOp, resolve, List.map_toArray, hm, Sem.run_bind, Sem.run_pure, Result.andThen_ok, invoke, builtin, Builtin.len_]
                simp [run_underlying ((C.ok _ t ht).c _ _ he1).1]
                rfl
              · cases h
                refine ⟨_, rfl, fun w hw => ?_⟩
                simp only [execOp, resolve, List.map_toArray, hm, Sem.run_bind, Sem.run_pure, Result.andThen_ok, invoke, builtin, Builtin.cap_]
                simp [run_underlying ((C.ok _ t ht).c _ _ he1).1]
                rfl
              · cases h
            · cases h
          · cases h
        · cases h
      · rename_i s
        split at h
        · rename_i T
          split at h
          · rename_i t ht
            cases hl : Nat.beq t.tag 2 with
            | false => rw [hl] at h; cases h
            | true =>
              rw [hl] at h
              cases h
              have hm : xs.map a.eval = [.string s] := by
                rw [hus]
                cases hd with
                | cons h1 hd => cases hd; rw [h1]
              refine ⟨_, rfl, fun w hw => ?_⟩
              simp only [execOp, resolve, List.map_toArray, hm, Sem.run_bind, Sem.run_pure, Result.andThen_ok, invoke, builtin, Builtin.len_]
              simp [run_underlying ((C.ok _ t ht).r (Nat.eq_of_beq_eq_true hl))]
              rfl
          · cases h
        · cases h
      · cases h
    · cases h
  · -- build
    rename_i T ps
    have hps : ∀ (f : Nat × Operand → Nat × Value), (⟨ps⟩ : Array (Nat × Operand)).map f = (ps.map f).toArray := fun f => by rw [← List.map_toArray]
    split at h
    · rename_i t q ht hq
      have hm := evParts_eval hr hq
      split at h
      · rename_i len es ha
        split at h
        · rename_i r hb
          cases h
          obtain ⟨e, hu, hs, _⟩ := (C.ok _ t ht).g len es ha
          refine ⟨_, rfl, fun w hw => ?_⟩
          have hf := fill_eq (fun i => some (i * es, es)) q t.zv.cells r hb
          simp only [execOp, hps, hm, Instr.build, Sem.run_bind, (C.ok _ t ht).z, Result.andThen_ok, run_underlying hu, hs, hf, Sem.run_pure]
        · cases h
      · split at h
        · rename_i x y hfl
          split at h
          · rename_i r hb
            cases h
            obtain ⟨fs, hu, hmp⟩ := (C.ok _ t ht).m x y hfl
            refine ⟨_, rfl, fun w hw => ?_⟩
            have hpl : (fun i => ((t.flds.zip t.fsz).toArray)[i]?) = placeS t := by
              funext i
              unfold placeS
              rw [zip_nth]
              simp
            have hf := fill_eq (placeS t) q t.zv.cells r hb
            rw [← hpl] at hf
            simp only [execOp, hps, hm, Instr.build, Sem.run_bind, (C.ok _ t ht).z, Result.andThen_ok, run_underlying hu, hmp, hf, Sem.run_pure]
          · cases h
        · cases h
    · cases h
  · -- makeFunc
    rename_i fn xs
    split at h
    · rename_i vs hvs
      cases h
      refine ⟨_, rfl, fun w hw => ?_⟩
      have hm : (⟨xs⟩ : Array Operand).map a.eval = vs.toArray := by rw [← argsV_eval hr hvs, ← List.map_toArray]
      simp only [execOp, Instr.makeFunc, hm]
      simp
    · cases h
  · cases h
end sound
end Go.Proofs.YtpfjolckhlgodaaDoor
