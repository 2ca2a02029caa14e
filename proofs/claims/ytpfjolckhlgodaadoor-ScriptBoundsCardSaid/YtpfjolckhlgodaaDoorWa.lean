/- A small program logic over the model's own walk: symbolic frames, and memory as regions of the call's own. -/
import Derived.Orders
import Derived.OrdersHeld
import Derived.Tactics
import Derived.Below
import Derived.Deep.Draws
import Derived.KernelRfl
import Derived.RangeFuncIn
import Derived.RangeFuncLeaves
import Derived.RangeFuncRecord
namespace Go.Proofs.YtpfjolckhlgodaaDoor
open Go Go.RowKit

/-! ## worlds -/
/-- How many draws there were, where it is told (a seat that leans on library contracts which do not tell it has 'True' here). -/
def Dr (a b : Nat) : Prop := True
theorem Dr.le {a b : Nat} (h : a ≤ b) : Dr a b := by first | exact h | trivial
theorem Dr.trans {a b c : Nat} (h : Dr a b) (k : Dr b c) : Dr a c := by first | exact Nat.le_trans h k | trivial
theorem Dr.refl (a : Nat) : Dr a a := Dr.le (Nat.le_refl a)
structure Ext (w w' : World) : Prop where
  below : Below w.heap.size w w'
  drawn : Dr w.drawn w'.drawn
theorem Ext.refl (w : World) : Ext w w := ⟨Below.refl _ _, Dr.refl _⟩
theorem Ext.trans {a b c : World} (h : Ext a b) (k : Ext b c) : Ext a c :=
  ⟨h.below.trans (k.below.mono h.below.size), h.drawn.trans k.drawn⟩
theorem Ext.alloc (w : World) (o : Obj) : Ext w (w.alloc o) := ⟨(Below.refl _ _).alloc (Nat.le_refl _) _, Dr.refl _⟩
theorem Ext.draw (w : World) : Ext w { w with drawn := w.drawn + 1 } := ⟨⟨rfl, rfl, rfl, Nat.le_refl _, fun _ _ => rfl⟩, Dr.le (Nat.le_succ _)⟩

/-- Where a call began; gv: blocks that were handed over to it. -/
structure Bas where
  w : World
  gv : Nat → Prop
def Bas.of (w : World) : Bas := ⟨w, fun _ => False⟩
def Bas.fresh (B : Bas) (b : Nat) : Prop := B.w.heap.size ≤ b ∨ B.gv b
structure ExtG (B : Bas) (W : World) : Prop where
  os : W.os = B.w.os
  tape : W.tape = B.w.tape
  output : W.output = B.w.output
  size : B.w.heap.size ≤ W.heap.size
  drawn : Dr B.w.drawn W.drawn
  block : ∀ k, k < B.w.heap.size → ¬ B.gv k → W.heap[k]? = B.w.heap[k]?
theorem ExtG.refl (B : Bas) : ExtG B B.w := ⟨rfl, rfl, rfl, Nat.le_refl _, Dr.refl _, fun _ _ _ => rfl⟩
theorem ExtG.of {w W : World} (h : Ext w W) : ExtG (Bas.of w) W := ⟨h.below.os, h.below.tape, h.below.output, h.below.size, h.drawn, fun k hk _ => h.below.block k hk⟩
theorem ExtG.to {w W : World} (h : ExtG (Bas.of w) W) : Ext w W := ⟨⟨h.os, h.tape, h.output, h.size, fun k hk => h.block k hk (fun x => x)⟩, h.drawn⟩
theorem ExtG.ext {B : Bas} {W W' : World} (h : ExtG B W) (k : Ext W W') : ExtG B W' :=
  ⟨k.below.os.trans h.os, k.below.tape.trans h.tape, k.below.output.trans h.output, Nat.le_trans h.size k.below.size, h.drawn.trans k.drawn,
   fun j hj hg => (k.below.block j (Nat.lt_of_lt_of_le hj h.size)).trans (h.block j hj hg)⟩
/-- Blocks that are the call's own alone are turned. -/
theorem ExtG.turn {B : Bas} {W W' : World} (h : ExtG B W) {f : Nat → Prop} (hf : ∀ b, f b → B.fresh b) (ho : W'.os = W.os) (ht : W'.tape = W.tape) (hu : W'.output = W.output)
    (hs : W.heap.size ≤ W'.heap.size) (hd : Dr W.drawn W'.drawn) (hb : ∀ b, b < W.heap.size → ¬ f b → W'.heap[b]? = W.heap[b]?) : ExtG B W' :=
  ⟨ho.trans h.os, ht.trans h.tape, hu.trans h.output, Nat.le_trans h.size hs, h.drawn.trans hd, fun k hk hg =>
    (hb k (Nat.lt_of_lt_of_le hk h.size) fun hfk => (hf k hfk).elim (fun h1 => absurd hk (Nat.not_lt.2 h1)) hg).trans (h.block k hk hg)⟩

/-- Returned v; nothing that was there has turned. -/
def PV (w : World) (v : Value) (e : Ending) (w' : World) : Prop := e = .returned v ∧ Ext w w'

/-! ## frames and memory -/
inductive OB where
  /-- A block of the call's own, whole. -/
  | blk (n : Nat) (T : TypeId) (cs : List Value)
  /-- A row of the call's own of m cells, of which the first are xs; m = 0: nothing. -/
  | row (a : Option Addr) (T : TypeId) (m : Nat) (xs : List Value)
  /-- Cells that were there when the call began, from a on. -/
  | ro (a : Option Addr) (xs : List Value)
  | obj (n : Nat) (o : Obj)
  /-- A block of the call's own that is read alone. -/
  | frz (n : Nat) (xs : List Value)
  | abs (f : Nat → Prop) (inv : World → Prop)
  | dead (a : Option Addr)
/-- A value; or a place in region i, cell off; or a slice into region i, from cell off on, n long, with room for c. -/
inductive EV where
  | v (x : Value)
  | p (i off : Nat)
  | s (i off n c : Nat)
abbrev Own := List OB
abbrev Env := List (Nat × EV)
def OB.key : OB → Option Addr
  | .blk n _ _ => some ⟨n, 0, none⟩
  | .row a _ _ _ => a
  | .ro a _ => a
  | .dead a => a
  | .obj _ _ => none
  | .frz n _ => some ⟨n, 0, none⟩
  | .abs _ _ => none
def OB.fp : OB → Nat → Prop
  | .blk n _ _ => fun b => b = n
  | .row a _ m _ => fun b => m ≠ 0 ∧ ∃ x, a = some x ∧ b = x.block
  | .obj n _ => fun b => b = n
  | .frz n _ => fun b => b = n
  | .abs f _ => f
  | .ro _ _ => fun _ => False
  | .dead _ => fun _ => False
def Den (own : Own) : EV → Value → Prop
  | .v x, u => u = x
  | .p i off, u => ∃ o b lo, own[i]? = some o ∧ o.key = some ⟨b, lo, none⟩ ∧ u = .pointer (some ⟨b, lo + off, none⟩)
  | .s i off n c, u => ∃ o a, own[i]? = some o ∧ u = .slice a n c ∧ (c ≠ 0 → ∃ b lo, o.key = some ⟨b, lo, none⟩ ∧ a = some ⟨b, lo + off, none⟩)
def nth {α : Type} : List α → Nat → Option α
  | [], _ => none
  | x :: _, 0 => some x
  | _ :: r, n + 1 => nth r n
theorem nth_eq {α : Type} : ∀ (l : List α) (n : Nat), nth l n = l[n]?
  | [], _ => rfl
  | _ :: _, 0 => rfl
  | _ :: r, n + 1 => by simpa [nth] using nth_eq r n
def val (own : Own) : EV → Option Value
  | .v x => some x
  | .p i off => match nth own i with
    | some (.blk n _ _) => some (.pointer (some ⟨n, off, none⟩))
    | _ => none
  | .s _ _ _ _ => none
theorem Den.blk {own : Own} {i off n : Nat} {T : TypeId} {cs : List Value} {u : Value} (h : Den own (.p i off) u) (hi : own[i]? = some (.blk n T cs)) : u = .pointer (some ⟨n, off, none⟩) := by
  obtain ⟨o, b, lo, ho, hk, rfl⟩ := h
  rw [hi] at ho; cases ho
  cases hk
  simp
theorem Den.val {own : Own} {e : EV} {u x : Value} (h : Den own e u) (hx : val own e = some x) : u = x := by
  cases e with
  | v y => exact h.trans (Option.some.inj hx)
  | p i off =>
    simp only [Go.Proofs.YtpfjolckhlgodaaDoor.val] at hx
    split at hx
    · rename_i n T cs hi
      cases hx
      rw [nth_eq] at hi
      exact h.blk hi
    · cases hx
  | s i off n c => simp [Go.Proofs.YtpfjolckhlgodaaDoor.val] at hx
def eget : List (Nat × EV) → Nat → Option EV
  | [], _ => none
  | (k, v) :: r, d => bif Nat.beq k d then some v else eget r d
def ev (env : List (Nat × EV)) : Operand → Option EV
  | .tmp t => eget env t
  | .const v => some (.v v)
  | .global g => some (.v (.pointer (some ⟨g, 0, none⟩)))
  | .func f => some (.v (.func (.func f) #[] #[]))

structure Ty where
  zv : Value
  size : Nat
  agg : Bool
  flds : List Nat
  fsz : List Nat
  arr : Option (Nat × Nat)
  slc : Option (Nat × Nat)
  tag : Nat
  bytes : Nat
  int : Option IntKind
  mp : Option (Nat × Nat)
/-- What the rules want of a type, all closed. -/
structure TyOk (P : Program) (T : TypeId) (t : Ty) : Prop where
  z : ∀ w, (zeroValue T).run P w = .ok t.zv w
  s : ∀ w, (sizeOf T).run P w = .ok t.size w
  a : ∀ w, (isAgg T).run P w = .ok t.agg w
  f : ∀ f off, t.flds[f]? = some off → ∀ n o w, (Instr.fieldAt T (.pointer (some ⟨n, o, none⟩)) f).run P w = .ok (.pointer (some ⟨n, o + off, none⟩)) w
  g : ∀ len es, t.arr = some (len, es) → ∃ e, P.underlying T = some (.array len e) ∧ (∀ w, (sizeOf e).run P w = .ok es w) ∧ (es = 1 → ∀ w, (isAgg e).run P w = .ok false w)
  c : ∀ e s, t.slc = some (e, s) → P.underlying T = some (.slice e) ∧ ∀ w, (sizeOf e).run P w = .ok s w
  m : ∀ x y, t.flds = x :: y → ∃ fs, P.underlying T = some (.struct fs) ∧ (∀ w, (fs.mapM fun f => do pure (f.offset, ← sizeOf f.type) : Sem (Array (Nat × Nat))).run P w = .ok (t.flds.zip t.fsz).toArray w)
  b : t.tag = 1 → P.underlying T = some .bool
  r : t.tag = 2 → P.underlying T = some .string
  i : (P.info? T).map (·.bytes) = some t.bytes
  k : ∀ k, t.int = some k → P.underlying T = some (.int k)
  q : t.tag = 3 → ∃ a b c, P.underlying T = some (.func a b c)
  p : ∀ k e, t.mp = some (k, e) → P.underlying T = some (.map k e)

/-- Equality of two values, as the type's own test has it. -/
def EqAt (P : Program) (t : TypeId) (a b : Value) (r : Bool) : Prop := ∀ x y w, (eqGuard .eql t x y a b).run P w = .ok () w ∧ (eqGuard .neq t x y a b).run P w = .ok () w ∧ (binOp .eql t a b).run P w = .ok (.bool r) w ∧ (binOp .neq t a b).run P w = .ok (.bool !r) w
/-- The tests of whole numbers, by their shape: what is open stays shut. -/
def ltB : Int → Int → Bool
  | .ofNat m, .ofNat n => Nat.blt m n
  | .negSucc m, .negSucc n => Nat.blt n m
  | .ofNat _, .negSucc _ => false
  | .negSucc _, .ofNat _ => true
def eqB : Int → Int → Bool
  | .ofNat m, .ofNat n => Nat.beq m n
  | .negSucc m, .negSucc n => Nat.beq m n
  | _, _ => false
theorem ltB_eq (a b : Int) : ltB a b = decide (a < b) := by
  rw [Bool.eq_iff_iff, decide_eq_true_eq]
  cases a <;> cases b <;> simp only [ltB, Nat.blt_eq]
  · simp
  · simp; omega
  · simp; omega
  · omega
theorem eqB_eq (a b : Int) : eqB a b = decide (a = b) := by
  rw [Bool.eq_iff_iff, decide_eq_true_eq]
  cases a <;> cases b <;> simp only [eqB, Nat.beq_eq]
  · exact ⟨fun h => by rw [h], fun h => Int.ofNat.inj h⟩
  · simp
  · simp
  · exact ⟨fun h => by rw [h], fun h => Int.negSucc.inj h⟩
/-- Cells that are all whole numbers, held against each other. -/
def sameKind : IntKind → IntKind → Bool
  | .i64, .i64 | .u8, .u8 | .u32, .u32 | .u64, .u64 | .i32, .i32 => true
  | _, _ => false
theorem sameKind_eq {k k' : IntKind} (h : sameKind k k' = true) : k = k' := by
  cases k <;> cases k' <;> first | rfl | exact absurd h (by decide)
def cmpInts : List Value → List Value → Option Bool
  | [], [] => some true
  | .int k a :: xs, .int k' b :: ys => bif sameKind k k' then match cmpInts xs ys with
    | some r => some (eqB a b && r)
    | none => none
    else none
  | _, _ => none
structure Ctx where
  P : Program
  ent : TypeId → Option Ty
  ok : ∀ T t, ent T = some t → TyOk P T t
  mixed : P.follows .mixedOrders = true
  eqs : TypeId → Bool
  eqok : ∀ T t xs ys r, eqs T = true → ent T = some t → xs.length = t.size → cmpInts xs ys = some r → EqAt P T (.agg xs.toArray) (.agg ys.toArray) r

structure St where
  env : Env
  own : Own
  dfs : List Deferred := []

def Reg (B : Bas) (W : World) : OB → Prop
  | .blk n T cs => B.fresh n ∧ W.heap[n]? = some (.cells cs.toArray T (0, 0))
  | .row a T m xs => (m = 0 → xs = []) ∧ (m ≠ 0 → ∃ b cs, a = some ⟨b, 0, none⟩ ∧ B.fresh b ∧ W.heap[b]? = some (.cells cs T (0, 0)) ∧ cs.size = m ∧ xs.length ≤ m ∧ ∀ (j : Nat) (v : Value), xs[j]? = some v → cs[j]? = some v)
  | .ro a xs => ∀ (j : Nat) (v : Value), xs[j]? = some v → ∃ b lo, a = some ⟨b, lo, none⟩ ∧ b < B.w.heap.size ∧ ¬ B.gv b ∧ B.w.cell? ⟨b, lo + j, none⟩ = some v
  | .obj n o => B.fresh n ∧ W.heap[n]? = some o
  | .frz n xs => B.fresh n ∧ ∃ cs T fr, W.heap[n]? = some (.cells cs T fr) ∧ ∀ (j : Nat) (v : Value), xs[j]? = some v → cs[j]? = some v
  | .abs f inv => (∀ b, f b → B.fresh b ∧ b < W.heap.size) ∧ inv W ∧ ∀ W' : World, ExtG B W' → W.heap.size ≤ W'.heap.size → (∀ b, f b → W'.heap[b]? = W.heap[b]?) → inv W'
  | .dead _ => True
theorem lt_of_heap {W : World} {b : Nat} {o : Obj} (h : W.heap[b]? = some o) : b < W.heap.size := (Array.getElem?_eq_some_iff.1 h).1
theorem Reg.lt {B : Bas} {W : World} {o : OB} (h : Reg B W o) {b : Nat} (hb : o.fp b) : b < W.heap.size := by
  cases o with
  | blk n T cs => cases hb; exact lt_of_heap h.2
  | row a T m xs =>
    obtain ⟨hm, x, hx, rfl⟩ := hb
    obtain ⟨b, cs, ha, _, h1, _⟩ := h.2 hm
    rw [hx] at ha; cases ha
    exact lt_of_heap h1
  | ro a xs => exact hb.elim
  | obj n o => cases hb; exact lt_of_heap h.2
  | frz n xs => cases hb; obtain ⟨_, cs, T, fr, h1, _⟩ := h; exact lt_of_heap h1
  | abs f inv => exact (h.1 b hb).2
  | dead a => exact hb.elim
theorem Reg.fresh {B : Bas} {W : World} {o : OB} (h : Reg B W o) {b : Nat} (hb : o.fp b) : B.fresh b := by
  cases o with
  | blk n T cs => cases hb; exact h.1
  | row a T m xs =>
    obtain ⟨hm, x, hx, rfl⟩ := hb
    obtain ⟨b, cs, ha, hf, h1, _⟩ := h.2 hm
    rw [hx] at ha; cases ha
    exact hf
  | ro a xs => exact hb.elim
  | obj n o => cases hb; exact h.1
  | frz n xs => cases hb; exact h.1
  | abs f inv => exact (h.1 b hb).1
  | dead a => exact hb.elim
theorem Reg.keep {B : Bas} {W W' : World} {o : OB} (h : Reg B W o) (hx : ExtG B W') (hs : W.heap.size ≤ W'.heap.size) (hk : ∀ b, o.fp b → W'.heap[b]? = W.heap[b]?) : Reg B W' o := by
  cases o with
  | blk n T cs => exact ⟨h.1, (hk n rfl).trans h.2⟩
  | row a T m xs =>
    refine ⟨h.1, fun hm => ?_⟩
    obtain ⟨b, cs, ha, hf, h1, h2⟩ := h.2 hm
    exact ⟨b, cs, ha, hf, (hk b ⟨hm, _, ha, rfl⟩).trans h1, h2⟩
  | ro a xs => exact h
  | obj n o => exact ⟨h.1, (hk n rfl).trans h.2⟩
  | frz n xs =>
    obtain ⟨h0, cs, T, fr, h1, h2⟩ := h
    exact ⟨h0, cs, T, fr, (hk n rfl).trans h1, h2⟩
  | abs f inv => exact ⟨fun b hb => ⟨(h.1 b hb).1, Nat.lt_of_lt_of_le (h.1 b hb).2 hs⟩, h.2.2 W' hx hs hk, fun W'' hx'' hs'' h' => h.2.2 W'' hx'' (Nat.le_trans hs hs'') fun b hb => (h' b hb).trans (hk b hb)⟩
  | dead a => trivial

def Apart (o o' : OB) : Prop := ∀ b, o.fp b → ¬ o'.fp b
structure Mem (B : Bas) (own : Own) (W : World) : Prop where
  ext : ExtG B W
  reg : ∀ o ∈ own, Reg B W o
  disj : own.Pairwise Apart
theorem Mem.at {B : Bas} {own : Own} {W : World} (h : Mem B own W) {i : Nat} {o : OB} (hi : own[i]? = some o) : Reg B W o := h.reg o (List.mem_of_getElem? hi)
theorem Mem.apart {B : Bas} {own : Own} {W : World} (h : Mem B own W) {i j : Nat} {o o' : OB} (hi : own[i]? = some o) (hj : own[j]? = some o') (hne : i ≠ j) : Apart o o' := by
  have hp := List.pairwise_iff_getElem.1 h.disj
  obtain ⟨li, ei⟩ := List.getElem?_eq_some_iff.1 hi
  obtain ⟨lj, ej⟩ := List.getElem?_eq_some_iff.1 hj
  rcases Nat.lt_or_ge i j with hlt | hge
  · have := hp i j li lj hlt; rw [ei, ej] at this; exact this
  · have := hp j i lj li (by omega); rw [ei, ej] at this
    exact fun b hb hb' => this b hb' hb
theorem pairwise_of {own : Own} (h : ∀ (i j : Nat) (o o' : OB), own[i]? = some o → own[j]? = some o' → i ≠ j → Apart o o') : own.Pairwise Apart :=
  List.pairwise_iff_getElem.2 fun i j hi hj hlt => h i j _ _ (List.getElem?_eq_getElem hi) (List.getElem?_eq_getElem hj) (by omega)
/-- Nothing of the regions has turned. -/
theorem Mem.kept {B : Bas} {own : Own} {W W' : World} (h : Mem B own W) (hx : ExtG B W') (hs : W.heap.size ≤ W'.heap.size) (hk : ∀ b, b < W.heap.size → W'.heap[b]? = W.heap[b]?) : Mem B own W' :=
  ⟨hx, fun o ho => (h.reg o ho).keep hx hs fun b hb => hk b ((h.reg o ho).lt hb), h.disj⟩
theorem Mem.ext' {B : Bas} {own : Own} {W W' : World} (h : Mem B own W) (hx : Ext W W') : Mem B own W' := h.kept (h.ext.ext hx) hx.below.size hx.below.block
/-- Region i is another one, within its own blocks. -/
theorem Mem.upd {B : Bas} {own : Own} {W W' : World} (h : Mem B own W) {i : Nat} {o o' : OB} (hi : own[i]? = some o) (hfp : ∀ b, o'.fp b → o.fp b) (hx : ExtG B W') (hs : W.heap.size ≤ W'.heap.size)
    (hk : ∀ b, b < W.heap.size → ¬ o.fp b → W'.heap[b]? = W.heap[b]?) (hr : Reg B W' o') : Mem B (own.set i o') W' := by
  have hlt := (List.getElem?_eq_some_iff.1 hi).1
  refine ⟨hx, fun q hq => ?_, pairwise_of fun a b q q' ha hb hne => ?_⟩
  · obtain ⟨j, hj⟩ := List.getElem?_of_mem hq
    by_cases e : i = j
    · subst e; rw [List.getElem?_set_self hlt] at hj; cases hj; exact hr
    · rw [List.getElem?_set_ne e] at hj
      exact (h.at hj).keep hx hs fun b hb => hk b ((h.at hj).lt hb) fun hob => h.apart hi hj e b hob hb
  · by_cases e : i = a
    · subst e
      rw [List.getElem?_set_self hlt] at ha; cases ha
      rw [List.getElem?_set_ne hne] at hb
      exact fun x hx hx' => h.apart hi hb hne x (hfp x hx) hx'
    · rw [List.getElem?_set_ne e] at ha
      by_cases e' : i = b
      · subst e'
        rw [List.getElem?_set_self hlt] at hb; cases hb
        exact fun x hx hx' => h.apart hi ha e x (hfp x hx') hx
      · rw [List.getElem?_set_ne e'] at hb
        exact h.apart ha hb hne
/-- More regions, of blocks that were not there. -/
theorem Mem.app {B : Bas} {own news : Own} {W W' : World} (h : Mem B own W) (hx : ExtG B W') (hs : W.heap.size ≤ W'.heap.size) (hk : ∀ b, b < W.heap.size → W'.heap[b]? = W.heap[b]?)
    (hr : ∀ o ∈ news, Reg B W' o) (hd : news.Pairwise Apart) (hn : ∀ o ∈ news, ∀ b, o.fp b → W.heap.size ≤ b) : Mem B (own ++ news) W' := by
  have h' := h.kept hx hs hk
  refine ⟨hx, fun o ho => ?_, List.pairwise_append.2 ⟨h.disj, hd, fun o ho o' ho' b hb hb' => ?_⟩⟩
  · rcases List.mem_append.1 ho with ho | ho
    · exact h'.reg o ho
    · exact hr o ho
  · have := (h.reg o ho).lt hb
    have := hn o' ho' b hb'
    omega
theorem Mem.push {B : Bas} {own : Own} {W W' : World} {o : OB} (h : Mem B own W) (hx : ExtG B W') (hs : W.heap.size ≤ W'.heap.size) (hk : ∀ b, b < W.heap.size → W'.heap[b]? = W.heap[b]?)
    (hr : Reg B W' o) (hn : ∀ b, o.fp b → W.heap.size ≤ b) : Mem B (own ++ [o]) W' :=
  h.app hx hs hk (fun q hq => by rw [List.mem_singleton] at hq; subst hq; exact hr) (List.pairwise_singleton _ _) (fun q hq b hb => by rw [List.mem_singleton] at hq; subst hq; exact hn b hb)
theorem Mem.nil (B : Bas) : Mem B [] B.w := ⟨ExtG.refl B, fun _ h => absurd h (by simp), List.Pairwise.nil⟩
/-- Some of the regions, perhaps in another order. -/
def pick (own : Own) : List Nat → Option Own
  | [] => some []
  | i :: is => match nth own i with
    | some o => match pick own is with
      | some r => some (o :: r)
      | none => none
    | none => none
theorem pick_spec : ∀ {own own' : Own} {is : List Nat}, pick own is = some own' → own'.length = is.length ∧ ∀ (j i : Nat), is[j]? = some i → own'[j]? = own[i]?
  | own, own', [], h => by simp only [pick, Option.some.injEq] at h; subst h; simp
  | own, own', i :: is, h => by
    unfold pick at h
    split at h
    · rename_i o ho
      split at h
      · rename_i r hr
        cases h
        obtain ⟨h1, h2⟩ := pick_spec hr
        refine ⟨by simp [h1], fun j k hj => ?_⟩
        cases j with
        | zero => simp at hj; subst hj; rw [← nth_eq own, ho]; rfl
        | succ j => simpa using h2 j k (by simpa using hj)
      · cases h
    · cases h
def nodupB : List Nat → Bool
  | [] => true
  | x :: r => !(r.any (Nat.beq x)) && nodupB r
theorem nodupB_spec : ∀ {l : List Nat}, nodupB l = true → l.Nodup
  | [], _ => List.nodup_nil
  | x :: r, h => by
    simp only [nodupB, Bool.and_eq_true, Bool.not_eq_true'] at h
    refine List.nodup_cons.2 ⟨fun hx => ?_, nodupB_spec h.2⟩
    have : r.any (Nat.beq x) = true := List.any_eq_true.2 ⟨x, hx, Nat.beq_refl x⟩
    rw [this] at h; exact absurd h.1 (by decide)
theorem Mem.sel {B : Bas} {own own' : Own} {W : World} (h : Mem B own W) {is : List Nat} (hp : pick own is = some own') (hn : nodupB is = true) : Mem B own' W := by
  obtain ⟨h1, h2⟩ := pick_spec hp
  have idx : ∀ j o, own'[j]? = some o → ∃ i, is[j]? = some i ∧ own[i]? = some o := fun j o hj => by
    have hl := (List.getElem?_eq_some_iff.1 hj).1
    rw [h1] at hl
    exact ⟨is[j], List.getElem?_eq_getElem hl, by rw [← h2 j _ (List.getElem?_eq_getElem hl)]; exact hj⟩
  refine ⟨h.ext, fun o ho => ?_, pairwise_of fun a b o o' ha hb hne => ?_⟩
  · obtain ⟨j, hj⟩ := List.getElem?_of_mem ho
    obtain ⟨i, _, hi⟩ := idx j o hj
    exact h.at hi
  · obtain ⟨i, hi, hio⟩ := idx a o ha
    obtain ⟨j, hj, hjo⟩ := idx b o' hb
    refine h.apart hio hjo fun e => hne ?_
    subst e
    obtain ⟨la, ea⟩ := List.getElem?_eq_some_iff.1 hi
    obtain ⟨lb, eb⟩ := List.getElem?_eq_some_iff.1 hj
    exact (List.getElem_inj (nodupB_spec hn)).1 (ea.trans eb.symm)

/-! ## a frame that its symbolic state describes -/
structure Rel (B : Bas) (nt : Nat) (σ : St) (a : Act) (W : World) : Prop where
  size : a.tmps.size = nt
  defers : a.defers = σ.dfs
  env : ∀ d e, eget σ.env d = some e → Den σ.own e (a.tmps.getD d undef)
  mem : Mem B σ.own W
theorem Rel.at {B : Bas} {nt : Nat} {σ : St} {a : Act} {W : World} (h : Rel B nt σ a W) {x : Operand} {e : EV} (hx : ev σ.env x = some e) : Den σ.own e (a.eval x) := by
  cases x with
  | tmp t => exact h.env t e hx
  | const u => cases hx; rfl
  | global g => cases hx; rfl
  | func f => cases hx; rfl
theorem Rel.atv {B : Bas} {nt : Nat} {σ : St} {a : Act} {W : World} (h : Rel B nt σ a W) {x : Operand} {v : Value} (hx : ev σ.env x = some (.v v)) : a.eval x = v := h.at hx
/-- The regions lie where they lay, and there may be more. -/
def OLe (own own' : Own) : Prop := ∀ (i : Nat) (o : OB), own[i]? = some o → ∃ o' : OB, own'[i]? = some o' ∧ o'.key = o.key
theorem OLe.refl (own : Own) : OLe own own := fun _ o h => ⟨o, h, rfl⟩
theorem OLe.trans {a b c : Own} (h : OLe a b) (k : OLe b c) : OLe a c := fun i o hi => let ⟨o', h1, h2⟩ := h i o hi; let ⟨o'', h3, h4⟩ := k i o' h1; ⟨o'', h3, h4.trans h2⟩
theorem OLe.app (own news : Own) : OLe own (own ++ news) := fun i o h => ⟨o, by rw [List.getElem?_append_left (List.getElem?_eq_some_iff.1 h).1]; exact h, rfl⟩
theorem OLe.set {own : Own} {i : Nat} {o o' : OB} (hi : own[i]? = some o) (hk : o'.key = o.key) : OLe own (own.set i o') := fun j q h => by
  have hl := (List.getElem?_eq_some_iff.1 h).1
  by_cases e : i = j
  · subst e
    have : q = o := Option.some.inj (h.symm.trans hi)
    subst this
    exact ⟨o', List.getElem?_set_self hl, hk⟩
  · exact ⟨q, by rw [List.getElem?_set_ne e]; exact h, rfl⟩
theorem Den.le {own own' : Own} (h : OLe own own') {e : EV} {u : Value} (hd : Den own e u) : Den own' e u := by
  cases e with
  | v x => exact hd
  | p i off =>
    obtain ⟨o, b, lo, ho, hk, he⟩ := hd
    obtain ⟨o', ho', hk'⟩ := h i o ho
    exact ⟨o', b, lo, ho', hk'.trans hk, he⟩
  | s i off n c =>
    obtain ⟨o, a, ho, he, hc⟩ := hd
    obtain ⟨o', ho', hk'⟩ := h i o ho
    exact ⟨o', a, ho', he, fun h0 => let ⟨b, lo, h1, h2⟩ := hc h0; ⟨b, lo, hk'.trans h1, h2⟩⟩
/-- The length of a short list, as a numeral. -/
def idxL {α : Type} : List α → Option Nat
  | [] => some 0
  | [_] => some 1
  | [_, _] => some 2
  | [_, _, _] => some 3
  | [_, _, _, _] => some 4
  | [_, _, _, _, _] => some 5
  | [_, _, _, _, _, _] => some 6
  | [_, _, _, _, _, _, _] => some 7
  | [_, _, _, _, _, _, _, _] => some 8
  | [_, _, _, _, _, _, _, _, _] => some 9
  | [_, _, _, _, _, _, _, _, _, _] => some 10
  | [_, _, _, _, _, _, _, _, _, _, _] => some 11
  | [_, _, _, _, _, _, _, _, _, _, _, _] => some 12
  | [_, _, _, _, _, _, _, _, _, _, _, _, _] => some 13
  | [_, _, _, _, _, _, _, _, _, _, _, _, _, _] => some 14
  | [_, _, _, _, _, _, _, _, _, _, _, _, _, _, _] => some 15
  | [_, _, _, _, _, _, _, _, _, _, _, _, _, _, _, _] => some 16
  | [_, _, _, _, _, _, _, _, _, _, _, _, _, _, _, _, _] => some 17
  | [_, _, _, _, _, _, _, _, _, _, _, _, _, _, _, _, _, _] => some 18
  | [_, _, _, _, _, _, _, _, _, _, _, _, _, _, _, _, _, _, _] => some 19
  | [_, _, _, _, _, _, _, _, _, _, _, _, _, _, _, _, _, _, _, _] => some 20
  | [_, _, _, _, _, _, _, _, _, _, _, _, _, _, _, _, _, _, _, _, _] => some 21
  | [_, _, _, _, _, _, _, _, _, _, _, _, _, _, _, _, _, _, _, _, _, _] => some 22
  | [_, _, _, _, _, _, _, _, _, _, _, _, _, _, _, _, _, _, _, _, _, _, _] => some 23
  | [_, _, _, _, _, _, _, _, _, _, _, _, _, _, _, _, _, _, _, _, _, _, _, _] => some 24
  | [_, _, _, _, _, _, _, _, _, _, _, _, _, _, _, _, _, _, _, _, _, _, _, _, _] => some 25
  | [_, _, _, _, _, _, _, _, _, _, _, _, _, _, _, _, _, _, _, _, _, _, _, _, _, _] => some 26
  | [_, _, _, _, _, _, _, _, _, _, _, _, _, _, _, _, _, _, _, _, _, _, _, _, _, _, _] => some 27
  | [_, _, _, _, _, _, _, _, _, _, _, _, _, _, _, _, _, _, _, _, _, _, _, _, _, _, _, _] => some 28
  | [_, _, _, _, _, _, _, _, _, _, _, _, _, _, _, _, _, _, _, _, _, _, _, _, _, _, _, _, _] => some 29
  | [_, _, _, _, _, _, _, _, _, _, _, _, _, _, _, _, _, _, _, _, _, _, _, _, _, _, _, _, _, _] => some 30
  | [_, _, _, _, _, _, _, _, _, _, _, _, _, _, _, _, _, _, _, _, _, _, _, _, _, _, _, _, _, _, _] => some 31
  | [_, _, _, _, _, _, _, _, _, _, _, _, _, _, _, _, _, _, _, _, _, _, _, _, _, _, _, _, _, _, _, _] => some 32
  | _ => none
theorem idxL_eq {α : Type} {l : List α} {n : Nat} (h : idxL l = some n) : n = l.length := by
  unfold idxL at h
  split at h <;> first | (cases h; rfl) | cases h
theorem eget_cons_self {env : Env} {d : Nat} {v : EV} : eget ((d, v) :: env) d = some v := by simp [eget]
theorem beq_ne {a b : Nat} (h : a ≠ b) : Nat.beq a b = false := by cases e : Nat.beq a b; rfl; exact absurd (Nat.eq_of_beq_eq_true e) h
theorem eget_cons_ne {env : Env} {d d' : Nat} {v : EV} (h : d' ≠ d) : eget ((d', v) :: env) d = eget env d := by simp only [eget, beq_ne h, cond_false]
/-- A temporary is written; the world is another one that the new state still describes. -/
theorem Rel.put {B : Bas} {nt : Nat} {env : Env} {own own' : Own} {dfs : List Deferred} {a : Act} {W W' : World} (h : Rel B nt ⟨env, own, dfs⟩ a W) {d : Nat} (hd : d < nt) (e : EV) (v : Value) (hl : OLe own own') (hv : Den own' e v)
    (hm : Mem B own' W') : Rel B nt ⟨(d, e) :: env, own', dfs⟩ (a.put (some d) v) W' where
  size := by simp [Act.put, h.size]
  defers := h.defers
  env := by
    intro d' e' hv'
    by_cases c : d = d'
    · subst c
      rw [eget_cons_self] at hv'
      cases hv'
      have hs : d < a.tmps.size := by rw [h.size]; exact hd
      simpa [Act.put, hs] using hv
    · rw [eget_cons_ne c] at hv'
      have := (h.env d' e' hv').le hl
      simp only [Act.put, Array.getD_eq_getD_getElem?] at this ⊢
      rw [Array.getElem?_setIfInBounds_ne c]
      exact this
  mem := hm
theorem Rel.keep {B : Bas} {nt : Nat} {env : Env} {own own' : Own} {dfs : List Deferred} {a : Act} {W W' : World} (h : Rel B nt ⟨env, own, dfs⟩ a W) (hl : OLe own own') (hm : Mem B own' W') : Rel B nt ⟨env, own', dfs⟩ a W' :=
  ⟨h.size, h.defers, fun d e he => (h.env d e he).le hl, hm⟩
theorem Rel.less {B : Bas} {nt : Nat} {σ : St} {a : Act} {W : World} (h : Rel B nt σ a W) {env' : Env} (he : ∀ d v, eget env' d = some v → eget σ.env d = some v) : Rel B nt { σ with env := env' } a W :=
  ⟨h.size, h.defers, fun d v hv => h.env d v (he d v hv), h.mem⟩
/-- Less is said: some slots, some regions under other numbers. -/
def ren (is : List Nat) : EV → Option EV
  | .v x => some (.v x)
  | .p j off => match nth is j with
    | some i => some (.p i off)
    | none => none
  | .s j off n c => match nth is j with
    | some i => some (.s i off n c)
    | none => none
theorem Den.ren {own own' : Own} {is : List Nat} (hp : pick own is = some own') {e e' : EV} {u : Value} (hr : ren is e' = some e) (hd : Den own e u) : Den own' e' u := by
  obtain ⟨h1, h2⟩ := pick_spec hp
  cases e' with
  | v x => cases hr; exact hd
  | p j off =>
    simp only [Go.Proofs.YtpfjolckhlgodaaDoor.ren] at hr
    split at hr
    · rename_i i hi
      cases hr
      rw [nth_eq] at hi
      obtain ⟨o, b, lo, ho, hk, he⟩ := hd
      exact ⟨o, b, lo, by rw [h2 j i hi]; exact ho, hk, he⟩
    · cases hr
  | s j off n c =>
    simp only [Go.Proofs.YtpfjolckhlgodaaDoor.ren] at hr
    split at hr
    · rename_i i hi
      cases hr
      rw [nth_eq] at hi
      obtain ⟨o, a, ho, he⟩ := hd
      exact ⟨o, a, by rw [h2 j i hi]; exact ho, he⟩
    · cases hr
/-- What is said of the slots of 'l' in the state at hand. -/
inductive EnvIn (is : List Nat) (env : Env) : Env → Prop
  | nil : EnvIn is env []
  | cons {d : Nat} {e e' : EV} {l : Env} : eget env d = some e → ren is e' = some e → EnvIn is env l → EnvIn is env ((d, e') :: l)
theorem EnvIn.get {is : List Nat} {env l : Env} (h : EnvIn is env l) : ∀ d e', eget l d = some e' → ∃ e, eget env d = some e ∧ Go.Proofs.YtpfjolckhlgodaaDoor.ren is e' = some e := by
  induction h with
  | nil => intro d e' h; simp [eget] at h
  | @cons d0 e e0 l h1 h2 _ ih =>
    intro d e' hd
    by_cases c : d0 = d
    · subst c; rw [eget_cons_self] at hd; cases hd; exact ⟨e, h1, h2⟩
    · rw [eget_cons_ne c] at hd; exact ih d e' hd
def Wk (B : Bas) (nt : Nat) (σ τ : St) : Prop := ∀ a W, Rel B nt σ a W → Rel B nt τ a W
theorem Wk.refl {B : Bas} {nt : Nat} {σ : St} : Wk B nt σ σ := fun _ _ h => h
theorem wk {B : Bas} {nt : Nat} {env env' : Env} {own own' : Own} {dfs : List Deferred} (is : List Nat) (hp : pick own is = some own') (hn : nodupB is = true) (he : EnvIn is env env') : Wk B nt ⟨env, own, dfs⟩ ⟨env', own', dfs⟩ :=
  fun _ _ h => ⟨h.size, h.defers, fun d e' hd => let ⟨e, h1, h2⟩ := he.get d e' hd; (h.env d e h1).ren hp h2, h.mem.sel hp hn⟩

def Exit.calm : Exit → Prop
  | .panic _ | .outgrown => False
  | _ => True
def Lift (B : Bas) (nt : Nat) (K : Exit → St → Prop) (e : Exit) (a : Act) (W : World) : Prop := Exit.calm e ∧ ∃ σ, K e σ ∧ Rel B nt σ a W
theorem lift_lets {B : Bas} {nt : Nat} {K : Exit → St → Prop} : ¬ LetsOut (Lift B nt K) := fun ⟨_, _, h⟩ => h.1

/-! ## fences -/
def Fw (ρ : Option Nat) : Fence := { fn := fun _ => True, depth := none, alive := false, round := ρ }
theorem fenced_w (P : Program) (ρ : Option Nat) (m : Machine) : m.fenced P (Fw ρ) := fenced_wide P m
theorem room_w (ρ : Option Nat) (n : Nat) : (Fw ρ).room n := fun _ h => by simp [Fw] at h
theorem callsIn_w {ρ : Option Nat} {n : Nat} {P : Program} {f : FuncId} {args : Array Value} {w : World} {R : Ending → World → Prop} : CallsIn (Fw ρ) n P f args w R ↔ Calls P f args w R :=
  callsIn_wide (n := n) (P := P) (f := f) (args := args) (w := w) (R := R)
theorem steps_w {P : Program} {ρ : Option Nat} {m m' : Machine} (h : Steps P m m') : StepsIn (Machine.fenced P (Fw ρ)) P m m' := stepsIn_wide.2 h
def noDefer : Op → Bool
  | .defer _ => false
  | _ => true
theorem noDefer_spec {op : Op} (h : noDefer op = true) : ∀ c, op ≠ .defer c := fun c e => by subst e; cases h
theorem oper_in {P : Program} {ρ : Option Nat} {o : Oper} {a : Act} {w : World} {K : Act → World → Prop} {Q : Exit → Act → World → Prop} (hd : noDefer o.op = true) (h : o.wp P a w K Q) : o.wpIn (Fw ρ) 0 P a w K Q := by
  refine ⟨fun _ _ => trivial, ?_⟩
  rw [Oper.semAt_eq _ _ _ (noDefer_spec hd)]
  unfold Oper.wp at h
  generalize (execOp a.eval o).run P w = r at *
  cases r with
  | ok n w' =>
    cases n <;> simp only [Oper.upon] at h <;> simp only [Oper.uponIn] <;> first
      | exact h
      | exact h.elim
      | exact ⟨fun hf => by simp [Fw] at hf, callsIn_w.2 h⟩
      | exact ⟨fun hf => by simp [Fw] at hf, fun c cs _ => let ⟨v, w'', hr, hs⟩ := h c cs; ⟨v, w'', hr, steps_w hs⟩⟩
  | halt x w' => cases x <;> simp only [Oper.upon] at h <;> simp only [Oper.uponIn] <;> first | exact h | exact h.elim
theorem ops_in {P : Program} {ρ : Option Nat} {ops : Array Oper} {Q : Exit → Act → World → Prop} (hd : ∀ (i : Nat) o, ops[i]? = some o → noDefer o.op = true) (hq : ¬ LetsOut Q) : ∀ (l : List Nat) (a : Act) (w : World), wpOps P ops Q l a w → wpOpsIn (Fw ρ) 0 P ops Q l a w := by
  intro l
  induction l with
  | nil => exact fun _ _ h => h
  | cons i rest ih =>
    intro a w h
    simp only [wpOps] at h
    simp only [wpOpsIn]
    cases ho : ops[i]? with
    | none => simp only [ho] at h ⊢; exact ih _ _ h
    | some o =>
      simp only [ho] at h ⊢
      split
      · rename_i hw
        simp only [hw, if_true] at h
        rcases h with h | h
        · exact oper_in (hd i o ho) (Oper.wp_mono ih h)
        · exact absurd h.2 hq
      · rename_i hw
        simp only [hw] at h
        exact ⟨fun _ _ => trivial, ih _ _ h⟩
/-- The operations of a region in the text's order. -/
def wpListI (F : Fence) (P : Program) (ops : Array Oper) (Q : Exit → Act → World → Prop) : List Oper → Act → World → Prop
  | [], a, w => Q .normal a w
  | o :: rest, a, w => if Region.wanted o (yielded ops a.tmps) then o.wpIn F 0 P a w (wpListI F P ops Q rest) Q else wpListI F P ops Q rest (a.put o.dst undef) w
theorem oper_in_mono {F : Fence} {P : Program} {o : Oper} {a : Act} {w : World} {K K' : Act → World → Prop} {Q : Exit → Act → World → Prop} (h : ∀ a w, K a w → K' a w) (hh : o.wpIn F 0 P a w K Q) : o.wpIn F 0 P a w K' Q := by
  refine ⟨hh.1, ?_⟩
  have hh := hh.2
  generalize (o.semAt F.round a.eval).run P w = r at *
  cases r with
  | ok n w' =>
    cases n <;> simp only [Oper.uponIn] at hh ⊢ <;> first
      | exact h _ _ hh
      | exact hh
      | exact ⟨hh.1, hh.2.mono fun e w'' he => by cases e <;> first | exact h _ _ he | exact he⟩
      | exact ⟨hh.1, hh.2.mono fun _ _ he => h _ _ he⟩
  | halt x w' => cases x <;> simp only [Oper.uponIn] at hh ⊢ <;> exact hh
theorem list_in {ρ : Option Nat} {P : Program} {ops : Array Oper} {Q : Exit → Act → World → Prop} : ∀ (k j : Nat) (a : Act) (w : World), j + k = ops.size → wpListI (Fw ρ) P ops Q (ops.toList.drop j) a w → wpOpsIn (Fw ρ) 0 P ops Q (List.range' j k) a w
  | 0, j, a, w, hk, h => by
    have : ops.toList.drop j = [] := by apply List.drop_eq_nil_of_le; simp; omega
    rw [this] at h; exact h
  | k + 1, j, a, w, hk, h => by
    have hj : j < ops.toList.length := by simp; omega
    rw [List.drop_eq_getElem_cons hj] at h
    have ho : ops[j]? = some (ops.toList[j]) := by rw [← Array.getElem?_toList, List.getElem?_eq_getElem hj]
    rw [List.range'_succ]
    simp only [wpOpsIn, ho]
    unfold wpListI at h
    split
    · rename_i hw
      simp only [hw, if_true] at h
      exact oper_in_mono (fun a w h => list_in k (j + 1) a w (by omega) h) h
    · rename_i hw
      simp only [hw] at h
      exact ⟨fun _ _ => trivial, list_in k (j + 1) _ w (by omega) h⟩
theorem wp_region_list {ρ : Option Nat} {P : Program} {id : Nat} {l : List Oper} {Q : Exit → Act → World → Prop} {a : Act} {w : World} (h : wpListI (Fw ρ) P l.toArray Q l a w) : (Code.region id l.toArray false).wpIn (Fw ρ) 0 P Q a w := by
  refine wpIn_region ?_
  rw [List.range_eq_range']
  exact list_in _ 0 a w (by simp) (by simpa using h)

/-! ## the judgements -/
/-- What an operation of a kind may do to the world. 0: nothing. 1: what is named stays. -/
def kind : Op → Nat
  | .convert _ _ (.const (.string _)) => 1
  | .convert s d _ => bif Nat.beq s d then 1 else 0
  | .move _ | .assign _ | .pick .. | .load .. | .binOp .. | .unOp .. | .field .. | .fieldAddr .. | .indexAddr .. | .index .. | .extract .. | .build .. | .nilCheck _ | .makeFunc .. | .slice .. | .makeInterface .. => 0
  | .store .. | .alloc _ | .box .. | .buildSlice .. | .makeMap .. | .makeSlice .. | .lookup .. | .mapEntry .. | .entryStore .. | .mapUpdate .. => 1
  | .call c => match c.callee with
    | .value _ => 1
    | .builtin .len | .builtin .cap | .builtin .min | .builtin .max => 0
    | .builtin .append | .builtin .copy => 1
    | _ => 2
  | _ => 2
/-- Functions whose calls write into nothing that was there. -/
def quietF (f : Nat) : Bool := [24, 34, 19, 32, 18, 25, 14, 17, 22, 12, 14, 17, 36, 24].any (Nat.beq f)
/-- Operations that make memory and write into none. -/
def isNew : Op → Bool
  | .alloc _ | .box .. | .buildSlice .. => true
  | .call c => match c.callee with
    | .value (.func f) => quietF f
    | _ => false
  | _ => false
def Kept (B : Bas) (Z : Nat → Prop) (o : Op) (W W' : World) : Prop := (kind o = 0 → W' = W) ∧ (ExtG B W → ExtG B W' ∧ W.heap.size ≤ W'.heap.size) ∧ (kind o = 1 → ∀ b, Z b ∨ isNew o = true → b < W.heap.size → W'.heap[b]? = W.heap[b]?)
theorem Kept.same {B : Bas} {Z : Nat → Prop} {o : Op} {W : World} : Kept B Z o W W := ⟨fun _ => rfl, fun h => ⟨h, Nat.le_refl _⟩, fun _ _ _ _ => rfl⟩
theorem Kept.ext {B : Bas} {Z : Nat → Prop} {o : Op} {W W' : World} (hk : kind o ≠ 0) (h : Ext W W') : Kept B Z o W W' := ⟨fun h0 => absurd h0 hk, fun hx => ⟨hx.ext h, h.below.size⟩, fun _ b _ hb => h.below.block b hb⟩
theorem Kept.mk3 {B : Bas} {Z : Nat → Prop} {o : Op} {W W' : World} (hn : isNew o = false) (h1 : kind o = 0 → W' = W) (h2 : ExtG B W → ExtG B W' ∧ W.heap.size ≤ W'.heap.size) (h3 : kind o = 1 → ∀ b, Z b → b < W.heap.size → W'.heap[b]? = W.heap[b]?) : Kept B Z o W W' := ⟨h1, h2, fun hk b hb hl => h3 hk b (hb.resolve_right fun h => by rw [hn] at h; cases h) hl⟩
/-- The blocks of the regions zs. -/
def ZOk (own : Own) (zs : List Nat) (Z : Nat → Prop) : Prop := (∀ j ∈ zs, j < own.length) ∧ ∀ b, Z b ↔ ∃ j ∈ zs, ∃ o, own[j]? = some o ∧ o.fp b
section
variable (C : Ctx) (B : Bas) (nt : Nat) (ρ : Option Nat)
def JC (c : Code) (K : Exit → St → Prop) (σ : St) : Prop := ∀ a W, Rel B nt σ a W → c.wpIn (Fw ρ) 0 C.P (Lift B nt K) a W
def JL (ops : Array Oper) (K : Exit → St → Prop) (l : List Oper) (σ : St) : Prop := ∀ a W, Rel B nt σ a W → wpListI (Fw ρ) C.P ops (Lift B nt K) l a W
/-- One operation that yields a value and leaves the world as it is. -/
def OV (o : Oper) (e : EV) (σ : St) : Prop := ∀ a W, Rel B nt σ a W → ∃ v, Den σ.own e v ∧ ∀ w, Mem B σ.own w → (execOp a.eval o).run C.P w = .ok (.value v) w
/-- One operation, the blocks of the regions zs kept, if its kind is 1. -/
def OX (zs : List Nat) (o : Oper) (N : St → Prop) (σ : St) : Prop :=
  ∀ a W Z, Rel B nt σ a W → ZOk σ.own zs Z → ∀ (nxt : Act → World → Prop) (Q : Exit → Act → World → Prop), (∀ σ' a' W', N σ' → Rel B nt σ' a' W' → ZOk σ'.own zs Z → Kept B Z o.op W W' → nxt a' W') → o.wp C.P a W nxt Q
end
section rules
variable {C : Ctx} {B : Bas} {nt : Nat} {ρ : Option Nat} {K : Exit → St → Prop} {σ : St}
theorem OV.ox {zs : List Nat} {env : Env} {own : Own} {dfs : List Deferred} {o : Oper} {e : EV} {N : St → Prop} {d : Nat} (hd : o.dst = some d) (hlt : d < nt) (h : OV C B nt o e ⟨env, own, dfs⟩) (hN : N ⟨(d, e) :: env, own, dfs⟩) : OX C B nt zs o N ⟨env, own, dfs⟩ := by
  intro a W Z hr hz nxt Q hn
  obtain ⟨v, hv, hrun⟩ := h a W hr
  unfold Oper.wp
  rw [hrun W hr.mem, Oper.upon_value, hd]
  exact hn _ _ _ hN (hr.put hlt e v (OLe.refl _) hv hr.mem) hz Kept.same

/-! ### code -/
def Kthen (K : Exit → St → Prop) (N : St → Prop) : Exit → St → Prop
  | .normal, σ => N σ
  | e, σ => K e σ
def Kblock (id : Nat) (K : Exit → St → Prop) : Exit → St → Prop
  | .exit id', σ => bif Nat.beq id' id then K .normal σ else K (.exit id') σ
  | e, σ => K e σ
theorem jc_skip (h : K .normal σ) : JC C B nt ρ .skip K σ := fun _ _ hr => wpIn_skip ⟨trivial, σ, h, hr⟩
theorem jc_exit {id : Nat} (h : K (.exit id) σ) : JC C B nt ρ (.exit id) K σ := fun _ _ hr => wpIn_exit ⟨trivial, σ, h, hr⟩
theorem jc_ret (h : K .ret σ) : JC C B nt ρ .ret K σ := fun _ _ hr => wpIn_ret ⟨trivial, σ, h, hr⟩
theorem jc_mono {c : Code} {K' : Exit → St → Prop} (h : JC C B nt ρ c K' σ) (hk : ∀ e σ, K' e σ → K e σ) : JC C B nt ρ c K σ :=
  fun a W hr => wpIn_mono (h a W hr) fun _ _ _ ⟨hc, s, hs, r⟩ => ⟨hc, s, hk _ _ hs, r⟩
theorem jc_wk {c : Code} {τ : St} (hw : Wk B nt σ τ) (h : JC C B nt ρ c K τ) : JC C B nt ρ c K σ := fun a W hr => h a W (hw a W hr)
theorem jc_seq {x y : Code} (h : JC C B nt ρ x (Kthen K (JC C B nt ρ y K)) σ) : JC C B nt ρ (.seq x y) K σ :=
  fun a W hr => wpIn_seq (wpIn_mono (h a W hr) fun e a' W' ⟨hcalm, s, hs, r⟩ => by
    cases e with
    | normal => exact hs a' W' r
    | _ => exact ⟨hcalm, s, hs, r⟩)
theorem jc_block {id : Nat} {x : Code} (h : JC C B nt ρ x (Kblock id K) σ) : JC C B nt ρ (.block id x) K σ :=
  fun a W hr => wpIn_block (wpIn_mono (h a W hr) fun e a' W' ⟨hcalm, s, hs, r⟩ => by
    cases e with
    | exit id' =>
      unfold Exit.inBlock
      by_cases e : id' = id
      · subst e; simp only [Kblock, Nat.beq_refl, cond_true] at hs; simp only [if_true]; exact ⟨trivial, s, hs, r⟩
      · have := beq_ne e
        simp only [Kblock, this, cond_false] at hs; simp only [if_neg e]; exact ⟨trivial, s, hs, r⟩
    | _ => exact ⟨hcalm, s, hs, r⟩)
theorem jc_cond {c : Operand} {x y : Code} {t : Bool} (hc : ev σ.env c = some (.v (.bool t))) (ht : t = true → JC C B nt ρ x K σ) (hf : t = false → JC C B nt ρ y K σ) : JC C B nt ρ (.cond c x y) K σ :=
  fun a W hr => wpIn_cond_split (hr.atv hc) (fun h => ht h a W hr) (fun h => hf h a W hr)
theorem jc_cond_t {c : Operand} {x y : Code} (hc : ev σ.env c = some (.v (.bool true))) (h : JC C B nt ρ x K σ) : JC C B nt ρ (.cond c x y) K σ :=
  fun a W hr => wpIn_cond_true (hr.atv hc) (h a W hr)
theorem jc_cond_f {c : Operand} {x y : Code} (hc : ev σ.env c = some (.v (.bool false))) (h : JC C B nt ρ y K σ) : JC C B nt ρ (.cond c x y) K σ :=
  fun a W hr => wpIn_cond_false (hr.atv hc) (h a W hr)
theorem jc_cond_lt {c : Operand} {x y : Code} {p q : Int} (hc : ev σ.env c = some (.v (.bool (ltB p q)))) (ht : p < q → JC C B nt ρ x K σ) (hf : q ≤ p → JC C B nt ρ y K σ) : JC C B nt ρ (.cond c x y) K σ :=
  jc_cond hc (fun h => ht (by rw [ltB_eq] at h; simpa using h)) (fun h => hf (by rw [ltB_eq] at h; simpa using h))
theorem jc_cond_ge {c : Operand} {x y : Code} {p q : Int} (hc : ev σ.env c = some (.v (.bool (!(ltB p q))))) (ht : q ≤ p → JC C B nt ρ x K σ) (hf : p < q → JC C B nt ρ y K σ) : JC C B nt ρ (.cond c x y) K σ :=
  jc_cond hc (fun h => ht (by rw [ltB_eq] at h; simpa using h)) (fun h => hf (by rw [ltB_eq] at h; simpa using h))
theorem jc_cond_eq {c : Operand} {x y : Code} {p q : Int} (hc : ev σ.env c = some (.v (.bool (eqB p q)))) (ht : p = q → JC C B nt ρ x K σ) (hf : p ≠ q → JC C B nt ρ y K σ) : JC C B nt ρ (.cond c x y) K σ :=
  jc_cond hc (fun h => ht (by rw [eqB_eq] at h; simpa using h)) (fun h => hf (by rw [eqB_eq] at h; simpa using h))
theorem jc_cond_ne {c : Operand} {x y : Code} {p q : Int} (hc : ev σ.env c = some (.v (.bool (!(eqB p q))))) (ht : p ≠ q → JC C B nt ρ x K σ) (hf : p = q → JC C B nt ρ y K σ) : JC C B nt ρ (.cond c x y) K σ :=
  jc_cond hc (fun h => ht (by rw [eqB_eq] at h; simpa using h)) (fun h => hf (by rw [eqB_eq] at h; simpa using h))

/-- n rounds of a loop at most. -/
def JR (C : Ctx) (B : Bas) (nt : Nat) (ρ : Option Nat) (c : Code) (K : Exit → St → Prop) : Nat → St → Prop
  | 0, _ => False
  | n + 1, σ => JC C B nt ρ c (Kthen K (JR C B nt ρ c K n)) σ
theorem jr_step {c : Code} {n : Nat} (h : JC C B nt ρ c (Kthen K (JR C B nt ρ c K n)) σ) : JR C B nt ρ c K (n + 1) σ := h
/-- A loop: what is left of it comes down by a measure of the state. -/
theorem jc_loop {c : Code} (I : Nat → St → Prop) (m : Nat) (h₀ : I m σ) (round : ∀ n σ, I n σ → JC C B nt ρ c (Kthen K fun σ' => ∃ n', n' < n ∧ I n' σ') σ) : JC C B nt ρ (.loop c) K σ := by
  intro a W hr b k cs hro hb hroom
  have key : ∀ n σ a W, I n σ → Rel B nt σ a W →
      ∃ e a' w', Lift B nt K e a' w' ∧ ArrivesIn (Machine.fenced C.P (Fw ρ)) C.P (lone (b.atR a (.code c :: .inLoop c :: k)) cs W) b k cs e a' w' := by
    intro n
    induction n using Nat.strongRecOn with
    | _ n ih =>
      intro σ a W hI hr
      obtain ⟨e, a₁, w₁, ⟨hcalm, s, hs, hr1⟩, harr⟩ := round n σ hI a W hr b (.inLoop c :: k) cs hro hb hroom
      cases e with
      | normal =>
        obtain ⟨n', hlt, hI₁⟩ := hs
        obtain ⟨e₂, a₂, w₂, hq₂, harr₂⟩ := ih n' hlt s a₁ w₁ hI₁ hr1
        exact ⟨e₂, a₂, w₂, hq₂, .of_steps (StepsIn.trans harr (.one (fenced_calm hb hroom rfl) stepR_inLoop)) harr₂⟩
      | exit id => exact ⟨_, a₁, w₁, ⟨hcalm, s, hs, hr1⟩, .pass (x := .inLoop c) rfl (fun _ _ => .inl (by simp)) harr⟩
      | goto l => exact ⟨_, a₁, w₁, ⟨hcalm, s, hs, hr1⟩, .pass (x := .inLoop c) rfl (fun _ _ => .inl (by simp)) harr⟩
      | ret => exact ⟨_, a₁, w₁, ⟨hcalm, s, hs, hr1⟩, .pass (x := .inLoop c) rfl (fun _ _ => .inl (by simp)) harr⟩
      | panic ch => exact ⟨_, a₁, w₁, ⟨hcalm, s, hs, hr1⟩, .pass (x := .inLoop c) rfl (fun _ _ => .inl (by simp)) harr⟩
      | outgrown => exact ⟨_, a₁, w₁, ⟨hcalm, s, hs, hr1⟩, .pass (x := .inLoop c) rfl (fun _ _ => .inl (by simp)) harr⟩
  obtain ⟨e, a', w', hq, harr⟩ := key m σ a W h₀ hr
  exact ⟨e, a', w', hq, .of_steps (.one (fenced_calm hb hroom rfl) stepR_loop) harr⟩
theorem jc_rounds {c : Code} (n : Nat) (h : JR C B nt ρ c K n σ) : JC C B nt ρ (.loop c) K σ := by
  refine jc_loop (fun m s => JR C B nt ρ c K m s) n h fun m s hm => ?_
  cases m with
  | zero => exact hm.elim
  | succ m => exact fun a W hr => wpIn_mono (hm a W hr) fun e a' W' ⟨hc, s', hs, hr'⟩ => ⟨hc, s', by cases e <;> first | exact ⟨m, Nat.lt_succ_self m, hs⟩ | exact hs, hr'⟩
/-- The end of a round: the state is again one of the loop's, further on. -/
def KInv (B : Bas) (nt : Nat) {ι : Type} (S : ι → St) (φ : ι → Prop) (μ : ι → Nat) (n : Nat) (σ : St) : Prop := ∃ y, φ y ∧ μ y < n ∧ Wk B nt σ (S y)
theorem jc_inv {c : Code} {ι : Type} (S : ι → St) (φ : ι → Prop) (μ : ι → Nat) (x : ι) (h0 : φ x) (hw : Wk B nt σ (S x)) (round : ∀ x, φ x → JC C B nt ρ c (Kthen K (KInv B nt S φ μ (μ x))) (S x)) : JC C B nt ρ (.loop c) K σ := by
  refine jc_loop (fun m s => ∃ x, φ x ∧ μ x = m ∧ Wk B nt s (S x)) (μ x) ⟨x, h0, rfl, hw⟩ ?_
  rintro n s ⟨x, hx, rfl, hs⟩
  refine jc_wk hs fun a W hr => wpIn_mono (round x hx a W hr) fun e a' W' ⟨hc, s', hs', hr'⟩ => ⟨hc, s', ?_, hr'⟩
  cases e with
  | normal => obtain ⟨y, hy, hlt, hwy⟩ := hs'; exact ⟨μ y, hlt, y, hy, rfl, hwy⟩
  | _ => exact hs'

/-! ### regions -/
theorem jl_nil {ops : Array Oper} (h : K .normal σ) : JL C B nt ρ ops K [] σ := fun _ _ hr => ⟨trivial, σ, h, hr⟩
theorem jc_region {id : Nat} {l : List Oper} (h : JL C B nt ρ l.toArray K l σ) : JC C B nt ρ (.region id l.toArray false) K σ := fun a W hr => wp_region_list (h a W hr)
theorem jl_wk {ops : Array Oper} {l : List Oper} {τ : St} (hw : Wk B nt σ τ) (h : JL C B nt ρ ops K l τ) : JL C B nt ρ ops K l σ := fun a W hr => h a W (hw a W hr)
theorem ZOk.none (own : Own) : ZOk own [] fun _ => False := ⟨fun _ h => absurd h (by simp), fun b => ⟨fun h => h.elim, fun ⟨_, h, _⟩ => absurd h (by simp)⟩⟩

/-! ### a call's end -/
def FendG (C : Ctx) (B : Bas) (nt : Nat) (fn : Func) (R : Ending → World → Prop) (e : Exit) (σ : St) : Prop := (e = .normal ∨ e = .ret) ∧ ∀ a W, Rel B nt σ a W → LeavesInM (Fw none) 0 C.P fn a.tmps R a.defers .returning W
theorem calls_of_jc {f : FuncId} {fn : Func} {c : Code} {args : Array Value} {own : Own} {R : Ending → World → Prop} (hf : C.P.funcs[f]? = some fn) (hb : fn.body = some c)
    (env : Env) (henv : ∀ d e, eget env d = some e → Den own e ((args ++ Array.replicate (fn.ntmps - args.size) undef).getD d undef)) (hsz : args.size ≤ fn.ntmps) (hm : Mem B own B.w)
    (h : JC C B fn.ntmps none c (FendG C B fn.ntmps fn R) ⟨env, own, []⟩) : Calls C.P f args B.w R := by
  refine callsIn_w.1 (callsIn_of_wp_marks (F := Fw none) (n := 0) hf hb trivial (wpIn_mono (h _ _ ⟨?_, rfl, henv, hm⟩) ?_) rfl)
  · simp; omega
  · rintro e a W ⟨_, σ, ⟨he, hk⟩, hr⟩
    rcases he with rfl | rfl
    · exact hk a W hr
    · exact hk a W hr
end rules
end Go.Proofs.YtpfjolckhlgodaaDoor
