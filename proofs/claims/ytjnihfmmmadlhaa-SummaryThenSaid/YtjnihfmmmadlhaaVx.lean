/- A small program logic over the model's own walk: symbolic frames, memory of the call's own, value by value. -/
import Derived.Orders
import Derived.Tactics
import Derived.Below
import Derived.Deep.Draws
import Derived.KernelRfl
namespace Go.Proofs.Ytjnihfmmmadlhaa
open Go Go.RowKit

/-! ## worlds -/
structure Ext (w w' : World) : Prop where
  below : Below w.heap.size w w'
  drawn : w.drawn ≤ w'.drawn

theorem Ext.refl (w : World) : Ext w w := ⟨Below.refl _ _, Nat.le_refl _⟩
theorem Ext.trans {a b c : World} (h : Ext a b) (k : Ext b c) : Ext a c :=
  ⟨h.below.trans (k.below.mono h.below.size), Nat.le_trans h.drawn k.drawn⟩
theorem Ext.alloc (w : World) (o : Obj) : Ext w (w.alloc o) := ⟨(Below.refl _ _).alloc (Nat.le_refl _) _, Nat.le_refl _⟩
theorem Ext.draw (w : World) : Ext w { w with drawn := w.drawn + 1 } := ⟨⟨rfl, rfl, rfl, Nat.le_refl _, fun _ _ => rfl⟩, Nat.le_succ _⟩

/-- Returned v; nothing that was there has turned. -/
def PV (w : World) (v : Value) (e : Ending) (w' : World) : Prop := e = .returned v ∧ Ext w w'

/-! ## frames -/
/-- A value; or a place in the call's own memory: block i (in the order in which they were made), cell off. -/
inductive EV where
  | v (x : Value)
  | p (i off : Nat)
abbrev Own := List (Nat × TypeId × List Value)
abbrev Env := List (Nat × EV)
/-- What it stands for. -/
def Den (own : Own) : EV → Value → Prop
  | .v x, u => u = x
  | .p i off, u => ∃ b, own[i]? = some b ∧ u = .pointer (some ⟨b.1, off, none⟩)
def val (own : Own) : EV → Option Value
  | .v x => some x
  | .p i off => match own[i]? with
    | some b => some (.pointer (some ⟨b.1, off, none⟩))
    | none => none
theorem Den.val {own : Own} {e : EV} {u x : Value} (h : Den own e u) (hx : val own e = some x) : u = x := by
  cases e with
  | v y => exact h.trans (Option.some.inj hx)
  | p i off =>
    obtain ⟨b, hb, rfl⟩ := h
    simp only [Go.Proofs.Ytjnihfmmmadlhaa.val, hb] at hx
    exact Option.some.inj hx
def eget : List (Nat × EV) → Nat → Option EV
  | [], _ => none
  | (k, v) :: r, d => bif Nat.beq k d then some v else eget r d

def ev (env : List (Nat × EV)) : Operand → Option EV
  | .tmp t => eget env t
  | .const v => some (.v v)
  | .global g => some (.v (.pointer (some ⟨g, 0, none⟩)))
  | .func f => some (.v (.func (.func f) #[] #[]))

structure Ty where
  zv : Value
  size : Nat
  agg : Bool
  flds : List Nat
  fsz : List Nat
  arr : Option (Nat × Nat)
  slc : Option Nat
  tag : Nat

/-- What the rules want of a type, all closed. -/
structure TyOk (P : Program) (T : TypeId) (t : Ty) : Prop where
  z : ∀ w, (zeroValue T).run P w = .ok t.zv w
  s : ∀ w, (sizeOf T).run P w = .ok t.size w
  a : ∀ w, (isAgg T).run P w = .ok t.agg w
  f : ∀ f off, t.flds[f]? = some off → ∀ n o w, (Instr.fieldAt T (.pointer (some ⟨n, o, none⟩)) f).run P w = .ok (.pointer (some ⟨n, o + off, none⟩)) w
  g : ∀ len es, t.arr = some (len, es) → ∃ e, P.underlying T = some (.array len e) ∧ (∀ w, (sizeOf e).run P w = .ok es w) ∧ (∀ w, (isAgg e).run P w = .ok false w)
  c : ∀ e, t.slc = some e → P.underlying T = some (.slice e)
  m : ∀ x y, t.flds = x :: y → ∃ fs, P.underlying T = some (.struct fs) ∧ (∀ w, (fs.mapM fun f => do pure (f.offset, ← sizeOf f.type) : Sem (Array (Nat × Nat))).run P w = .ok (t.flds.zip t.fsz).toArray w)
  b : t.tag = 1 → P.underlying T = some .bool
  r : t.tag = 2 → P.underlying T = some .string

/-- Equality of two values, as the type's own test has it. -/
def EqAt (P : Program) (t : TypeId) (a b : Value) (r : Bool) : Prop := ∀ x y w, (eqGuard .eql t x y a b).run P w = .ok () w ∧ (eqGuard .neq t x y a b).run P w = .ok () w ∧ (binOp .eql t a b).run P w = .ok (.bool r) w ∧ (binOp .neq t a b).run P w = .ok (.bool !r) w
/-- The tests of whole numbers, by their shape: what is open stays shut. -/
def ltB : Int → Int → Bool
  | .ofNat m, .ofNat n => Nat.blt m n
  | .negSucc m, .negSucc n => Nat.blt n m
  | .ofNat _, .negSucc _ => false
  | .negSucc _, .ofNat _ => true
def eqB : Int → Int → Bool
  | .ofNat m, .ofNat n => Nat.beq m n
  | .negSucc m, .negSucc n => Nat.beq m n
  | _, _ => false
theorem ltB_eq (a b : Int) : ltB a b = decide (a < b) := by
  rw [Bool.eq_iff_iff, decide_eq_true_eq]
  cases a <;> cases b <;> simp only [ltB, Nat.blt_eq]
  · simp
  · simp; omega
  · simp; omega
  · omega
theorem eqB_eq (a b : Int) : eqB a b = decide (a = b) := by
  rw [Bool.eq_iff_iff, decide_eq_true_eq]
  cases a <;> cases b <;> simp only [eqB, Nat.beq_eq]
  · exact ⟨fun h => by rw [h], fun h => Int.ofNat.inj h⟩
  · simp
  · simp
  · exact ⟨fun h => by rw [h], fun h => Int.negSucc.inj h⟩
/-- Cells that are all whole numbers, held against each other. -/
def sameKind : IntKind → IntKind → Bool
  | .i64, .i64 | .u8, .u8 | .u32, .u32 | .u64, .u64 | .i32, .i32 => true
  | _, _ => false
theorem sameKind_eq {k k' : IntKind} (h : sameKind k k' = true) : k = k' := by
  cases k <;> cases k' <;> first | rfl | exact absurd h (by decide)
def cmpInts : List Value → List Value → Option Bool
  | [], [] => some true
  | .int k a :: xs, .int k' b :: ys => bif sameKind k k' then match cmpInts xs ys with
    | some r => some (eqB a b && r)
    | none => none
    else none
  | _, _ => none
structure Ctx where
  P : Program
  ent : TypeId → Option Ty
  ok : ∀ T t, ent T = some t → TyOk P T t
  mixed : P.follows .mixedOrders = true
  eqs : TypeId → Bool
  eqok : ∀ T t xs ys r, eqs T = true → ent T = some t → xs.length = t.size → cmpInts xs ys = some r → EqAt P T (.agg xs.toArray) (.agg ys.toArray) r

structure St where
  env : Env
  own : Own
  base : World

/-- Memory as the symbolic state has it: B the world in which the call began. -/
structure Mem (B : World) (σ : St) (W : World) : Prop where
  ext : Ext B W
  size : σ.base.heap.size ≤ W.heap.size
  old : ∀ k, k < σ.base.heap.size → (∀ e ∈ σ.own, e.1 ≠ k) → W.heap[k]? = σ.base.heap[k]?
  own : ∀ e ∈ σ.own, B.heap.size ≤ e.1 ∧ W.heap[e.1]? = some (.cells e.2.2.toArray e.2.1 (0, 0))
  nodup : (σ.own.map (·.1)).Nodup

structure Rel (B : World) (nt : Nat) (σ : St) (a : Act) (W : World) : Prop where
  size : a.tmps.size = nt
  defers : a.defers = []
  env : ∀ d e, eget σ.env d = some e → Den σ.own e (a.tmps.getD d undef)
  mem : Mem B σ W

theorem Rel.at {B : World} {nt : Nat} {σ : St} {a : Act} {W : World} (h : Rel B nt σ a W) {x : Operand} {e : EV} (hx : ev σ.env x = some e) : Den σ.own e (a.eval x) := by
  cases x with
  | tmp t => exact h.env t e hx
  | const u => cases hx; rfl
  | global g => cases hx; rfl
  | func f => cases hx; rfl
theorem Rel.atv {B : World} {nt : Nat} {σ : St} {a : Act} {W : World} (h : Rel B nt σ a W) {x : Operand} {v : Value} (hx : ev σ.env x = some (.v v)) : a.eval x = v := h.at hx
/-- The own blocks are those that were, perhaps with other cells, and perhaps more. -/
def OLe (own own' : Own) : Prop := ∀ (i : Nat) (b : Nat × TypeId × List Value), own[i]? = some b → ∃ b' : Nat × TypeId × List Value, own'[i]? = some b' ∧ b'.1 = b.1
theorem OLe.refl (own : Own) : OLe own own := fun _ b h => ⟨b, h, rfl⟩
theorem Den.le {own own' : Own} (h : OLe own own') {e : EV} {u : Value} (hd : Den own e u) : Den own' e u := by
  cases e with
  | v x => exact hd
  | p i off =>
    obtain ⟨b, hb, rfl⟩ := hd
    obtain ⟨b', hb', he⟩ := h i b hb
    exact ⟨b', hb', by rw [he]⟩

theorem eget_cons_self {env : Env} {d : Nat} {v : EV} : eget ((d, v) :: env) d = some v := by simp [eget]
theorem beq_ne {a b : Nat} (h : a ≠ b) : Nat.beq a b = false := by cases e : Nat.beq a b; rfl; exact absurd (Nat.eq_of_beq_eq_true e) h
theorem eget_cons_ne {env : Env} {d d' : Nat} {v : EV} (h : d' ≠ d) : eget ((d', v) :: env) d = eget env d := by simp only [eget, beq_ne h, cond_false]

/-- A temporary is written; the world is another one that the new state still describes. -/
theorem Rel.put {B : World} {nt : Nat} {env : Env} {own own' : Own} {base base' : World} {a : Act} {W W' : World} (h : Rel B nt ⟨env, own, base⟩ a W) {d : Nat} (hd : d < nt) (e : EV) (v : Value) (hl : OLe own own') (hv : Den own' e v)
    (hm : Mem B ⟨env, own', base'⟩ W') : Rel B nt ⟨(d, e) :: env, own', base'⟩ (a.put (some d) v) W' where
  size := by simp [Act.put, h.size]
  defers := h.defers
  env := by
    intro d' e' hv'
    by_cases c : d = d'
    · subst c
      rw [eget_cons_self] at hv'
      cases hv'
      have hs : d < a.tmps.size := by rw [h.size]; exact hd
      simpa [Act.put, hs] using hv
    · rw [eget_cons_ne c] at hv'
      have := (h.env d' e' hv').le hl
      simp only [Act.put, Array.getD_eq_getD_getElem?] at this ⊢
      rw [Array.getElem?_setIfInBounds_ne c]
      exact this
  mem := ⟨hm.ext, hm.size, hm.old, hm.own, hm.nodup⟩
theorem Rel.keep {B : World} {nt : Nat} {env : Env} {own own' : Own} {base base' : World} {a : Act} {W W' : World} (h : Rel B nt ⟨env, own, base⟩ a W) (hl : OLe own own') (hm : Mem B ⟨env, own', base'⟩ W') : Rel B nt ⟨env, own', base'⟩ a W' :=
  ⟨h.size, h.defers, fun d e he => (h.env d e he).le hl, hm⟩

/-- Less is said of the frame. -/
theorem Rel.less {B : World} {nt : Nat} {σ : St} {a : Act} {W : World} (h : Rel B nt σ a W) {env' : Env} (he : ∀ d v, eget env' d = some v → eget σ.env d = some v) : Rel B nt { σ with env := env' } a W :=
  ⟨h.size, h.defers, fun d v hv => h.env d v (he d v hv), ⟨h.mem.ext, h.mem.size, h.mem.old, h.mem.own, h.mem.nodup⟩⟩

def Exit.calm : Exit → Prop
  | .panic _ | .outgrown => False
  | _ => True
def Lift (B : World) (nt : Nat) (K : Exit → St → Prop) (e : Exit) (a : Act) (W : World) : Prop := Exit.calm e ∧ ∃ σ, K e σ ∧ Rel B nt σ a W

/-- What an operation of a kind may do to the world. 0: nothing. 1: new blocks alone. -/
def kind : Op → Nat
  | .move _ | .assign _ | .pick .. | .load .. | .binOp .. | .unOp .. | .field .. | .fieldAddr .. | .indexAddr .. | .index .. | .extract .. | .build .. | .nilCheck _ | .makeFunc .. => 0
  | .alloc _ | .box .. | .buildSlice .. | .makeMap .. | .makeSlice .. => 1
  | .call c => match c.callee with
    | .value _ => 1
    | .builtin .len | .builtin .cap | .builtin .min | .builtin .max => 0
    | _ => 2
  | _ => 2
def Kept (o : Op) (W W' : World) : Prop := (kind o = 0 → W' = W) ∧ (kind o = 1 → Ext W W')
theorem Kept.same {o : Op} {W : World} : Kept o W W := ⟨fun _ => rfl, fun _ => Ext.refl _⟩

/-! ## the judgements -/
section
variable (C : Ctx) (B : World) (nt : Nat)
def JC (c : Code) (K : Exit → St → Prop) (σ : St) : Prop := ∀ a W, Rel B nt σ a W → c.wp C.P (Lift B nt K) a W
def JL (ops : Array Oper) (K : Exit → St → Prop) (l : List Oper) (σ : St) : Prop := ∀ a W, Rel B nt σ a W → wpList C.P ops (Lift B nt K) l a W
/-- One operation that yields a value and leaves the world as it is, in every world that the state's memory describes. -/
def OV (o : Oper) (e : EV) (σ : St) : Prop := ∀ a W, Rel B nt σ a W → ∃ v, Den σ.own e v ∧ (execOp a.eval o).run C.P W = .ok (.value v) W
/-- One operation: what may change how. 1: new blocks alone. -/
def OX (o : Oper) (N : St → Prop) (σ : St) : Prop :=
  ∀ a W, Rel B nt σ a W → ∀ (nxt : Act → World → Prop) (Q : Exit → Act → World → Prop), (∀ σ' a' W', N σ' → Rel B nt σ' a' W' → Kept o.op W W' → nxt a' W') → o.wp C.P a W nxt Q
end

section rules
variable {C : Ctx} {B : World} {nt : Nat} {K : Exit → St → Prop} {σ : St}

theorem OV.ox {env : Env} {own : Own} {base : World} {o : Oper} {e : EV} {N : St → Prop} {d : Nat} (hd : o.dst = some d) (hlt : d < nt) (h : OV C B nt o e ⟨env, own, base⟩) (hN : N ⟨(d, e) :: env, own, base⟩) : OX C B nt o N ⟨env, own, base⟩ := by
  intro a W hr nxt Q hn
  obtain ⟨v, hv, hrun⟩ := h a W hr
  unfold Oper.wp
  rw [hrun, Oper.upon_value, hd]
  exact hn _ _ _ hN (hr.put hlt e v (OLe.refl _) hv hr.mem) Kept.same

/-! ### code -/
def Kthen (K : Exit → St → Prop) (N : St → Prop) : Exit → St → Prop
  | .normal, σ => N σ
  | e, σ => K e σ
def Kblock (id : Nat) (K : Exit → St → Prop) : Exit → St → Prop
  | .exit id', σ => bif Nat.beq id' id then K .normal σ else K (.exit id') σ
  | e, σ => K e σ

theorem jc_skip (h : K .normal σ) : JC C B nt .skip K σ := fun _ _ hr => wp_skip ⟨trivial, σ, h, hr⟩
theorem jc_exit {id : Nat} (h : K (.exit id) σ) : JC C B nt (.exit id) K σ := fun _ _ hr => wp_exit ⟨trivial, σ, h, hr⟩
theorem jc_ret (h : K .ret σ) : JC C B nt .ret K σ := fun _ _ hr => wp_ret ⟨trivial, σ, h, hr⟩
theorem jc_mono {c : Code} {K' : Exit → St → Prop} (h : JC C B nt c K' σ) (hk : ∀ e σ, K' e σ → K e σ) : JC C B nt c K σ :=
  fun a W hr => wp_mono (h a W hr) fun _ _ _ ⟨hc, s, hs, r⟩ => ⟨hc, s, hk _ _ hs, r⟩
theorem jc_seq {x y : Code} (h : JC C B nt x (Kthen K (JC C B nt y K)) σ) : JC C B nt (.seq x y) K σ :=
  fun a W hr => wp_seq (wp_mono (h a W hr) fun e a' W' ⟨hcalm, s, hs, r⟩ => by
    cases e with
    | normal => exact hs a' W' r
    | _ => exact ⟨hcalm, s, hs, r⟩)
theorem jc_block {id : Nat} {x : Code} (h : JC C B nt x (Kblock id K) σ) : JC C B nt (.block id x) K σ :=
  fun a W hr => wp_block (wp_mono (h a W hr) fun e a' W' ⟨hcalm, s, hs, r⟩ => by
    cases e with
    | exit id' =>
      unfold Exit.inBlock
      by_cases e : id' = id
      · subst e; simp only [Kblock, Nat.beq_refl, cond_true] at hs; simp only [if_true]; exact ⟨trivial, s, hs, r⟩
      · have := beq_ne e
        simp only [Kblock, this, cond_false] at hs; simp only [if_neg e]; exact ⟨trivial, s, hs, r⟩
    | _ => exact ⟨hcalm, s, hs, r⟩)
theorem jc_cond {c : Operand} {x y : Code} {t : Bool} (hc : ev σ.env c = some (.v (.bool t))) (ht : t = true → JC C B nt x K σ) (hf : t = false → JC C B nt y K σ) : JC C B nt (.cond c x y) K σ :=
  fun a W hr => wp_cond_split (hr.atv hc) (fun h => ht h a W hr) (fun h => hf h a W hr)
theorem jc_cond_t {c : Operand} {x y : Code} (hc : ev σ.env c = some (.v (.bool true))) (h : JC C B nt x K σ) : JC C B nt (.cond c x y) K σ :=
  fun a W hr => wp_cond_true (hr.atv hc) (h a W hr)
theorem jc_cond_f {c : Operand} {x y : Code} (hc : ev σ.env c = some (.v (.bool false))) (h : JC C B nt y K σ) : JC C B nt (.cond c x y) K σ :=
  fun a W hr => wp_cond_false (hr.atv hc) (h a W hr)

/-- n rounds of a loop at most. -/
def JR (C : Ctx) (B : World) (nt : Nat) (c : Code) (K : Exit → St → Prop) : Nat → St → Prop
  | 0, _ => False
  | n + 1, σ => JC C B nt c (Kthen K (JR C B nt c K n)) σ
theorem jr_step {c : Code} {n : Nat} (h : JC C B nt c (Kthen K (JR C B nt c K n)) σ) : JR C B nt c K (n + 1) σ := h

theorem jc_loop {c : Code} (I : St → Prop) (μ : St → Nat) (h₀ : I σ) (round : ∀ σ, I σ → JC C B nt c (Kthen K fun σ' => I σ' ∧ μ σ' < μ σ) σ) : JC C B nt (.loop c) K σ := by
  intro a W hr b k cs
  have key : ∀ n σ a W, μ σ = n → I σ → Rel B nt σ a W →
      ∃ e a' w', Lift B nt K e a' w' ∧ Arrives C.P (lone (b.at a (.code c :: .inLoop c :: k)) cs W) b k cs e a' w' := by
    intro n
    induction n using Nat.strongRecOn with
    | _ n ih =>
      intro σ a W hn hI hr
      obtain ⟨e, a₁, w₁, ⟨hcalm, s, hs, hr1⟩, harr⟩ := round σ hI a W hr b (.inLoop c :: k) cs
      cases e with
      | normal =>
        obtain ⟨hI₁, hlt⟩ := hs
        obtain ⟨e₂, a₂, w₂, hq₂, harr₂⟩ := ih (μ s) (hn ▸ hlt) s a₁ w₁ rfl hI₁ hr1
        exact ⟨e₂, a₂, w₂, hq₂, .of_steps (Steps.trans harr (.one step_inLoop)) harr₂⟩
      | exit id => exact ⟨_, a₁, w₁, ⟨hcalm, s, hs, hr1⟩, .pass (x := .inLoop c) rfl (fun _ _ => .inl (by simp)) harr⟩
      | goto l => exact ⟨_, a₁, w₁, ⟨hcalm, s, hs, hr1⟩, .pass (x := .inLoop c) rfl (fun _ _ => .inl (by simp)) harr⟩
      | ret => exact ⟨_, a₁, w₁, ⟨hcalm, s, hs, hr1⟩, .pass (x := .inLoop c) rfl (fun _ _ => .inl (by simp)) harr⟩
      | panic ch => exact ⟨_, a₁, w₁, ⟨hcalm, s, hs, hr1⟩, .pass (x := .inLoop c) rfl (fun _ _ => .inl (by simp)) harr⟩
      | outgrown => exact ⟨_, a₁, w₁, ⟨hcalm, s, hs, hr1⟩, .pass (x := .inLoop c) rfl (fun _ _ => .inl (by simp)) harr⟩
  obtain ⟨e, a', w', hq, harr⟩ := key _ σ a W rfl h₀ hr
  exact ⟨e, a', w', hq, .of_steps (.one step_loop) harr⟩

theorem jc_rounds {c : Code} (n : Nat) (h : JR C B nt c K n σ) : JC C B nt (.loop c) K σ := by
  intro a W hr b k cs
  have key : ∀ n σ a W, JR C B nt c K n σ → Rel B nt σ a W →
      ∃ e a' w', Lift B nt K e a' w' ∧ Arrives C.P (lone (b.at a (.code c :: .inLoop c :: k)) cs W) b k cs e a' w' := by
    intro n
    induction n with
    | zero => intro _ _ _ h; exact h.elim
    | succ n ih =>
      intro σ a W h hr
      obtain ⟨e, a₁, w₁, ⟨hcalm, s, hs, hr1⟩, harr⟩ := h a W hr b (.inLoop c :: k) cs
      cases e with
      | normal =>
        obtain ⟨e₂, a₂, w₂, hq₂, harr₂⟩ := ih s a₁ w₁ hs hr1
        exact ⟨e₂, a₂, w₂, hq₂, .of_steps (Steps.trans harr (.one step_inLoop)) harr₂⟩
      | exit id => exact ⟨_, a₁, w₁, ⟨hcalm, s, hs, hr1⟩, .pass (x := .inLoop c) rfl (fun _ _ => .inl (by simp)) harr⟩
      | goto l => exact ⟨_, a₁, w₁, ⟨hcalm, s, hs, hr1⟩, .pass (x := .inLoop c) rfl (fun _ _ => .inl (by simp)) harr⟩
      | ret => exact ⟨_, a₁, w₁, ⟨hcalm, s, hs, hr1⟩, .pass (x := .inLoop c) rfl (fun _ _ => .inl (by simp)) harr⟩
      | panic ch => exact ⟨_, a₁, w₁, ⟨hcalm, s, hs, hr1⟩, .pass (x := .inLoop c) rfl (fun _ _ => .inl (by simp)) harr⟩
      | outgrown => exact ⟨_, a₁, w₁, ⟨hcalm, s, hs, hr1⟩, .pass (x := .inLoop c) rfl (fun _ _ => .inl (by simp)) harr⟩
  obtain ⟨e, a', w', hq, harr⟩ := key n σ a W h hr
  exact ⟨e, a', w', hq, .of_steps (.one step_loop) harr⟩

/-- Less is said of the frame: the slots that are named. -/
def pickEnv (env : Env) : List Nat → Env
  | [] => []
  | d :: ds => match eget env d with
    | some v => (d, v) :: pickEnv env ds
    | none => pickEnv env ds
theorem eget_pickEnv {env : Env} : ∀ {ds : List Nat} {d : Nat} {v : EV}, eget (pickEnv env ds) d = some v → eget env d = some v
  | [], _, _, h => by simp [pickEnv, eget] at h
  | c :: ds, d, v, h => by
    unfold pickEnv at h
    split at h
    · rename_i u hu
      by_cases e : c = d
      · subst e; rw [eget_cons_self] at h; cases h; exact hu
      · rw [eget_cons_ne e] at h; exact eget_pickEnv h
    · exact eget_pickEnv h
theorem jc_less {c : Code} (env' : Env) (he : ∀ d v, eget env' d = some v → eget σ.env d = some v) (h : JC C B nt c K { σ with env := env' }) : JC C B nt c K σ :=
  fun a W hr => h a W (hr.less he)

/-! ### regions -/
theorem jl_nil {ops : Array Oper} (h : K .normal σ) : JL C B nt ops K [] σ := fun _ _ hr => ⟨trivial, σ, h, hr⟩
theorem jc_region {id : Nat} {l : List Oper} (h : JL C B nt l.toArray K l σ) : JC C B nt (.region id l.toArray false) K σ := fun a W hr => wp_region_lit (h a W hr)
/-! ### a call's end -/
theorem calls_of_jc {f : FuncId} {fn : Func} {c : Code} {args : Array Value} {R : Ending → World → Prop} (hf : C.P.funcs[f]? = some fn) (hb : fn.body = some c)
    (env : Env) (henv : ∀ d e, eget env d = some e → Den [] e ((args ++ Array.replicate (fn.ntmps - args.size) undef).getD d undef)) (hsz : args.size ≤ fn.ntmps)
    (h : JC C B fn.ntmps c (fun e σ => (e = .normal ∨ e = .ret) ∧ ∀ a W, Rel B fn.ntmps σ a W → ∃ v, (results fn a.tmps).run C.P W = .ok v W ∧ R (.returned v) W) ⟨env, [], B⟩) : Calls C.P f args B R := by
  refine calls_of_wp hf hb (wp_mono (h _ _ ⟨?_, rfl, henv, ⟨Ext.refl _, Nat.le_refl _, fun _ _ _ => rfl, fun _ h => absurd h (by simp), by simp⟩⟩) ?_)
  · simp; omega
  · rintro e a W ⟨_, σ, ⟨he, hk⟩, hr⟩
    rcases he with rfl | rfl
    · exact ⟨hr.defers, hk a W hr⟩
    · exact ⟨hr.defers, hk a W hr⟩
end rules
end Go.Proofs.Ytjnihfmmmadlhaa
