/- Calls that lean on whatever the memory at hand says; regions told anew; pointers as values; strings. -/
import Derived.Test.YtpfjolckhlgodaaDoorSd
import Derived.Test.YtpfjolckhlgodaaDoorWs
import Derived.Test.YtpfjolckhlgodaaDoorWv
import Derived.Laws.Strings
namespace Go.Proofs.YtpfjolckhlgodaaDoor
open Go Go.RowKit
set_option linter.unusedSimpArgs false
set_option linter.unusedVariables false
/-- What is said of these blocks does not hang on others. -/
def Loc (f : Nat → Prop) (inv : World → Prop) : Prop := ∀ W W' : World, (∀ b, f b → W'.heap[b]? = W.heap[b]?) → inv W → inv W'
def LocO : OB → Prop
  | .ro _ _ => False
  | .abs f inv => Loc f inv
  | _ => True
def LocL : Own → Prop
  | [] => True
  | o :: r => LocO o ∧ LocL r
theorem LocL.all : ∀ {l : Own}, LocL l → ∀ o ∈ l, LocO o
  | [], _, o, ho => absurd ho (by simp)
  | q :: r, h, o, ho => by
    rcases List.mem_cons.1 ho with rfl | ho
    · exact h.1
    · exact LocL.all h.2 o ho
section rules
variable {C : Ctx} {B : Bas} {nt : Nat} {ρ : Option Nat} {env : Env} {own : Own} {dfs : List Deferred} {K : Exit → St → Prop}
theorem Reg.liftL {W W' : World} (hm : Mem B own W) {o : OB} (h : Reg (Bas.of W) W' o) (hn : LocO o) : Reg B W' o := by
  cases o with
  | abs f inv => exact ⟨fun b hb => ⟨.inl (Nat.le_trans hm.ext.size ((h.1 b hb).1.resolve_right fun x => x)), (h.1 b hb).2⟩, h.2.1, fun W2 _ _ hb => hn _ _ hb h.2.1⟩
  | ro a xs => exact hn.elim
  | blk _ _ _ => exact Reg.lift hm h rfl
  | row _ _ _ _ => exact Reg.lift hm h rfl
  | obj _ _ => exact Reg.lift hm h rfl
  | frz _ _ => exact Reg.lift hm h rfl
  | dead _ => exact Reg.lift hm h rfl
theorem Mem.joinL {news : Own} {W W' : World} (hm : Mem B own W) (h : Mem (Bas.of W) news W') (hn : LocL news) : Mem B (own ++ news) W' :=
  have hx := h.ext.to
  hm.app (hm.ext.ext hx) hx.below.size hx.below.block (fun o ho => (h.reg o ho).liftL hm (hn.all o ho)) h.disj fun o ho b hb => ((h.reg o ho).fresh hb).resolve_right fun x => x
/-- A call with plain arguments that gives v and turns nothing; by what the memory at hand says. -/
theorem ox_pvm {zs : List Nat} {N : St → Prop} {d : Nat} {ty : TypeId} {pos : String} {af : Array Edge} {g : Option (Nat × Bool)} (f : Nat) {fo : Operand} {first cap : List Value} {xs : List Operand} {vs : List Value} {at_ : Array TypeId} {v : Value} {us : List Value} (hc : ∀ W, Mem B own W → Calls C.P f us.toArray W (PV W v)) (hf : ev env fo = some (.v (.func (.func f) ⟨first⟩ ⟨cap⟩))) (hxs : argsV env own xs = some vs) (hus : appL first (appL vs cap) = us) (hd : Nat.blt d nt = true) (he : Enters C.P f)
    (hN : N ⟨(d, .v v) :: env, own, dfs⟩) : OX C B nt zs ⟨some d, .call ⟨.value fo, ⟨xs⟩, at_⟩, ty, pos, af, g⟩ N ⟨env, own, dfs⟩ := by
  intro a W Z hr hz nxt Q hn
  unfold Oper.wp
  rw [run_call hr hf he rfl _ rfl, Oper.upon_enter, argsV_eval hr hxs]
  have hcall := hc W hr.mem
  rw [← hus, appL_eq, appL_eq] at hcall
  rw [show (⟨first⟩ : Array Value) ++ vs.toArray ++ ⟨cap⟩ = (first ++ (vs ++ cap)).toArray by simp]
  refine hcall.mono ?_
  rintro e W' ⟨rfl, hx⟩
  exact hn _ _ _ hN (hr.put (by simpa using hd) _ _ (OLe.refl _) rfl (hr.mem.ext' hx)) hz (Kept.ext (by simp [kind]) hx)
/-- The same, of a call that makes memory. -/
theorem ox_gm {zs : List Nat} {ι : Type} {φ : ι → Prop} {G : ι → Value} {O : ι → Own} {N : St → Prop} {d : Nat} {ty : TypeId} {pos : String} {af : Array Edge} {g : Option (Nat × Bool)} (f : Nat) {first cap : List Value} {fo : Operand} {xs : List Operand} {vs us : List Value} {at_ : Array TypeId} (he : Enters C.P f)
    (hc : ∀ W, Mem B own W → Calls C.P f us.toArray W (PG φ G O W)) (hf : ev env fo = some (.v (.func (.func f) ⟨first⟩ ⟨cap⟩))) (hxs : argsV env own xs = some vs) (hus : appL first (appL vs cap) = us) (hd : Nat.blt d nt = true) (ho : ∀ x, LocL (O x))
    {own' : ι → Own} (hw : ∀ x, forceK (appL own (O x)) some = some (own' x)) (hN : ∀ x, φ x → N ⟨(d, .v (G x)) :: env, own' x, dfs⟩) : OX C B nt zs ⟨some d, .call ⟨.value fo, ⟨xs⟩, at_⟩, ty, pos, af, g⟩ N ⟨env, own, dfs⟩ := by
  intro a W Z hr hz nxt Q hn
  unfold Oper.wp
  rw [run_call hr hf he rfl _ rfl, Oper.upon_enter, argsV_eval hr hxs]
  have hcall := hc W hr.mem
  rw [← hus, appL_eq, appL_eq] at hcall
  rw [show (⟨first⟩ : Array Value) ++ vs.toArray ++ ⟨cap⟩ = (first ++ (vs ++ cap)).toArray by simp]
  refine hcall.mono ?_
  rintro e W' ⟨x, hx, rfl, hm⟩
  have hNx := hN x hx
  have hww := hw x
  rw [forceK_eq, appL_eq] at hww
  rw [← Option.some.inj hww] at hNx
  exact hn _ _ _ hNx (hr.put (by simpa using hd) _ _ (OLe.app _ _) rfl (hr.mem.joinL hm (ho x))) hz.app (Kept.ext (by simp [kind]) hm.ext.to)
/-- A row comes back. -/
theorem ox_sm {zs : List Nat} {T k n : Nat} {ys : List Value} {N : St → Prop} {d : Nat} {ty : TypeId} {pos : String} {af : Array Edge} {g : Option (Nat × Bool)} (f : Nat) {first cap : List Value} {fo : Operand} {xs : List Operand} {vs us : List Value} {at_ : Array TypeId} (he : Enters C.P f)
    (hc : ∀ W, Mem B own W → Calls C.P f us.toArray W (PS T k n ys W)) (hf : ev env fo = some (.v (.func (.func f) ⟨first⟩ ⟨cap⟩))) (hxs : argsV env own xs = some vs) (hus : appL first (appL vs cap) = us) (hd : Nat.blt d nt = true)
    {ℓ : Nat} (hℓ : idxL own = some ℓ) {own' : Nat → Option Addr → Own} (hw : ∀ c a, forceK (snoc own (.row a T (c * k) ys)) some = some (own' c a)) (hN : ∀ c, n ≤ c → ∀ a, N ⟨(d, .s ℓ 0 n c) :: env, own' c a, dfs⟩) : OX C B nt zs ⟨some d, .call ⟨.value fo, ⟨xs⟩, at_⟩, ty, pos, af, g⟩ N ⟨env, own, dfs⟩ := by
  intro a W Z hr hz nxt Q hn
  unfold Oper.wp
  rw [run_call hr hf he rfl _ rfl, Oper.upon_enter, argsV_eval hr hxs]
  have hcall := hc W hr.mem
  rw [← hus, appL_eq, appL_eq] at hcall
  rw [show (⟨first⟩ : Array Value) ++ vs.toArray ++ ⟨cap⟩ = (first ++ (vs ++ cap)).toArray by simp]
  have hℓ := idxL_eq hℓ
  subst hℓ
  refine hcall.mono ?_
  rintro e W' ⟨ad, c, hc, hk0, rfl, hm⟩
  have hNx := hN c hc ad
  have hww := hw c ad
  rw [forceK_eq, snoc_eq] at hww
  rw [← Option.some.inj hww] at hNx
  refine hn _ _ _ hNx (hr.put (by simpa using hd) _ _ (OLe.app _ _) ⟨.row ad T (c * k) ys, ad, by simp, rfl, fun h0 => ?_⟩ (hr.mem.join hm (by simp [notRo]))) hz.app (Kept.ext (by simp [kind]) hm.ext.to)
  obtain ⟨b, cs, hb, _⟩ := (hm.reg _ (List.mem_singleton.2 rfl)).2 (Nat.mul_ne_zero h0 (by omega))
  exact ⟨b, 0, hb, hb⟩
/-! ### regions told anew -/
/-- A region of no blocks is told as well. -/
theorem wk_push {o : OB} (hr : ∀ W, Mem B own W → Reg B W o) (hf : ∀ b, ¬ o.fp b) {own' : Own} (hw : snoc own o = own') : Wk B nt ⟨env, own, dfs⟩ ⟨env, own', dfs⟩ := fun a W h => by
  rw [← hw, snoc_eq]
  exact h.keep (OLe.app _ _) (h.mem.push h.mem.ext (Nat.le_refl _) (fun _ _ => rfl) (hr W h.mem) fun b hb => absurd hb (hf b))
/-- What was there when the call began, and was not handed over. -/
theorem ro_base {w : World} {a : Option Addr} {ys : List Value} (h : RdS w a ys) (W : World) : Reg (Bas.of w) W (.ro a ys) := fun j v hv => by
  obtain ⟨b, lo, h1, h2⟩ := h j v hv
  exact ⟨b, lo, h1, lt_of_cell h2, fun x => x, h2⟩
theorem abs_none (B : Bas) (W : World) {inv : World → Prop} (h : ∀ W, inv W) : Reg B W (.abs (fun _ => False) inv) := ⟨fun _ hb => hb.elim, h W, fun W' _ _ _ => h W'⟩
/-- A row goes into a region of many. -/
theorem wk_absorb (i j : Nat) {f : Nat → Prop} {inv : World → Prop} {a : Option Addr} {T m : Nat} {xs : List Value} (f' : Nat → Prop) (inv' : World → Prop) (hi : nth own i = some (.abs f inv)) (hj : nth own j = some (.row a T m xs)) (hij : Nat.beq i j = false)
    (hf : ∀ b, f' b → f b ∨ (OB.row a T m xs).fp b) (hinv : ∀ W, inv W → Reg B W (.row a T m xs) → inv' W) (hloc : Loc f' inv') {own' : Own} (hw : (own.set j (.dead a)).set i (.abs f' inv') = own') : Wk B nt ⟨env, own, dfs⟩ ⟨env, own', dfs⟩ := fun r W h => by
  rw [nth_eq] at hi hj
  have hne : i ≠ j := fun e => by subst e; simp at hij
  have hil := (List.getElem?_eq_some_iff.1 hi).1
  have hjl := (List.getElem?_eq_some_iff.1 hj).1
  have hi' : (own.set j (.dead a))[i]? = some (.abs f inv) := by rw [List.getElem?_set_ne (Ne.symm hne)]; exact hi
  have hri := h.mem.at hi
  have hrj := h.mem.at hj
  rw [← hw]
  refine h.keep ((OLe.set (o' := .dead a) hj rfl).trans (OLe.set (o' := .abs f' inv') hi' rfl)) ⟨h.mem.ext, fun q hq => ?_, pairwise_of fun x y q q' hx hy hxy => ?_⟩
  · obtain ⟨k, hk⟩ := List.getElem?_of_mem hq
    by_cases e : i = k
    · subst e
      rw [List.getElem?_set_self (by simpa using hil)] at hk; cases hk
      refine ⟨fun b hb => ?_, hinv W hri.2.1 hrj, fun W' _ _ hb => hloc W W' hb (hinv W hri.2.1 hrj)⟩
      rcases hf b hb with h1 | h1
      · exact hri.1 b h1
      · exact ⟨hrj.fresh h1, hrj.lt h1⟩
    · rw [List.getElem?_set_ne e] at hk
      by_cases e' : j = k
      · subst e'
        rw [List.getElem?_set_self hjl] at hk; cases hk
        trivial
      · rw [List.getElem?_set_ne e'] at hk
        exact h.mem.at hk
  · have key : ∀ (k : Nat) (q : OB), ((own.set j (.dead a)).set i (.abs f' inv'))[k]? = some q → ∀ b, q.fp b → ∃ k' q', own[k']? = some q' ∧ q'.fp b ∧ (k' = k ∨ (k' = j ∧ k = i)) := fun k q hk b hb => by
      by_cases e : i = k
      · subst e
        rw [List.getElem?_set_self (by simpa using hil)] at hk; cases hk
        rcases hf b hb with h1 | h1
        · exact ⟨i, _, hi, h1, .inl rfl⟩
        · exact ⟨j, _, hj, h1, .inr ⟨rfl, rfl⟩⟩
      · rw [List.getElem?_set_ne e] at hk
        by_cases e' : j = k
        · subst e'
          rw [List.getElem?_set_self hjl] at hk; cases hk
          exact hb.elim
        · rw [List.getElem?_set_ne e'] at hk
          exact ⟨k, q, hk, hb, .inl rfl⟩
    intro b hb hb'
    obtain ⟨k1, q1, h1, h1b, h1e⟩ := key x q hx b hb
    obtain ⟨k2, q2, h2, h2b, h2e⟩ := key y q' hy b hb'
    have hjd : ∀ (k : Nat) (q : OB), k = j → ((own.set j (.dead a)).set i (.abs f' inv'))[k]? = some q → ∀ b, ¬ q.fp b := fun k q e hk b hb => by
      subst e
      rw [List.getElem?_set_ne hne, List.getElem?_set_self hjl] at hk; cases hk
      exact hb
    have hkk : k1 ≠ k2 := fun e => by
      rcases h1e with h1e | ⟨h1e, h1f⟩ <;> rcases h2e with h2e | ⟨h2e, h2f⟩
      · exact hxy (h1e.symm.trans (e.trans h2e))
      · exact hjd x q (h1e.symm.trans (e.trans h2e)) hx b hb
      · exact hjd y q' (h2e.symm.trans (e.symm.trans h1e)) hy b hb'
      · exact hxy (h1f.trans h2f.symm)
    exact h.mem.apart h1 h2 hkk b h1b h2b
/-! ### pointers as values -/
theorem rel_unptr {a : Act} {W : World} {d i n off T : Nat} {cs : List Value} (hr : Rel B nt ⟨env, own, dfs⟩ a W) (hd : eget env d = some (.v (.pointer (some ⟨n, off, none⟩)))) (hi : nth own i = some (.blk n T cs)) : Rel B nt ⟨(d, .p i off) :: env, own, dfs⟩ a W := by
  refine ⟨hr.size, hr.defers, fun d' e he => ?_, hr.mem⟩
  by_cases h : d = d'
  · subst h
    rw [eget_cons_self] at he; cases he
    rw [nth_eq] at hi
    exact ⟨_, n, 0, hi, rfl, by rw [Nat.zero_add]; exact hr.env d _ hd⟩
  · rw [eget_cons_ne h] at he
    exact hr.env d' e he
theorem jl_unptr {ops : Array Oper} {l : List Oper} (d i : Nat) {n off T : Nat} {cs : List Value} (hd : eget env d = some (.v (.pointer (some ⟨n, off, none⟩)))) (hi : nth own i = some (.blk n T cs)) (h : JL C B nt ρ ops K l ⟨(d, .p i off) :: env, own, dfs⟩) : JL C B nt ρ ops K l ⟨env, own, dfs⟩ :=
  fun a W hr => h a W (rel_unptr hr hd hi)
theorem ov_nilck {dst : Option Tmp} {x : Operand} {ty : TypeId} {pos : String} {af : Array Edge} {g : Option (Nat × Bool)} {ad : Addr} (hx : ev env x = some (.v (.pointer (some ad)))) : OV C B nt ⟨dst, .nilCheck x, ty, pos, af, g⟩ (.v (.pointer (some ad))) ⟨env, own, dfs⟩ := by
  intro a W hr
  refine ⟨_, rfl, fun w _ => ?_⟩
  unfold execOp
  simp only [hr.atv hx]
  rfl
theorem ov_nilckp {dst : Option Tmp} {x : Operand} {ty : TypeId} {pos : String} {af : Array Edge} {g : Option (Nat × Bool)} {i off : Nat} (hx : ev env x = some (.p i off)) : OV C B nt ⟨dst, .nilCheck x, ty, pos, af, g⟩ (.p i off) ⟨env, own, dfs⟩ := by
  intro a W hr
  obtain ⟨o, b, lo, h1, h2, h3⟩ : Den own (.p i off) (a.eval x) := hr.at hx
  refine ⟨a.eval x, ⟨o, b, lo, h1, h2, h3⟩, fun w _ => ?_⟩
  unfold execOp
  simp only [h3]
  rfl
theorem ov_fldv {dst : Option Tmp} {T : TypeId} {x : Operand} {f : Nat} {ty : TypeId} {pos : String} {af : Array Edge} {g : Option (Nat × Bool)} {n o off : Nat} {t : Ty} (hx : ev env x = some (.v (.pointer (some ⟨n, o, none⟩)))) (ht : C.ent T = some t) (hf : nth t.flds f = some off) : OV C B nt ⟨dst, .fieldAddr T x f, ty, pos, af, g⟩ (.v (.pointer (some ⟨n, o + off, none⟩))) ⟨env, own, dfs⟩ := by
  intro a W hr
  refine ⟨_, rfl, fun w _ => ?_⟩
  have hrun := (C.ok T t ht).f f off (by rw [← nth_eq]; exact hf) n o w
  unfold execOp
  simp only [hr.atv hx, Sem.run_bind]
  rw [hrun]
  rfl
/-! ### strings -/
theorem strB_eq (u v : List UInt8) : strB ⟨u.toArray⟩ ⟨v.toArray⟩ = decide (u = v) := by
  unfold strB
  rw [Bool.eq_iff_iff, decide_eq_true_eq, beq_iff_eq]
  simp [Go.ByteArray.toList_eq]
/-- The bounds of a part, told by their values. -/
def IsLo (env : Env) (d : Nat) : Option Operand → Nat → Prop
  | none, n => n = d
  | some x, n => ∃ k z, ev env x = some (.v (.int k z)) ∧ z = (n : Int)
theorem IsLo.isB {d n : Nat} {x : Option Operand} {a : Act} {W : World} (h : IsLo env d x n) (hr : Rel B nt ⟨env, own, dfs⟩ a W) : IsB (x.map a.eval) d n := by
  cases x with
  | none => exact .inl ⟨rfl, h⟩
  | some x =>
    obtain ⟨k, z, h1, rfl⟩ := h
    exact .inr ⟨k, by rw [Option.map_some, hr.atv h1]⟩
/-- Equality of texts. -/
theorem ov_streq {dst : Option Tmp} {T T' : TypeId} {x y : Operand} {ty : TypeId} {pos : String} {af : Array Edge} {g : Option (Nat × Bool)} (u v : List UInt8) (hx : ev env x = some (.v (strV u))) (hy : ev env y = some (.v (strV v))) :
    OV C B nt ⟨dst, .binOp .eql T x y T', ty, pos, af, g⟩ (.v (.bool (decide (u = v)))) ⟨env, own, dfs⟩ := by
  rw [← strB_eq]
  exact pure_ov (by simp only [pureV, hx, hy, binV, strV])
theorem ov_strne {dst : Option Tmp} {T T' : TypeId} {x y : Operand} {ty : TypeId} {pos : String} {af : Array Edge} {g : Option (Nat × Bool)} (u v : List UInt8) (hx : ev env x = some (.v (strV u))) (hy : ev env y = some (.v (strV v))) :
    OV C B nt ⟨dst, .binOp .neq T x y T', ty, pos, af, g⟩ (.v (.bool (!(decide (u = v))))) ⟨env, own, dfs⟩ := by
  rw [← strB_eq]
  exact pure_ov (by simp only [pureV, hx, hy, binV, strV])
theorem ov_strlen {dst : Option Tmp} {T : TypeId} {x : Operand} {ty : TypeId} {pos : String} {af : Array Edge} {g : Option (Nat × Bool)} (u : List UInt8) {t : Ty} (hx : ev env x = some (.v (strV u))) (ht : C.ent T = some t) (hs : Nat.beq t.tag 2 = true) :
    OV C B nt ⟨dst, .call ⟨.builtin .len, ⟨[x]⟩, ⟨[T]⟩⟩, ty, pos, af, g⟩ (.v (.int .i64 (u.length : Int))) ⟨env, own, dfs⟩ := by
  have e : ((ByteArray.mk u.toArray).size : Int) = u.length := by show ((u.toArray.size : Nat) : Int) = _; simp
  rw [← e]
  exact pure_ov (by simp only [pureV, evs, hx, builtinV, strV, ht, hs, cond_true])
theorem underlying_str {T : TypeId} {t : Ty} (ht : C.ent T = some t) (hs : Nat.beq t.tag 2 = true) : C.P.underlying T = some .string := (C.ok T t ht).r (by simpa using hs)
/-- A byte of a text. -/
theorem ov_stridx {dst : Option Tmp} {T : TypeId} {x y : Operand} {ty : TypeId} {pos : String} {af : Array Edge} {g : Option (Nat × Bool)} (u : List UInt8) (m : Nat) {t : Ty} {k : IntKind} {z : Int} (hx : ev env x = some (.v (strV u))) (hy : ev env y = some (.v (.int k z))) (hz : z = (m : Int)) (ht : C.ent T = some t) (hs : Nat.beq t.tag 2 = true) (hm : m < u.length) :
    OV C B nt ⟨dst, .index T x y, ty, pos, af, g⟩ (.v (.int .u8 ((u.getD m 0).toNat : Int))) ⟨env, own, dfs⟩ := by
  intro a W hr
  refine ⟨_, rfl, fun w hw => ?_⟩
  subst hz
  have hu := underlying_str ht hs
  have hg : (ByteArray.mk u.toArray)[m]? = some (u.getD m 0) := by
    have hsz : m < (ByteArray.mk u.toArray).size := by show m < u.toArray.size; simpa using hm
    rw [ByteArray.getElem?_lt' _ _ hsz]
    congr 1
    show u.toArray[m] = _
    simp [List.getD_eq_getElem?_getD, hm]
  have hrun : (Instr.index T (a.eval x) (a.eval y)).run C.P w = .ok (.int .u8 ((u.getD m 0).toNat : Int)) w := by
    rw [show a.eval x = strV u from hr.at hx, show a.eval y = .int k (m : Int) from hr.at hy]
    unfold Instr.index
    simp only [asIntOf, Sem.run_bind, Sem.run_pure, run_underlying hu, strV, Result.andThen_ok]
    rw [if_pos (by omega)]
    simp only [Int.toNat_natCast, hg]
    rfl
  unfold execOp
  simp only [Sem.run_bind]
  rw [hrun]
  rfl
/-- A part of a text. -/
theorem ov_strsl {dst : Option Tmp} {T : TypeId} {x : Operand} {lo hi : Option Operand} {ty : TypeId} {pos : String} {af : Array Edge} {g : Option (Nat × Bool)} (u : List UInt8) (l h : Nat) {t : Ty} (hx : ev env x = some (.v (strV u))) (hl : IsLo env 0 lo l) (hh : IsLo env u.length hi h) (ht : C.ent T = some t) (hs : Nat.beq t.tag 2 = true) (h1 : l ≤ h) (h2 : h ≤ u.length) :
    OV C B nt ⟨dst, .slice T x lo hi none, ty, pos, af, g⟩ (.v (strV ((u.take h).drop l))) ⟨env, own, dfs⟩ := by
  intro a W hr
  refine ⟨_, rfl, fun w hw => ?_⟩
  have hu := underlying_str ht hs
  have hsz : (ByteArray.mk u.toArray).size = u.length := by show u.toArray.size = _; simp
  have hext : (ByteArray.mk u.toArray).extract l h = ByteArray.mk ((u.take h).drop l).toArray := by
    apply ByteArray.ext
    apply Array.toList_inj.1
    simp [ByteArray.data_extract, List.drop_take]
  have hrun : (Instr.sliceAt T (a.eval x) (lo.map a.eval) (hi.map a.eval) none).run C.P w = .ok (strV ((u.take h).drop l)) w := by
    rw [show a.eval x = strV u from hr.at hx]
    have hb := bounds_run (P := C.P) (s := false) (len := u.length) (cap := u.length) (hl.isB hr) (hh.isB hr) (.inl ⟨rfl, rfl⟩ : IsB none u.length u.length) h1 h2 (Nat.le_refl _) (by simp) w
    unfold Instr.sliceAt Instr.slice
    simp only [Sem.run_bind, run_underlying hu, strV, Result.andThen_ok, hsz, hb, Option.isSome_none, Sem.run_pure, Bool.false_eq_true, if_false]
    rw [hext]
  unfold execOp
  simp only [Sem.run_bind, Option.map_none]
  rw [hrun]
  rfl
theorem run_getObj_si {P : Program} {w : World} {l p : Nat} {s : ByteArray} (h : w.heap[l]? = some (.stringIter s p)) : (getObj l).run P w = .ok (.stringIter s p) w := by simp [getObj, Sem.run, h]
theorem run_setObj_si {P : Program} {w : World} {l p : Nat} {s : ByteArray} (o : Obj) (h : w.heap[l]? = some (.stringIter s p)) : (setObj l o).run P w = .ok () (w.putObj l o) := by simp [setObj, Sem.run, h, World.putObj]
/-- range over a text. -/
theorem jl_range {ops : Array Oper} {l : List Oper} {d : Nat} {T : TypeId} {x : Operand} {ty : TypeId} {pos : String} {af : Array Edge} {g : Option (Nat × Bool)} (u : List UInt8) {t : Ty} (hg : gst ops env g = some true) (hx : ev env x = some (.v (strV u))) (ht : C.ent T = some t) (hs : Nat.beq t.tag 2 = true) (hd : Nat.blt d nt = true) {own' : Nat → Own} (hw : ∀ n, forceK (snoc own (.obj n (.stringIter ⟨u.toArray⟩ 0))) some = some (own' n))
    (h : ∀ n, JL C B nt ρ ops K l ⟨(d, .v (.pointer (some ⟨n, 0, none⟩))) :: env, own' n, dfs⟩) : JL C B nt ρ ops K (⟨some d, .range T x, ty, pos, af, g⟩ :: l) ⟨env, own, dfs⟩ := by
  refine jl_x hg rfl ?_
  intro a W Z hr hz nxt Q hn
  have hu := underlying_str ht hs
  have hrun : (execOp a.eval ⟨some d, .range T x, ty, pos, af, g⟩).run C.P W = .ok (.value (.pointer (some ⟨W.heap.size, 0, none⟩))) (W.alloc (.stringIter ⟨u.toArray⟩ 0)) := by
    unfold execOp
    simp only [Sem.run_bind, show a.eval x = strV u from hr.at hx]
    unfold Instr.range
    simp only [Sem.run_bind, run_underlying hu, strV, Result.andThen_ok, Sem.run_pure]
    rfl
  unfold Oper.wp
  rw [hrun]
  have hww := hw W.heap.size
  rw [forceK_eq, snoc_eq] at hww
  have hN := h W.heap.size
  rw [← Option.some.inj hww] at hN
  refine hn _ _ _ hN (hr.push (o := .obj W.heap.size (.stringIter ⟨u.toArray⟩ 0)) (by simpa using hd) ⟨hr.mem.newb, alloc_new W _⟩ (fun b hb => hb) rfl) hz.app ?_
  exact ⟨fun h => absurd h (by simp [kind]), fun h => ⟨h.ext (Ext.alloc W _), by rw [alloc_size]; omega⟩, fun h => absurd h (by simp [kind])⟩
/-- The next letter, or the end. -/
theorem jl_next {ops : Array Oper} {l : List Oper} {d : Nat} {x : Operand} {ty : TypeId} {pos : String} {af : Array Edge} {g : Option (Nat × Bool)} (u : List UInt8) (i p : Nat) {n : Nat} (hg : gst ops env g = some true) (hx : ev env x = some (.v (.pointer (some ⟨n, 0, none⟩)))) (hd : Nat.blt d nt = true) (hi : nth own i = some (.obj n (.stringIter ⟨u.toArray⟩ p))) {own' : Own} (hw : forceK (own.set i (.obj n (.stringIter ⟨u.toArray⟩ (p + (Utf8.decode ⟨u.toArray⟩ p).2)))) some = some own')
    (h1 : p < u.length → JL C B nt ρ ops K l ⟨(d, .v (.tuple #[.bool true, .int .i64 (p : Int), .int .i32 ((Utf8.decode ⟨u.toArray⟩ p).1 : Int)])) :: env, own', dfs⟩) (h2 : u.length ≤ p → JL C B nt ρ ops K l ⟨(d, .v (.tuple #[.bool false])) :: env, own, dfs⟩) : JL C B nt ρ ops K (⟨some d, .next x true, ty, pos, af, g⟩ :: l) ⟨env, own, dfs⟩ := by
  have hsz : (ByteArray.mk u.toArray).size = u.length := by show u.toArray.size = _; simp
  rw [forceK_eq] at hw
  have hw := Option.some.inj hw
  rw [nth_eq] at hi
  by_cases hp : p < u.length
  · refine jl_x hg rfl (fun a W Z hr hz nxt Q hn => ?_)
    have hob := (hr.mem.at hi).2
    have hrun : (execOp a.eval ⟨some d, .next x true, ty, pos, af, g⟩).run C.P W = .ok (.value (.tuple #[.bool true, .int .i64 (p : Int), .int .i32 ((Utf8.decode ⟨u.toArray⟩ p).1 : Int)])) (W.putObj n (.stringIter ⟨u.toArray⟩ (p + (Utf8.decode ⟨u.toArray⟩ p).2))) := by
      unfold execOp
      simp only [Sem.run_bind, show a.eval x = .pointer (some ⟨n, 0, none⟩) from hr.at hx]
      unfold Instr.next
      simp only [Sem.run_bind, run_getObj_si hob, Result.andThen_ok, hsz]
      rw [if_pos hp]
      simp only [Sem.run_bind, run_setObj_si _ hob, Result.andThen_ok, Sem.run_pure]
      rfl
    unfold Oper.wp
    rw [hrun]
    have hm := hr.mem.put (r' := .stringIter ⟨u.toArray⟩ (p + (Utf8.decode ⟨u.toArray⟩ p).2)) hi
    rw [hw] at hm
    have hN := h1 hp
    refine hn _ _ _ hN (hr.put (by simpa using hd) _ _ (by rw [← hw]; exact OLe.set hi rfl) rfl hm) (by rw [← hw]; exact hz.setfp hi (fun b => Iff.rfl)) ⟨fun h => absurd h (by simp [kind]), fun _ => ⟨hm.ext, by simp [World.putObj]⟩, fun h => absurd h (by simp [kind])⟩
  · refine jl_x hg rfl (fun a W Z hr hz nxt Q hn => ?_)
    have hob := (hr.mem.at hi).2
    have hrun : (execOp a.eval ⟨some d, .next x true, ty, pos, af, g⟩).run C.P W = .ok (.value (.tuple #[.bool false])) W := by
      unfold execOp
      simp only [Sem.run_bind, show a.eval x = .pointer (some ⟨n, 0, none⟩) from hr.at hx]
      unfold Instr.next
      simp only [Sem.run_bind, run_getObj_si hob, Result.andThen_ok, hsz]
      rw [if_neg hp]
      rfl
    unfold Oper.wp
    rw [hrun]
    exact hn _ _ _ (h2 (by omega)) (hr.put (by simpa using hd) _ _ (OLe.refl _) rfl hr.mem) hz ⟨fun h => absurd h (by simp [kind]), fun h => ⟨h, Nat.le_refl _⟩, fun h => absurd h (by simp [kind])⟩
end rules
end Go.Proofs.YtpfjolckhlgodaaDoor
