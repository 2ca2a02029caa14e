/- Contracts over memory that is reached through values; what a call gives, by whatever is known of it. -/
import Derived.Test.YtpfjolckhlgodaaDoorWh
namespace Go.Proofs.YtpfjolckhlgodaaDoor
open Go Go.RowKit
/-- Memory that a call leans on: what lies where. -/
abbrev Mems := List (Option Addr × List Value)
def memO : Mems → Own
  | [] => []
  | q :: r => .ro q.1 q.2 :: memO r
def MemR (W : World) : Mems → Prop
  | [] => True
  | q :: r => RdS W q.1 q.2 ∧ MemR W r
def ConM (P : Program) (f : FuncId) (us : List Value) (mem : Mems) (R : World → Ending → World → Prop) : Prop := ∀ W, MemR W mem → Calls P f us.toArray W (R W)
section rules
variable {C : Ctx} {B : Bas} {nt : Nat} {ρ : Option Nat} {env : Env} {own : Own} {dfs : List Deferred} {K : Exit → St → Prop} {σ : St}
theorem memO_mem {W : World} : ∀ {mem : Mems}, MemR W mem → ∀ o ∈ memO mem, Reg (Bas.of W) W o ∧ ∀ b, ¬ o.fp b
  | [], _, o, ho => absurd ho (by simp [memO])
  | q :: r, h, o, ho => by
    rcases List.mem_cons.1 ho with rfl | ho
    · exact ⟨ro_reg h.1, fun _ hf => hf⟩
    · exact memO_mem h.2 o ho
theorem con_m {f : FuncId} {fn : Func} {c : Code} {us : List Value} {mem : Mems} {R : World → Ending → World → Prop} (hf : C.P.funcs[f]? = some fn) (hb : fn.body = some c) (nt : Nat) (hnt : fn.ntmps = nt) (hsz : Nat.ble us.length nt = true)
    (h : ∀ W : World, JC C (Bas.of W) nt none c (Fend C (Bas.of W) nt fn (R W)) ⟨mkEnv 0 (mapV us), memO mem, []⟩) : ConM C.P f us mem R := fun W hW =>
  calls_e (B := Bas.of W) hf hb nt hnt hsz (dens_mapV us) ⟨ExtG.refl _, fun o ho => (memO_mem hW o ho).1, pairwise_of fun i j o o' hi _ _ b hb => absurd hb ((memO_mem hW o (List.mem_of_getElem? hi)).2 b)⟩ (h W)
/-- The regions at hand hold that memory. -/
inductive MOk (own : Own) : Mems → Prop
  | nil : MOk own []
  | cons {a ys r} (i : Nat) {o xs} : nth own i = some o → cont o = some xs → o.key = a → Sub xs 0 ys → MOk own r → MOk own ((a, ys) :: r)
theorem MOk.mem {mem : Mems} (h : MOk own mem) {W : World} (hm : Mem B own W) : MemR W mem := by
  induction h with
  | nil => trivial
  | @cons a ys r i o xs hi hc hk hs _ ih =>
    rw [nth_eq] at hi
    refine ⟨fun j v hj => ?_, ih⟩
    obtain ⟨b, lo, h1, h2⟩ := hm.cell hi hc (hs j v hj)
    rw [Nat.zero_add] at h2
    exact ⟨b, lo, hk ▸ h1, h2⟩
/-- Calls with plain values, by whatever is known of them. -/
theorem ox_g {zs : List Nat} {ι : Type} {φ : ι → Prop} {G : ι → Value} {O : ι → Own} {N : St → Prop} {d : Nat} {ty : TypeId} {pos : String} {af : Array Edge} {g : Option (Nat × Bool)} (f : Nat) {first cap : List Value} {fo : Operand} {xs : List Operand} {vs us : List Value} {at_ : Array TypeId} (he : Enters C.P f)
    {mem : Mems} (hc : ConM C.P f us mem (PG φ G O)) (hmo : MOk own mem) (hf : ev env fo = some (.v (.func (.func f) ⟨first⟩ ⟨cap⟩))) (hxs : argsV env own xs = some vs) (hus : appL first (appL vs cap) = us) (hd : Nat.blt d nt = true) (ho : ∀ x, (O x).all notRo = true)
    {own' : ι → Own} (hw : ∀ x, forceK (appL own (O x)) some = some (own' x)) (hN : ∀ x, φ x → N ⟨(d, .v (G x)) :: env, own' x, dfs⟩) : OX C B nt zs ⟨some d, .call ⟨.value fo, ⟨xs⟩, at_⟩, ty, pos, af, g⟩ N ⟨env, own, dfs⟩ := by
  intro a W Z hr hz nxt Q hn
  unfold Oper.wp
  rw [run_call hr hf he rfl _ rfl, Oper.upon_enter, argsV_eval hr hxs]
  have hcall := hc W (hmo.mem hr.mem)
  rw [← hus, appL_eq, appL_eq] at hcall
  rw [show (⟨first⟩ : Array Value) ++ vs.toArray ++ ⟨cap⟩ = (first ++ (vs ++ cap)).toArray by simp]
  refine hcall.mono ?_
  rintro e W' ⟨x, hx, rfl, hm⟩
  have hNx := hN x hx
  have hww := hw x
  rw [forceK_eq, appL_eq] at hww
  rw [← Option.some.inj hww] at hNx
  have hall : ∀ o ∈ O x, notRo o = true := List.all_eq_true.1 (ho x)
  exact hn _ _ _ hNx (hr.put (by simpa using hd) _ _ (OLe.app _ _) rfl (hr.mem.join hm hall)) hz.app (Kept.ext (by simp [kind]) hm.ext.to)
/-- A row comes back: told as a value. -/
theorem ox_gs {zs : List Nat} {T k n : Nat} {ys : List Value} {N : St → Prop} {d : Nat} {ty : TypeId} {pos : String} {af : Array Edge} {g : Option (Nat × Bool)} (f : Nat) {first cap : List Value} {fo : Operand} {xs : List Operand} {vs us : List Value} {at_ : Array TypeId} (he : Enters C.P f)
    {mem : Mems} (hc : ConM C.P f us mem (PS T k n ys)) (hmo : MOk own mem) (hf : ev env fo = some (.v (.func (.func f) ⟨first⟩ ⟨cap⟩))) (hxs : argsV env own xs = some vs) (hus : appL first (appL vs cap) = us) (hd : Nat.blt d nt = true)
    {own' : Nat → Option Addr → Own} (hw : ∀ c a, forceK (snoc own (.row a T (c * k) ys)) some = some (own' c a)) (hN : ∀ c, n ≤ c → ∀ a, N ⟨(d, .v (.slice a n c)) :: env, own' c a, dfs⟩) : OX C B nt zs ⟨some d, .call ⟨.value fo, ⟨xs⟩, at_⟩, ty, pos, af, g⟩ N ⟨env, own, dfs⟩ := by
  intro a W Z hr hz nxt Q hn
  unfold Oper.wp
  rw [run_call hr hf he rfl _ rfl, Oper.upon_enter, argsV_eval hr hxs]
  have hcall := hc W (hmo.mem hr.mem)
  rw [← hus, appL_eq, appL_eq] at hcall
  rw [show (⟨first⟩ : Array Value) ++ vs.toArray ++ ⟨cap⟩ = (first ++ (vs ++ cap)).toArray by simp]
  refine hcall.mono ?_
  rintro e W' ⟨ad, c, hc, hk0, rfl, hm⟩
  have hNx := hN c hc ad
  have hww := hw c ad
  rw [forceK_eq, snoc_eq] at hww
  rw [← Option.some.inj hww] at hNx
  exact hn _ _ _ hNx (hr.put (by simpa using hd) _ _ (OLe.app _ _) rfl (hr.mem.join hm (by simp [notRo]))) hz.app (Kept.ext (by simp [kind]) hm.ext.to)
/-- The beginning of an iterator's call. -/
theorem seq_e {f : FuncId} {fn : Func} {c : Code} {lb : List Value} {Rd : World → Prop} {xs : List (List Value)} (hf : C.P.funcs[f]? = some fn) (hb : fn.body = some c) (nt : Nat) (hnt : fn.ntmps = nt) (hsz : Nat.ble (lb.length + 1) nt = true)
    (h : ∀ (l : Nat) (J : Nat → World → Prop) (W : World) (fp : Nat → Prop), (∀ k W1, J k W1 → Rd W1) →
      (∀ k x, xs[k]? = some x → ∀ W1, J k W1 → YieldAt (Fw none) 0 C.P l x.toArray W1 fun e W2 => e = .returned (.bool true) ∧ J (k + 1) W2 ∧ ExtG (gAll W1) W2) →
      (∀ k W1 W2, J k W1 → ExtG (gAll (gAll W).w) W2 → W1.heap.size ≤ W2.heap.size → (∀ b, b < W1.heap.size → W2.heap[b]? = W1.heap[b]?) → J k W2) →
      JC C (gAll W) nt none c (Fend C (gAll W) nt fn fun e W' => (∃ v, e = .returned v) ∧ J xs.length W' ∧ ExtG (gAll W) W') ⟨mkEnv 0 (mapV ((.func (.yield l) ⟨[]⟩ ⟨[]⟩) :: lb)), [.abs fp (J 0)], []⟩) : SeqC C f lb Rd xs := by
  intro l J W h0 hRd hA hY
  refine calls_e (B := gAll W) hf hb nt hnt (by simpa using hsz) (dens_mapV _) (own := [.abs (fun b => b < W.heap.size) (J 0)]) ⟨ExtG.refl _, fun o ho => ?_, List.pairwise_singleton _ _⟩ (h l J W (fun b => b < W.heap.size) hRd hY hA)
  rw [List.mem_singleton] at ho; subst ho
  exact ⟨fun b hb => ⟨.inr trivial, hb⟩, h0, fun W2 hx hs hb => hA 0 W W2 h0 hx hs hb⟩
theorem fin_seq {w : World} {J : Nat → World → Prop} {k i : Nat} {v : Value} {fp : Nat → Prop} (hi : nth own i = some (.abs fp (J k))) : ∀ W, Mem (gAll w) own W → (∃ u, Ending.returned v = .returned u) ∧ J k W ∧ ExtG (gAll w) W := fun W hm => by
  rw [nth_eq] at hi
  exact ⟨⟨_, rfl⟩, (hm.at hi).2.1, hm.ext⟩
/-- The result is a row of the call's own, told as a value. -/
theorem fin_sv {w : World} {fn : Func} {e : Exit} {r : ResultVar} {i n c T k : Nat} {a : Option Addr} {xs : List Value} (he : e = .normal ∨ e = .ret) (hf : fn.results = #[r]) (h : ResE C (Bas.of w) nt ⟨env, own, []⟩ r (.v (.slice a n c))) (hi : nth own i = some (.row a T (c * k) xs)) (hk : 0 < k) (hn : n ≤ c) :
    FendG C (Bas.of w) nt fn (PS T k n xs w) e ⟨env, own, []⟩ :=
  fin he (rs := [r]) hf (.cons h .nil) fun W hm vs hd => by
    cases hd with
    | cons h1 hd =>
      cases hd; cases h1
      rw [nth_eq] at hi
      exact ⟨a, c, hn, hk, rfl, hm.ext, fun q hq => by rw [List.mem_singleton] at hq; subst hq; exact hm.at hi, List.pairwise_singleton _ _⟩
end rules
end Go.Proofs.YtpfjolckhlgodaaDoor
