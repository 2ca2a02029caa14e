/- Contracts that ask something of the world, with slices. -/
import Derived.Test.YtpfjolckhlgodaaDoorSc
import Derived.Test.YtpfjolckhlgodaaDoorWg
namespace Go.Proofs.YtpfjolckhlgodaaDoor
open Go Go.RowKit
set_option linter.unusedSimpArgs false
set_option linter.unusedVariables false
def ConB (B : Bas) (P : Program) (f : FuncId) (ps : List AS) (R : World → Ending → World → Prop) : Prop := ∀ W us, ExtG B W → ASs W ps us → Calls P f us.toArray W (R W)
def ConG (P : Program) (f : FuncId) (ps : List AS) (R : World → Ending → World → Prop) : Prop := ∀ W us, Gl W → ASs W ps us → Calls P f us.toArray W (R W)
theorem ConG.b {P : Program} {f : FuncId} {ps : List AS} {R : World → Ending → World → Prop} (h : ConG P f ps R) {w : World} (hg : Gl w) : ConB (Bas.of w) P f ps R := fun W us hx hu => h W us (hg.ofB hx) hu
section rules
variable {C : Ctx} {B : Bas} {nt : Nat} {env : Env} {own : Own} {dfs : List Deferred}
theorem ox_conB {zs : List Nat} {ι : Type} {φ : ι → Prop} {G : ι → Value} {O : ι → Own} {N : St → Prop} {d : Nat} {ty : TypeId} {pos : String} {af : Array Edge} {g : Option (Nat × Bool)} (f : Nat) {first cap : List Value} {fo : Operand} {xs : List Operand} {es : List EV} {ps : List AS} {at_ : Array TypeId} (he : Enters C.P f)
    (hc : ConB B C.P f ps (PG φ G O)) (hf : ev env fo = some (.v (.func (.func f) ⟨first⟩ ⟨cap⟩))) (hxs : evs env xs = some es) {fs : List EV} (hfs : appL (mapV first) (appL es (mapV cap)) = fs) (ha : AM own fs ps) (hd : Nat.blt d nt = true) (ho : ∀ x, (O x).all notRo = true)
    {own' : ι → Own} (hw : ∀ x, forceK (appL own (O x)) some = some (own' x)) (hN : ∀ x, φ x → N ⟨(d, .v (G x)) :: env, own' x, dfs⟩) : OX C B nt zs ⟨some d, .call ⟨.value fo, ⟨xs⟩, at_⟩, ty, pos, af, g⟩ N ⟨env, own, dfs⟩ := by
  intro a W Z hr hz nxt Q hn
  unfold Oper.wp
  rw [run_call hr hf he rfl _ rfl, Oper.upon_enter]
  rw [← hfs, appL_eq, appL_eq, mapV_eq, mapV_eq] at ha
  have hds : Dens own (first.map EV.v ++ (es ++ cap.map EV.v)) (first ++ (xs.map a.eval ++ cap)) := (Dens.vals _).app ((evs_den hr hxs).app (Dens.vals _))
  have hcall := hc W _ hr.mem.ext (ha.ok hr.mem hds)
  rw [show (⟨first⟩ : Array Value) ++ (xs.map a.eval).toArray ++ ⟨cap⟩ = (first ++ (xs.map a.eval ++ cap)).toArray by simp]
  refine hcall.mono ?_
  rintro e W' ⟨x, hx, rfl, hm⟩
  have hNx := hN x hx
  have hww := hw x
  rw [forceK_eq, appL_eq] at hww
  rw [← Option.some.inj hww] at hNx
  have hall : ∀ o ∈ O x, notRo o = true := List.all_eq_true.1 (ho x)
  exact hn _ _ _ hNx (hr.put (by simpa using hd) _ _ (OLe.app _ _) rfl (hr.mem.join hm hall)) hz.app (Kept.ext (by simp [kind]) hm.ext.to)
theorem ox_consB {zs : List Nat} {T k n : Nat} {ys : List Value} {N : St → Prop} {d : Nat} {ty : TypeId} {pos : String} {af : Array Edge} {g : Option (Nat × Bool)} (f : Nat) {first cap : List Value} {fo : Operand} {xs : List Operand} {es : List EV} {ps : List AS} {at_ : Array TypeId} (he : Enters C.P f)
    (hc : ConB B C.P f ps (PS T k n ys)) (hf : ev env fo = some (.v (.func (.func f) ⟨first⟩ ⟨cap⟩))) (hxs : evs env xs = some es) {fs : List EV} (hfs : appL (mapV first) (appL es (mapV cap)) = fs) (ha : AM own fs ps) (hd : Nat.blt d nt = true)
    {ℓ : Nat} (hℓ : idxL own = some ℓ) {own' : Nat → Option Addr → Own} (hw : ∀ c a, forceK (snoc own (.row a T (c * k) ys)) some = some (own' c a)) (hN : ∀ c, n ≤ c → ∀ a, N ⟨(d, .s ℓ 0 n c) :: env, own' c a, dfs⟩) : OX C B nt zs ⟨some d, .call ⟨.value fo, ⟨xs⟩, at_⟩, ty, pos, af, g⟩ N ⟨env, own, dfs⟩ := by
  intro a W Z hr hz nxt Q hn
  unfold Oper.wp
  rw [run_call hr hf he rfl _ rfl, Oper.upon_enter]
  rw [← hfs, appL_eq, appL_eq, mapV_eq, mapV_eq] at ha
  have hds : Dens own (first.map EV.v ++ (es ++ cap.map EV.v)) (first ++ (xs.map a.eval ++ cap)) := (Dens.vals _).app ((evs_den hr hxs).app (Dens.vals _))
  have hcall := hc W _ hr.mem.ext (ha.ok hr.mem hds)
  rw [show (⟨first⟩ : Array Value) ++ (xs.map a.eval).toArray ++ ⟨cap⟩ = (first ++ (xs.map a.eval ++ cap)).toArray by simp]
  refine hcall.mono ?_
  rintro e W' ⟨ad, c, hc, hk0, rfl, hm⟩
  have hℓ := idxL_eq hℓ
  subst hℓ
  have hNx := hN c hc ad
  have hww := hw c ad
  rw [forceK_eq, snoc_eq] at hww
  rw [← Option.some.inj hww] at hNx
  refine hn _ _ _ hNx (hr.put (by simpa using hd) _ _ (OLe.app _ _) ⟨.row ad T (c * k) ys, ad, by simp, rfl, fun h0 => ?_⟩ (hr.mem.join hm (by simp [notRo]))) hz.app (Kept.ext (by simp [kind]) hm.ext.to)
  obtain ⟨b, cs, hb, _⟩ := (hm.reg _ (List.mem_singleton.2 rfl)).2 (Nat.mul_ne_zero h0 (by omega))
  exact ⟨b, 0, hb, hb⟩
theorem ox_convB {zs : List Nat} {N : St → Prop} {d : Nat} {ty : TypeId} {pos : String} {af : Array Edge} {g : Option (Nat × Bool)} {v : Value} (f : Nat) {first cap : List Value} {fo : Operand} {xs : List Operand} {es : List EV} {ps : List AS} {at_ : Array TypeId} (he : Enters C.P f)
    (hc : ConB B C.P f ps (fun W => PV W v)) (hf : ev env fo = some (.v (.func (.func f) ⟨first⟩ ⟨cap⟩))) (hxs : evs env xs = some es) {fs : List EV} (hfs : appL (mapV first) (appL es (mapV cap)) = fs) (ha : AM own fs ps) (hd : Nat.blt d nt = true)
    (hN : N ⟨(d, .v v) :: env, own, dfs⟩) : OX C B nt zs ⟨some d, .call ⟨.value fo, ⟨xs⟩, at_⟩, ty, pos, af, g⟩ N ⟨env, own, dfs⟩ := by
  intro a W Z hr hz nxt Q hn
  unfold Oper.wp
  rw [run_call hr hf he rfl _ rfl, Oper.upon_enter]
  rw [← hfs, appL_eq, appL_eq, mapV_eq, mapV_eq] at ha
  have hds : Dens own (first.map EV.v ++ (es ++ cap.map EV.v)) (first ++ (xs.map a.eval ++ cap)) := (Dens.vals _).app ((evs_den hr hxs).app (Dens.vals _))
  have hcall := hc W _ hr.mem.ext (ha.ok hr.mem hds)
  rw [show (⟨first⟩ : Array Value) ++ (xs.map a.eval).toArray ++ ⟨cap⟩ = (first ++ (xs.map a.eval ++ cap)).toArray by simp]
  refine hcall.mono ?_
  rintro e W' ⟨rfl, hx⟩
  exact hn _ _ _ hN (hr.put (by simpa using hd) _ _ (OLe.refl _) rfl (hr.mem.ext' hx)) hz (Kept.ext (by simp [kind]) hx)
theorem con_g {f : FuncId} {fn : Func} {c : Code} {ps : List AS} {R : World → Ending → World → Prop} (hf : C.P.funcs[f]? = some fn) (hb : fn.body = some c) (nt : Nat) (hnt : fn.ntmps = nt) (hsz : Nat.ble ps.length nt = true)
    (h : ∀ (W : World) (α : Nat → Option Addr), Gl W → AsB ps → JC C (Bas.of W) nt none c (Fend C (Bas.of W) nt fn (R W)) ⟨mkEnv 0 (entE 0 ps), entO α 0 ps, []⟩) : ConG C.P f ps R := by
  intro W us hG hus
  obtain ⟨α, h1, h2⟩ := enter_ok ps us 0 hus
  refine calls_e (B := Bas.of W) hf hb nt hnt (by rw [ass_len hus]; exact hsz) (by simpa using h1 [] rfl) ⟨ExtG.refl _, fun o ho => (h2 o ho).1, pairwise_of fun i j o o' hi _ _ b hb => absurd hb ((h2 o (List.mem_of_getElem? hi)).2 b)⟩ (h W α hG (ass_b hus))
end rules
end Go.Proofs.YtpfjolckhlgodaaDoor
