/- Calls that give back the beginning of their one slice. -/
import Derived.Test.YtpfjolckhlgodaaDoorWh
namespace Go.Proofs.YtpfjolckhlgodaaDoor
open Go Go.RowKit
/-- The first m of a slice at a. -/
def PP (a : Option Addr) (m c : Nat) (W : World) (e : Ending) (W' : World) : Prop := ∃ a', e = .returned (.slice a' m c) ∧ (c ≠ 0 → a' = a) ∧ Ext W W'
def ConP (P : Program) (f : FuncId) (n c : Nat) (ys : List Value) (m : Nat) : Prop := ∀ W a, AS.ok W (.r n c ys) (.slice a n c) → Calls P f #[.slice a n c] W (PP a m c W)
section rules
variable {C : Ctx} {B : Bas} {nt : Nat} {ρ : Option Nat} {env : Env} {own : Own} {dfs : List Deferred} {K : Exit → St → Prop} {σ : St}
theorem con_p {f : FuncId} {fn : Func} {c : Code} {n cap m : Nat} {ys : List Value} (hf : C.P.funcs[f]? = some fn) (hb : fn.body = some c) (nt : Nat) (hnt : fn.ntmps = nt) (hsz : Nat.ble 1 nt = true)
    (h : ∀ (W : World) (a : Option Addr), n ≤ cap → JC C (Bas.of W) nt none c (Fend C (Bas.of W) nt fn (PP a m cap W)) ⟨[(0, .s 0 0 n cap)], [.ro a ys], []⟩) : ConP C.P f n cap ys m := by
  intro W a ha
  obtain ⟨a0, h0, h1, h2, h3⟩ := ha
  cases h0
  refine calls_e (B := Bas.of W) (es := [.s 0 0 n cap]) (vs := [.slice a n cap]) hf hb nt hnt hsz (.cons ⟨.ro a ys, a, rfl, rfl, fun hc => ?_⟩ .nil) ⟨ExtG.refl _, fun o ho => ?_, List.pairwise_singleton _ _⟩ (h W a h3)
  · obtain ⟨b, lo, rfl⟩ := h2 hc
    exact ⟨b, lo, rfl, rfl⟩
  · rw [List.mem_singleton] at ho
    subst ho
    exact ro_reg h1
theorem fin_p {w : World} {fn : Func} {e : Exit} {r : ResultVar} {m c : Nat} {a : Option Addr} {xs : List Value} (he : e = .normal ∨ e = .ret) (hf : fn.results = #[r]) (h : ResE C (Bas.of w) nt ⟨env, own, []⟩ r (.s 0 0 m c)) (hi : nth own 0 = some (.ro a xs)) :
    FendG C (Bas.of w) nt fn (PP a m c w) e ⟨env, own, []⟩ :=
  fin he (rs := [r]) hf (.cons h .nil) fun W hm vs hd => by
    cases hd with
    | cons h1 hd =>
      cases hd
      rw [nth_eq] at hi
      obtain ⟨o, ad, ho, rfl, hc⟩ := h1
      rw [hi] at ho; cases ho
      refine ⟨ad, rfl, fun h0 => ?_, hm.ext.to⟩
      obtain ⟨b, lo, h2, h3⟩ := hc h0
      have h2 : a = some ⟨b, lo, none⟩ := h2
      rw [h2, h3]; rfl
/-- The beginning of a slice. -/
theorem ov_sliceto {dst : Option Tmp} {T : TypeId} {x : Operand} {hi : Option Operand} {ty : TypeId} {pos : String} {af : Array Edge} {g : Option (Nat × Bool)} {i off n c h es : Nat} {t : Ty} (hx : ev env x = some (.s i off n c)) (ht : C.ent T = some t) (he : elemSize C t = some es) (hh : loB env n hi = some h) (h2 : h ≤ c) :
    OV C B nt ⟨dst, .slice T x none hi none, ty, pos, af, g⟩ (.s i off h c) ⟨env, own, dfs⟩ := by
  have := ov_slice (B := B) (nt := nt) (own := own) (dfs := dfs) (dst := dst) (ty := ty) (pos := pos) (af := af) (g := g) (lo := none) (l := 0) hx ht he rfl hh (Nat.zero_le h) h2
  simpa using this
theorem ox_pre {zs : List Nat} {N : St → Prop} {d : Nat} {ty : TypeId} {pos : String} {af : Array Edge} {g : Option (Nat × Bool)} (f : Nat) {fo x : Operand} {i off n c m : Nat} {xs ys : List Value} {at_ : Array TypeId} (he : Enters C.P f)
    (hc : ConP C.P f n c ys m) (hf : ev env fo = some (.v (.func (.func f) #[] #[]))) (hx : ev env x = some (.s i off n c)) (hi : contAt own i = some xs) (hs : Sub xs off ys) (h0 : c = 0 → ys = []) (hnc : n ≤ c) (hd : Nat.blt d nt = true)
    (hN : N ⟨(d, .s i off m c) :: env, own, dfs⟩) : OX C B nt zs ⟨some d, .call ⟨.value fo, ⟨[x]⟩, at_⟩, ty, pos, af, g⟩ N ⟨env, own, dfs⟩ := by
  intro a W Z hr hz nxt Q hn
  have hden := hr.at hx
  have hok : ASs W [.r n c ys] [a.eval x] := (AM.r hi hs h0 hnc .nil).ok hr.mem (.cons hden .nil)
  obtain ⟨o, ad, ho, hev, hcap⟩ := hden
  unfold Oper.wp
  rw [run_call hr hf he rfl _ rfl, Oper.upon_enter]
  simp only [List.map_cons, List.map_nil, Array.empty_append, Array.append_empty]
  rw [hev] at hok ⊢
  refine (hc W ad hok.1).mono ?_
  rintro e W' ⟨a', rfl, ha', hx'⟩
  refine hn _ _ _ hN (hr.put (by simpa using hd) _ _ (OLe.refl _) ⟨o, a', ho, rfl, fun hc0 => ?_⟩ (hr.mem.ext' hx')) hz (Kept.ext (by simp [kind]) hx')
  obtain ⟨b, lo, h2, h3⟩ := hcap hc0
  exact ⟨b, lo, h2, by rw [ha' hc0, h3]⟩
/-- The same; from then on only the beginning of the cells is told. -/
theorem ox_few {zs : List Nat} {N : St → Prop} {d : Nat} {ty : TypeId} {pos : String} {af : Array Edge} {g : Option (Nat × Bool)} (f : Nat) {fo x : Operand} {i n c m : Nat} {xs : List Value} {ad : Option Addr} (ys : List Value) {at_ : Array TypeId} (he : Enters C.P f)
    (hc : ConP C.P f n c xs m) (hf : ev env fo = some (.v (.func (.func f) #[] #[]))) (hx : ev env x = some (.s i 0 n c)) (hi : nth own i = some (.ro ad xs)) (h0 : c = 0 → xs = []) (hnc : n ≤ c) (hd : Nat.blt d nt = true) (hs : Sub xs 0 ys)
    {own' : Own} (hw : forceK (own.set i (.ro ad ys)) some = some own') (hN : N ⟨(d, .s i 0 m c) :: env, own', dfs⟩) : OX C B nt zs ⟨some d, .call ⟨.value fo, ⟨[x]⟩, at_⟩, ty, pos, af, g⟩ N ⟨env, own, dfs⟩ := by
  have hi' : contAt own i = some xs := by simp [contAt, hi, cont]
  have h := ox_pre (C := C) (B := B) (nt := nt) (zs := zs) (ty := ty) (pos := pos) (af := af) (g := g) (at_ := at_) (dfs := dfs) (N := fun σ => ∃ σ', N σ' ∧ ∀ a W, Rel B nt σ a W → Rel B nt σ' a W ∧ ∀ Z, ZOk σ.own zs Z → ZOk σ'.own zs Z) f he hc hf hx hi' (Sub.refl _) h0 hnc hd (by
    rw [forceK_eq] at hw
    have hw := Option.some.inj hw
    subst hw
    refine ⟨_, hN, fun a W hr => ?_⟩
    rw [nth_eq] at hi
    refine ⟨hr.keep (OLe.set hi rfl) (hr.mem.upd hi (fun b hb => hb) hr.mem.ext (Nat.le_refl _) (fun _ _ _ => rfl) ?_), fun Z hz => hz.setfp hi fun b => Iff.rfl⟩
    intro j v hj
    have := hs j v hj
    rw [Nat.zero_add] at this
    exact hr.mem.at hi j v this)
  intro a W Z hr hz nxt Q hn
  exact h a W Z hr hz nxt Q fun σ a' W' ⟨σ', h1, h2⟩ hr' hz' hk => hn σ' a' W' h1 (h2 a' W' hr').1 ((h2 a' W' hr').2 Z hz') hk
/-- A slice whose place is known is told as a value. -/
theorem jl_name_at {ops : Array Oper} {l : List Oper} (d : Nat) {i off n c b lo : Nat} {o : OB} (hd : eget env d = some (.s i off n c)) (hi : nth own i = some o) (hk : o.key = some ⟨b, lo, none⟩) (hc : Nat.blt 0 c = true)
    (h : JL C B nt ρ ops K l ⟨(d, .v (.slice (some ⟨b, lo + off, none⟩) n c)) :: env, own, dfs⟩) : JL C B nt ρ ops K l ⟨env, own, dfs⟩ := fun a W hr => by
  refine h a W ⟨hr.size, hr.defers, fun d' e he => ?_, hr.mem⟩
  by_cases hdd : d = d'
  · subst hdd
    rw [eget_cons_self] at he
    cases he
    obtain ⟨o', a', ho', hv, hca⟩ := hr.env d _ hd
    rw [nth_eq] at hi
    have ho' : own[i]? = some o' := ho'
    rw [hi] at ho'; cases ho'
    have hc : 0 < c := by simpa using hc
    obtain ⟨b', lo', h1, h2⟩ := hca (by omega)
    rw [hk] at h1
    cases h1
    exact hv.trans (by rw [h2])
  · rw [eget_cons_ne hdd] at he
    exact hr.env d' e he
/-- Where a row lies. -/
theorem jl_addr {ops : Array Oper} {l : List Oper} (i : Nat) {T c k : Nat} {a : Option Addr} {xs : List Value} (hi : nth own i = some (.row a T (c * k) xs)) (hk : 0 < k) (h : (c ≠ 0 → ∃ b lo, a = some ⟨b, lo, none⟩) → JL C B nt ρ ops K l ⟨env, own, dfs⟩) : JL C B nt ρ ops K l ⟨env, own, dfs⟩ := fun f W hr => by
  rw [nth_eq] at hi
  refine h (fun hc => ?_) f W hr
  obtain ⟨b, cs, ha, _⟩ := (hr.mem.at hi).2 (fun e => (Nat.mul_eq_zero.1 e).elim hc (by omega))
  exact ⟨b, 0, ha⟩
/-- Two ways that meet again: what holds behind both. -/
theorem jc_cut (d : Nat) {w x y z : Code} {ι : Type} (S : ι → St) (φ : ι → Prop) (h1 : JC C B nt ρ (.seq w (.cond (.tmp d) x y)) (Kthen K fun σ => ∃ q, φ q ∧ Wk B nt σ (S q)) σ) (h2 : ∀ q, φ q → JC C B nt ρ z K (S q)) 
    : JC C B nt ρ (.seq (.seq w (.cond (.tmp d) x y)) z) K σ := by
  refine jc_seq (jc_mono h1 fun e τ h => ?_)
  cases e with
  | normal =>
    obtain ⟨q, hq, hw⟩ := h
    exact jc_wk hw (h2 q hq)
  | _ => exact h
theorem Wk.trans {σ τ υ : St} (h : Wk B nt σ τ) (k : Wk B nt τ υ) : Wk B nt σ υ := fun a W hr => k a W (h a W hr)
/-- Of a slice that was there only the beginning is told. -/
theorem wk_ro (i : Nat) {ad : Option Addr} {xs : List Value} (ys : List Value) (hi : nth own i = some (.ro ad xs)) (hs : Sub xs 0 ys) {own' : Own} (hw : own.set i (.ro ad ys) = own') : Wk B nt ⟨env, own, dfs⟩ ⟨env, own', dfs⟩ := fun a W hr => by
  subst hw
  rw [nth_eq] at hi
  refine hr.keep (OLe.set hi rfl) (hr.mem.upd hi (fun b hb => hb) hr.mem.ext (Nat.le_refl _) (fun _ _ _ => rfl) fun j v hj => ?_)
  have := hs j v hj
  rw [Nat.zero_add] at this
  exact hr.mem.at hi j v this
/-- Of a row only the beginning is told. -/
theorem wk_row (i : Nat) {ad : Option Addr} {T m : Nat} {xs : List Value} (ys : List Value) (hi : nth own i = some (.row ad T m xs)) (hs : Sub xs 0 ys) (hl : ys.length ≤ xs.length) {own' : Own} (hw : own.set i (.row ad T m ys) = own') : Wk B nt ⟨env, own, dfs⟩ ⟨env, own', dfs⟩ := fun a W hr => by
  subst hw
  rw [nth_eq] at hi
  have hreg := hr.mem.at hi
  refine hr.keep (OLe.set hi rfl) (hr.mem.upd hi (fun b hb => hb) hr.mem.ext (Nat.le_refl _) (fun _ _ _ => rfl) ⟨fun h0 => ?_, fun h0 => ?_⟩)
  · have := hreg.1 h0
    rw [this] at hl
    exact List.length_eq_zero_iff.1 (by simpa using hl)
  · obtain ⟨b, cs, h1, h2, h3, h4, h5, h6⟩ := hreg.2 h0
    refine ⟨b, cs, h1, h2, h3, h4, by omega, fun j v hj => h6 j v ?_⟩
    have := hs j v hj
    rwa [Nat.zero_add] at this
theorem jc_unname {z : Code} (d i : Nat) {n c T k : Nat} {ad : Option Addr} {xs : List Value} (hd : eget env d = some (.v (.slice ad n c))) (hi : nth own i = some (.row ad T (c * k) xs)) (hk : 0 < k) (h : JC C B nt ρ z K ⟨(d, .s i 0 n c) :: env, own, dfs⟩) : JC C B nt ρ z K ⟨env, own, dfs⟩ :=
  fun a W hr => h a W (rel_unname hr hd hi hk)
end rules
/-- A slice that is none, as a plain value. -/
theorem con_nil1 {P : Program} {f : FuncId} {s : AS} {R : World → Ending → World → Prop} (h : Con P f [s, .r 0 0 []] R) : Con P f [s, .x (.slice none 0 0)] R := fun W us hus => by
  match us, hus with
  | [u, v], ⟨h1, h2, _⟩ =>
    cases h2
    exact h W [u, .slice none 0 0] ⟨h1, ⟨none, rfl, fun j v hj => by simp at hj, fun h0 => absurd rfl h0, Nat.le_refl _⟩, trivial⟩
end Go.Proofs.YtpfjolckhlgodaaDoor
