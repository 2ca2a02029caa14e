/- Slices of arrays and of new rows, told as values; calls that lean on memory at an offset. -/
import Derived.Test.YtpfjolckhlgodaaDoorWm
import Derived.Test.YtpfjolckhlgodaaDoorWi
namespace Go.Proofs.YtpfjolckhlgodaaDoor
open Go Go.RowKit
section rules
variable {C : Ctx} {B : Bas} {nt : Nat} {ρ : Option Nat} {env : Env} {own : Own} {dfs : List Deferred} {K : Exit → St → Prop} {σ : St}
theorem rel_name_at {a : Act} {W : World} {d i off n c b lo : Nat} {o : OB} (hr : Rel B nt ⟨env, own, dfs⟩ a W) (hd : eget env d = some (.s i off n c)) (hi : nth own i = some o) (hk : o.key = some ⟨b, lo, none⟩) (hc : Nat.blt 0 c = true) :
    Rel B nt ⟨(d, .v (.slice (some ⟨b, lo + off, none⟩) n c)) :: env, own, dfs⟩ a W := by
  refine ⟨hr.size, hr.defers, fun d' e he => ?_, hr.mem⟩
  by_cases hdd : d = d'
  · subst hdd
    rw [eget_cons_self] at he
    cases he
    obtain ⟨o', a', ho', hv, hca⟩ := hr.env d _ hd
    rw [nth_eq] at hi
    have ho' : own[i]? = some o' := ho'
    rw [hi] at ho'; cases ho'
    have hc : 0 < c := by simpa using hc
    obtain ⟨b', lo', h1, h2⟩ := hca (by omega)
    rw [hk] at h1
    cases h1
    exact hv.trans (by rw [h2])
  · rw [eget_cons_ne hdd] at he
    exact hr.env d' e he
theorem OX.wk {zs : List Nat} {o : Oper} {N N' : St → Prop} (h : OX C B nt zs o N' σ) (hw : ∀ σ', N' σ' → ∃ σ'', σ''.own = σ'.own ∧ Wk B nt σ' σ'' ∧ N σ'') : OX C B nt zs o N σ :=
  fun a W Z hr hz nxt Q hn => h a W Z hr hz nxt Q fun σ' a' W' hN hr' hz' hk =>
    let ⟨s, ho, hwk, hNs⟩ := hw σ' hN
    hn s a' W' hNs (hwk a' W' hr') (ho ▸ hz') hk
/-- A new row, its slice told as a value. -/
theorem ox_newv {zs : List Nat} {o : Oper} {N : St → Prop} {d ℓ m : Nat} {f : Nat → OB} {g : Nat → EV} (hv : newV C env own o.op = some (f, g)) (hdst : o.dst = some d) (hd : Nat.blt d nt = true)
    {own' : Nat → Own} (hw : ∀ n, forceK (snoc own (f n)) some = some (own' n)) (hg : ∀ n, g n = .s ℓ 0 m m) (hm : Nat.blt 0 m = true) {ob : Nat → OB} (hi : ∀ n, nth (own' n) ℓ = some (ob n)) (hk : ∀ n, (ob n).key = some ⟨n, 0, none⟩)
    (hN : ∀ n, N ⟨(d, .v (.slice (some ⟨n, 0, none⟩) m m)) :: (d, .s ℓ 0 m m) :: env, own' n, dfs⟩) : OX C B nt zs o N ⟨env, own, dfs⟩ :=
  OX.wk (N' := fun s => ∃ n, s = ⟨(d, g n) :: env, own' n, dfs⟩) (ox_new hv hdst hd hw fun n => ⟨n, rfl⟩) (by
    rintro s ⟨n, rfl⟩
    refine ⟨⟨(d, .v (.slice (some ⟨n, 0, none⟩) m m)) :: (d, .s ℓ 0 m m) :: env, own' n, dfs⟩, rfl, fun a W hr => ?_, hN n⟩
    rw [hg n] at hr
    exact rel_name_at hr (eget_cons_self ..) (hi n) (hk n) hm)
theorem OV.named {o : Oper} {i off n c b lo : Nat} {ob : OB} (h : OV C B nt o (.s i off n c) ⟨env, own, dfs⟩) (hi : nth own i = some ob) (hk : ob.key = some ⟨b, lo, none⟩) (hc : Nat.blt 0 c = true) : OV C B nt o (.v (.slice (some ⟨b, lo + off, none⟩) n c)) ⟨env, own, dfs⟩ := by
  intro a W hr
  obtain ⟨v, ⟨o', a', ho', hv, hca⟩, hrun⟩ := h a W hr
  rw [nth_eq] at hi
  have ho' : own[i]? = some o' := ho'
  rw [hi] at ho'; cases ho'
  have hc : 0 < c := by simpa using hc
  obtain ⟨b', lo', h1, h2⟩ := hca (by omega)
  rw [hk] at h1
  cases h1
  exact ⟨v, hv.trans (by rw [h2]), hrun⟩
theorem rds_at {W : World} (hm : Mem B own W) {i off b lo : Nat} {o : OB} {xs ys : List Value} (hi : nth own i = some o) (hc : cont o = some xs) (hk : o.key = some ⟨b, lo, none⟩) (hs : Sub xs off ys) : RdS W (some ⟨b, lo + off, none⟩) ys := by
  rw [nth_eq] at hi
  intro j v hj
  obtain ⟨b', lo', h1, h2⟩ := hm.cell hi hc (hs j v hj)
  rw [hk] at h1
  cases h1
  exact ⟨b, lo + off, rfl, by rw [Nat.add_assoc]; exact h2⟩
/-- A row comes back, of a call that leans on memory. -/
theorem ox_gsM {zs : List Nat} {T k n : Nat} {ys : List Value} {N : St → Prop} {d : Nat} {ty : TypeId} {pos : String} {af : Array Edge} {g : Option (Nat × Bool)} (f : Nat) {first cap : List Value} {fo : Operand} {xs : List Operand} {vs us : List Value} {at_ : Array TypeId} (he : Enters C.P f)
    {mem : Mems} (hc : ConM C.P f us mem (PS T k n ys)) (hmo : ∀ W, Mem B own W → MemR W mem) (hf : ev env fo = some (.v (.func (.func f) ⟨first⟩ ⟨cap⟩))) (hxs : argsV env own xs = some vs) (hus : appL first (appL vs cap) = us) (hd : Nat.blt d nt = true)
    {ℓ : Nat} (hℓ : idxL own = some ℓ) {own' : Nat → Option Addr → Own} (hw : ∀ c a, forceK (snoc own (.row a T (c * k) ys)) some = some (own' c a)) (hN : ∀ c, n ≤ c → ∀ a, N ⟨(d, .s ℓ 0 n c) :: env, own' c a, dfs⟩) : OX C B nt zs ⟨some d, .call ⟨.value fo, ⟨xs⟩, at_⟩, ty, pos, af, g⟩ N ⟨env, own, dfs⟩ := by
  intro a W Z hr hz nxt Q hn
  unfold Oper.wp
  rw [run_call hr hf he rfl _ rfl, Oper.upon_enter, argsV_eval hr hxs]
  have hcall := hc W (hmo W hr.mem)
  rw [← hus, appL_eq, appL_eq] at hcall
  rw [show (⟨first⟩ : Array Value) ++ vs.toArray ++ ⟨cap⟩ = (first ++ (vs ++ cap)).toArray by simp]
  have hℓ := idxL_eq hℓ
  subst hℓ
  refine hcall.mono ?_
  rintro e W' ⟨ad, c, hc, hk0, rfl, hm⟩
  have hNx := hN c hc ad
  have hww := hw c ad
  rw [forceK_eq, snoc_eq] at hww
  rw [← Option.some.inj hww] at hNx
  refine hn _ _ _ hNx (hr.put (by simpa using hd) _ _ (OLe.app _ _) ⟨.row ad T (c * k) ys, ad, by simp, rfl, fun h0 => ?_⟩ (hr.mem.join hm (by simp [notRo]))) hz.app (Kept.ext (by simp [kind]) hm.ext.to)
  obtain ⟨b, cs, hb, _⟩ := (hm.reg _ (List.mem_singleton.2 rfl)).2 (Nat.mul_ne_zero h0 (by omega))
  exact ⟨b, 0, hb, hb⟩
end rules
end Go.Proofs.YtpfjolckhlgodaaDoor
