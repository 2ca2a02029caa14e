/- Rows that are handed over to a call that leans on memory; the rest of a row cleared. -/
import Derived.Test.YtpfjolckhlgodaaDoorWs
import Derived.Test.YtpfjolckhlgodaaDoorWp
namespace Go.Proofs.YtpfjolckhlgodaaDoor
open Go Go.RowKit
set_option linter.unusedSimpArgs false
/-- A row is handed over; the call leans on memory beside it. -/
def ConHM (P : Program) (f : FuncId) (vs : List Value) (mem : Mems) (T k n : Nat) (xs : List Value) (n' : Nat) (xs' : List Value) : Prop :=
  ∀ (W : World) (a ad : Option Addr) (c : Nat), n ≤ c → (c ≠ 0 → ad = a) → Mem (Bas.hand W a (c * k)) (.row a T (c * k) xs :: memO mem) W → Calls P f (.slice ad n c :: vs).toArray W (PH W a (c * k) T k n' xs')
section rules
variable {C : Ctx} {B : Bas} {nt : Nat} {ρ : Option Nat} {env : Env} {own : Own} {dfs : List Deferred} {K : Exit → St → Prop} {σ : St}
/-- The beginning of such a call. -/
theorem handM_e {f : FuncId} {fn : Func} {code : Code} {vs : List Value} {mem : Mems} {T k n n' : Nat} {xs xs' : List Value} (hf : C.P.funcs[f]? = some fn) (hb : fn.body = some code) (nt : Nat) (hnt : fn.ntmps = nt) (hk : 0 < k) (hsz : Nat.ble (vs.length + 1) nt = true)
    (h : ∀ (W : World) (a : Option Addr) (c : Nat), n ≤ c → JC C (Bas.hand W a (c * k)) nt none code (Fend C (Bas.hand W a (c * k)) nt fn (PH W a (c * k) T k n' xs')) ⟨mkEnv 0 (.s 0 0 n c :: mapV vs), .row a T (c * k) xs :: memO mem, []⟩) : ConHM C.P f vs mem T k n xs n' xs' := by
  intro W a ad c hn had hm
  have hd : Den (.row a T (c * k) xs :: memO mem) (.s 0 0 n c) (.slice ad n c) := ⟨_, ad, rfl, rfl, fun h0 => by
    have := had h0
    subst this
    obtain ⟨b, cs, ha, _⟩ := (hm.reg _ (List.mem_cons_self ..)).2 (Nat.mul_ne_zero h0 (by omega))
    exact ⟨b, 0, ha, ha⟩⟩
  exact calls_e (B := Bas.hand W a (c * k)) hf hb nt hnt (by simpa using hsz) (.cons hd (dens_mapV vs)) hm (h W a c hn)
/-- The regions at hand, beside region i, hold that memory. -/
inductive MOkX (own : Own) (i : Nat) : Mems → Prop
  | nil : MOkX own i []
  | cons {a ys r} (j : Nat) {o xs} : Nat.beq j i = false → nth own j = some o → cont o = some xs → o.key = a → Sub xs 0 ys → MOkX own i r → MOkX own i ((a, ys) :: r)
theorem MOkX.mem {mem : Mems} {i T m : Nat} {a : Option Addr} {xs : List Value} {W : World} (h : MOkX own i mem) (hm : Mem B own W) (hi : own[i]? = some (.row a T m xs)) : Mem (Bas.hand W a m) (.row a T m xs :: memO mem) W := by
  have key : ∀ o ∈ memO mem, Reg (Bas.hand W a m) W o ∧ ∀ b, ¬ o.fp b := by
    induction h with
    | nil => intro o ho; simp [memO] at ho
    | @cons a' ys r j o' xs' hne hj hc hk hs _ ih =>
      intro o ho
      rcases List.mem_cons.1 ho with rfl | ho
      · refine ⟨fun q v hq => ?_, fun _ hf => hf⟩
        rw [nth_eq] at hj
        obtain ⟨b, lo, h1, h2⟩ := hm.cell hj hc (hs q v hq)
        rw [Nat.zero_add] at h2
        have hlt : b < W.heap.size := by
          rcases Nat.lt_or_ge b W.heap.size with h | h
          · exact h
          · unfold World.cell? at h2
            simp [Array.getElem?_eq_none h] at h2
        refine ⟨b, lo, hk ▸ h1, hlt, ?_, h2⟩
        rintro ⟨hm0, x, hx, hbx⟩
        have hji : j ≠ i := fun e => by subst e; simp at hne
        have hrow := hm.at hi
        obtain ⟨b', cs, ha', hfr, hh, _⟩ := hrow.2 hm0
        have hfp : (OB.row a T m xs).fp b := ⟨hm0, x, hx, hbx⟩
        have hap := hm.apart hi hj (Ne.symm hji) b hfp
        cases o' with
        | blk n' T' cs' => simp only [OB.key, Option.some.injEq] at h1; cases h1; exact hap rfl
        | row a2 T2 m2 xs2 =>
          have hj2 := hm.at hj
          simp only [cont, Option.some.injEq] at hc
          subst hc
          have hm2 : m2 ≠ 0 := fun h0 => by
            have := hj2.1 h0
            subst this
            have := hs q v hq
            simp at this
          simp only [OB.key] at h1
          exact hap ⟨hm2, _, h1, rfl⟩
        | ro a2 xs2 =>
          have hj2 := hm.at hj
          simp only [cont, Option.some.injEq] at hc
          subst hc
          have hq2 := hs q v hq
          rw [Nat.zero_add] at hq2
          obtain ⟨b2, lo2, e2, hlt2, hgv2, _⟩ := hj2 q v hq2
          simp only [OB.key] at h1
          have hb2 : (⟨b2, lo2, none⟩ : Addr) = ⟨b, lo, none⟩ := Option.some.inj (e2.symm.trans h1)
          cases hb2
          have hx2 : x = ⟨b', 0, none⟩ := Option.some.inj (hx.symm.trans ha')
          have hb3 : b = b' := by rw [hbx, hx2]
          subst hb3
          rcases hfr with h | h
          · omega
          · exact hgv2 h
        | frz n' xs2 => simp only [OB.key, Option.some.injEq] at h1; cases h1; exact hap rfl
        | obj n' o2 => simp [cont] at hc
        | abs f' i' => simp [cont] at hc
        | dead a2 => simp [cont] at hc
      · exact ih o ho
  have h1 := (hm.alone hi)
  refine ⟨h1.ext, fun o ho => ?_, List.pairwise_cons.2 ⟨fun o ho b hb hb' => (key o ho).2 b hb', pairwise_of fun p q o o' hp _ _ b hb => absurd hb ((key o (List.mem_of_getElem? hp)).2 b)⟩⟩
  rcases List.mem_cons.1 ho with rfl | ho
  · exact h1.reg _ (List.mem_singleton.2 rfl)
  · exact (key o ho).1
/-- A call that a row is handed over to, and that leans on memory. -/
theorem ox_handM {zs : List Nat} {N : St → Prop} {d : Nat} {ty : TypeId} {pos : String} {af : Array Edge} {g : Option (Nat × Bool)} (f : Nat) {fo x : Operand} {cap : List Value} {ys : List Operand} {vs us : List Value} {mem : Mems} {i T k n c n' : Nat} {a : Option Addr} {xs xs' : List Value} {at_ : Array TypeId} (he : Enters C.P f) (hq : isNew (.call ⟨.value fo, ⟨x :: ys⟩, at_⟩) = false) (hc : ConHM C.P f us mem T k n xs n' xs') (hmo : MOkX own i mem) (hf : ev env fo = some (.v (.func (.func f) ⟨[]⟩ ⟨cap⟩))) (hx : ev env x = some (.s i 0 n c)) (hys : argsV env own ys = some vs) (hus : appL vs cap = us) (hi : nth own i = some (.row a T (c * k) xs)) (hni : notIn zs i = true) (hk : 0 < k) (hn : n ≤ c) (hd : Nat.blt d nt = true)
    {ℓ : Nat} (hℓ : idxL own = some ℓ) {own' : Nat → Option Addr → Own} (hw : ∀ c' a', forceK (snoc (own.set i (.dead a)) (.row a' T (c' * k) xs')) some = some (own' c' a')) (hN : ∀ c', n' ≤ c' → ∀ a', N ⟨(d, .s ℓ 0 n' c') :: env, own' c' a', dfs⟩) : OX C B nt zs ⟨some d, .call ⟨.value fo, ⟨x :: ys⟩, at_⟩, ty, pos, af, g⟩ N ⟨env, own, dfs⟩ := by
  intro act W Z hr hz nxt Q hnx
  rw [nth_eq] at hi
  obtain ⟨o1, ad, ho1, hxe, hc1⟩ := hr.at hx
  rw [hi] at ho1; cases ho1
  have had : c ≠ 0 → ad = a := fun h0 => by
    obtain ⟨b, lo, hk1, rfl⟩ := hc1 h0
    obtain ⟨b', cs, ha, _⟩ := (hr.mem.at hi).2 (Nat.mul_ne_zero h0 (by omega))
    have : a = some ⟨b, lo, none⟩ := hk1
    rw [this]; rfl
  unfold Oper.wp
  rw [run_call (first := ⟨[]⟩) (cap := ⟨cap⟩) (xs := x :: ys) hr hf he rfl _ rfl, Oper.upon_enter]
  have hev := argsV_eval hr hys
  rw [appL_eq] at hus
  rw [show (⟨[]⟩ : Array Value) ++ ((x :: ys).map act.eval).toArray ++ ⟨cap⟩ = (.slice ad n c :: us).toArray by rw [← hus]; simp [hxe, hev]]
  refine (hc W a ad c hn had (hmo.mem hr.mem hi)).mono ?_
  rintro e W' ⟨a', c', hc', hk0, rfl, hm⟩
  obtain ⟨h3, h6⟩ := hr.mem.back hi hm
  have hℓ := idxL_eq hℓ
  subst hℓ
  have hNx := hN c' hc' a'
  have hww := hw c' a'
  rw [forceK_eq, snoc_eq] at hww
  rw [← Option.some.inj hww] at hNx
  have hno := notIn_spec hni
  refine hnx _ _ _ hNx (hr.put (by simpa using hd) _ _ ((OLe.set (o' := .dead a) hi rfl).trans (OLe.app _ _)) ⟨.row a' T (c' * k) xs', a', by simp, rfl, fun h0 => ?_⟩ h3) ((hz.setne hno).app) (Kept.mk3 hq (fun h => by simp [kind] at h) (fun _ => ⟨h3.ext, hm.ext.size⟩) (fun _ b hb hlt' => h6 b hlt' (hz.apart hr.mem hi hno b hb)))
  obtain ⟨b, cs, ha, _⟩ := (hm.reg _ (List.mem_singleton.2 rfl)).2 (Nat.mul_ne_zero h0 (by omega))
  exact ⟨b, 0, ha, ha⟩
/-- What stands behind the part of a row that is told is cleared. -/
theorem ox_clear {zs : List Nat} {N : St → Prop} {ty : TypeId} {pos : String} {af : Array Edge} {g : Option (Nat × Bool)} {x : Operand} {sT e k i off n c m : Nat} {t te : Ty} {a : Option Addr} {xs : List Value} (hx : ev env x = some (.s i off n c)) (hi : nth own i = some (.row a e m xs)) (hni : notIn zs i = true) (ht : C.ent sT = some t) (hs : t.slc = some (e, k)) (he : C.ent e = some te) (hz0 : (te.zv.cells.toList.all Value.oneCell && Nat.beq te.zv.cells.toList.length k && Nat.blt 0 k) = true) (hoff : xs.length ≤ off) (hlen : off + n * k ≤ m) (hnc : n ≤ c) (hN : N ⟨env, own, dfs⟩) : OX C B nt zs ⟨none, .call ⟨.builtin .clear, ⟨[x]⟩, ⟨[sT]⟩⟩, ty, pos, af, g⟩ N ⟨env, own, dfs⟩ := by
  intro act W Z hr hz nxt Q hnx
  rw [nth_eq] at hi
  simp only [Bool.and_eq_true] at hz0
  obtain ⟨⟨hz1, hz2⟩, hz3⟩ := hz0
  have hz2 := Nat.eq_of_beq_eq_true hz2
  have hk0 : 0 < k := by simpa using hz3
  obtain ⟨o1, ad, ho1, hxe, hc1⟩ := hr.at hx
  rw [hi] at ho1; cases ho1
  have hgen : ∀ (W' : World), (Builtin.clear_ #[sT] ty #[act.eval x]).run C.P W = .ok (.tuple #[]) W' → (execOp act.eval ⟨none, .call ⟨.builtin .clear, ⟨[x]⟩, ⟨[sT]⟩⟩, ty, pos, af, g⟩).run C.P W = .ok (.value (.tuple #[])) W' := fun W' h => by
    have h2 : (#[x] : Array Operand).map act.eval = #[act.eval x] := by simp
    show (do let dd ← resolve act.eval ⟨.builtin .clear, #[x], #[sT]⟩ ty; invoke dd.target dd.args : Sem Next).run C.P W = _
    simp only [resolve, h2, Sem.run_bind, Sem.run_pure, Result.andThen_ok, invoke, builtin]
    simp [h]
  unfold Oper.wp
  by_cases hn0 : n = 0
  · subst hn0
    have hrun : (Builtin.clear_ #[sT] ty #[act.eval x]).run C.P W = .ok (.tuple #[]) W := by
      rw [hxe]
      cases ad <;> simp [Builtin.clear_, underlying_slc ht hs]
    rw [hgen W hrun, Oper.upon_value]
    refine hnx _ _ _ hN (hr.keep (OLe.refl _) hr.mem) hz ⟨fun _ => rfl, fun h => ⟨h, Nat.le_refl _⟩, fun _ _ _ _ => rfl⟩
  · obtain ⟨b, lo, hk1, rfl⟩ := hc1 (by omega)
    have hm0 : m ≠ 0 := fun h0 => by
      have : 0 < n * k := Nat.mul_pos (by omega) hk0
      omega
    have hreg := hr.mem.at hi
    obtain ⟨b', cs, ha, hfr, hheap, hcs, hxm, hcell⟩ := hreg.2 hm0
    have : (⟨b, lo, none⟩ : Addr) = ⟨b', 0, none⟩ := Option.some.inj (hk1.symm.trans ha)
    cases this
    obtain ⟨zc, hzc⟩ : ∃ zc, Builtin.zeroCells te.zv.cells n = zc := ⟨_, rfl⟩
    have hsz : te.zv.cells.size = k := by rw [← Array.length_toList]; exact hz2
    have hzl : zc.toList.length = n * k := by rw [← hzc]; simp [Builtin.zeroCells, hsz]
    have hz1' : ∀ v ∈ zc.toList, v.oneCell = true := fun v hv => by
      rw [← hzc] at hv
      simp only [Builtin.zeroCells, Array.toList_map, List.mem_map] at hv
      obtain ⟨q, _, rfl⟩ := hv
      have hlt : q % te.zv.cells.size < te.zv.cells.size := Nat.mod_lt _ (by omega)
      rw [getElem!_pos te.zv.cells _ hlt]
      exact List.all_eq_true.1 hz1 _ (Array.getElem_mem_toList hlt)
    obtain ⟨W', hrun0, g2, g3, g4, g5, g6, g7, g8⟩ := storeCells_run (P := C.P) (n := b) (T := e) zc.toList cs.toList off 0 W (by simpa using hheap) (by rw [hzl]; simp; omega) hz1'
    have hrun : (Builtin.clear_ #[sT] ty #[act.eval x]).run C.P W = .ok (.tuple #[]) W' := by
      rw [hxe]
      obtain ⟨n1, rfl⟩ : ∃ n1, n = n1 + 1 := ⟨n - 1, by omega⟩
      simp [Builtin.clear_, underlying_slc ht hs, (C.ok _ te he).z, hzc, hrun0]
    rw [hgen W' hrun, Oper.upon_value]
    have hxt : ExtG B W' := hr.mem.ext.turn (f := fun q => q = b) (fun q hq => by cases hq; exact hfr) g5 g6 g7 (by omega) (Dr.le (by omega)) (fun q _ hq => g4 q hq)
    have hM : Mem B own W' := by
      have := hr.mem.upd (o' := .row a e m xs) hi (fun q hq => hq) hxt (by omega) (fun q _ hq => g4 q fun e1 => hq ⟨hm0, _, ha, e1⟩) ⟨fun h0 => absurd h0 hm0, fun _ => ⟨b, _, ha, hfr, g2, by simp [setAt_len, hcs], hxm, fun j v hj => ?_⟩⟩
      · have hset : own.set i (.row a e m xs) = own := by
          apply List.ext_getElem?
          intro j
          by_cases e1 : i = j
          · subst e1; rw [List.getElem?_set_self (List.getElem?_eq_some_iff.1 hi).1, hi]
          · rw [List.getElem?_set_ne e1]
        rw [hset] at this
        exact this
      · have hjl := (List.getElem?_eq_some_iff.1 hj).1
        rw [List.getElem?_toArray, Nat.add_zero, setAt_get _ _ _ _ (by rw [hzl]; simp; omega), if_neg (by omega)]
        simpa using hcell j v hj
    exact hnx _ _ _ hN (hr.keep (OLe.refl _) hM) hz ⟨fun h => by simp [kind] at h, fun _ => ⟨hxt, by omega⟩, fun h => by simp [kind] at h⟩
end rules
end Go.Proofs.YtpfjolckhlgodaaDoor
