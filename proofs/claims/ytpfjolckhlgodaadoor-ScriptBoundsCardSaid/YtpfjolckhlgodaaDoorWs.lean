/- Pairs of a row and a value; slices that are handed over to a call and come back. -/
import Derived.Test.YtpfjolckhlgodaaDoorWr
namespace Go.Proofs.YtpfjolckhlgodaaDoor
open Go Go.RowKit
/-- A row of the callee's making, beside a value. -/
def PSX (T k n : Nat) (xs : List Value) (x : Value) : World → Ending → World → Prop := PG (fun q : Option Addr × Nat => n ≤ q.2) (fun q => .tuple #[.slice q.1 n q.2, x]) (fun q => [.row q.1 T (q.2 * k) xs])
/-- Where a call began that a row was handed over to. -/
def Bas.hand (W : World) (a : Option Addr) (m : Nat) : Bas := ⟨W, fun b => m ≠ 0 ∧ ∃ x, a = some x ∧ b = x.block⟩
/-- What comes back: a row, in the place of the one that was handed over. -/
def PH (W : World) (a : Option Addr) (m T k n : Nat) (xs : List Value) (e : Ending) (W' : World) : Prop := ∃ a' c, n ≤ c ∧ 0 < k ∧ e = .returned (.slice a' n c) ∧ Mem (Bas.hand W a m) [.row a' T (c * k) xs] W'
def ConH (P : Program) (f : FuncId) (vs : List Value) (T k n : Nat) (xs : List Value) (n' : Nat) (xs' : List Value) : Prop :=
  ∀ (W : World) (a ad : Option Addr) (c : Nat), n ≤ c → (c ≠ 0 → ad = a) → Mem (Bas.hand W a (c * k)) [.row a T (c * k) xs] W → Calls P f (.slice ad n c :: vs).toArray W (PH W a (c * k) T k n' xs')
/-- Some cells of an element. -/
theorem at0q {α : Type} {enc : α → List Value} {k : Nat} (hk : ∀ x, (enc x).length = k) {L : List α} {m j n : Nat} (h : m < L.length) (hj : j + n ≤ k) : At (encs enc L) (0 + m * k + j) (((enc L[m]).drop j).take n) :=
  at_part hk (j := j) h (by rw [List.length_take, List.length_drop, hk]; omega) (by omega) fun t v ht => by
    rw [List.getElem?_take] at ht
    split at ht
    · rw [List.getElem?_drop] at ht; exact ht
    · cases ht
section rules
variable {C : Ctx} {B : Bas} {nt : Nat} {ρ : Option Nat} {env : Env} {own : Own} {dfs : List Deferred} {K : Exit → St → Prop} {σ : St}
theorem row_key {B : Bas} {W : World} {a ad : Option Addr} {T c k : Nat} {xs : List Value} (hk : 0 < k) (hreg : Reg B W (.row a T (c * k) xs)) (hc : c ≠ 0 → ∃ b lo, a = some ⟨b, lo, none⟩ ∧ ad = some ⟨b, lo + 0, none⟩) : Reg B W (.row ad T (c * k) xs) := by
  by_cases h0 : c = 0
  · subst h0
    have := hreg.1 (by simp)
    subst this
    exact ⟨fun _ => rfl, fun h0 => absurd (by simp) h0⟩
  · obtain ⟨b, lo, hk1, rfl⟩ := hc h0
    obtain ⟨b', cs, ha, _⟩ := hreg.2 (Nat.mul_ne_zero h0 (by omega))
    have : (⟨b, lo, none⟩ : Addr) = ⟨b', 0, none⟩ := Option.some.inj (hk1.symm.trans ha)
    cases this
    rw [ha] at hreg
    exact hreg
/-- The address of an element of a slice that is told as a value, of a slice that was there. -/
theorem ov_idxro (i m : Nat) {dst : Option Tmp} {T : TypeId} {x y : Operand} {ty : TypeId} {pos : String} {af : Array Edge} {g : Option (Nat × Bool)} {n c es : Nat} {k : IntKind} {z : Int} {t : Ty} {ad : Option Addr} {xs : List Value} (hx : ev env x = some (.v (.slice ad n c))) (hy : ev env y = some (.v (.int k z))) (ht : C.ent T = some t) (he : elemSize C t = some es) (hi : nth own i = some (.ro ad xs)) (ha : c ≠ 0 → ∃ b lo, ad = some ⟨b, lo, none⟩) (hz : z = (m : Int)) (hm : m < n) (hc : n ≤ c) :
    OV C B nt ⟨dst, .indexAddr T x y, ty, pos, af, g⟩ (.p i (0 + m * es)) ⟨env, own, dfs⟩ := by
  subst hz
  rw [nth_eq] at hi
  intro a W hr
  have hd : Den own (.s i 0 n c) (a.eval x) := ⟨_, ad, hi, hr.atv hx, fun h0 => let ⟨b, lo, h1⟩ := ha h0; ⟨b, lo, h1, h1⟩⟩
  obtain ⟨v, hv, hrun⟩ := index_s (k := k) ht he hm hc hd
  refine ⟨v, hv, fun w _ => ?_⟩
  simp only [execOp, hr.atv hy, Sem.run_bind, hrun, Result.andThen_ok]
  rfl
theorem jc_unname_ro {z : Code} (d i : Nat) {n c : Nat} {ad : Option Addr} {xs : List Value} (hd : eget env d = some (.v (.slice ad n c))) (hi : nth own i = some (.ro ad xs)) (hk : c ≠ 0 → ∃ b lo, ad = some ⟨b, lo, none⟩) (h : JC C B nt ρ z K ⟨(d, .s i 0 n c) :: env, own, dfs⟩) : JC C B nt ρ z K ⟨env, own, dfs⟩ :=
  fun a W hr => h a W (rel_unname_ro hr hd hi hk)
theorem fin_sx {w : World} {fn : Func} {e : Exit} {r s : ResultVar} {i n c T k : Nat} {a : Option Addr} {xs : List Value} {x : Value} (he : e = .normal ∨ e = .ret) (hf : fn.results = #[r, s]) (h : ResE C (Bas.of w) nt ⟨env, own, []⟩ r (.s i 0 n c)) (h' : ResIs C (Bas.of w) nt ⟨env, own, []⟩ s x) (hi : nth own i = some (.row a T (c * k) xs)) (hk : 0 < k) (hn : n ≤ c) :
    FendG C (Bas.of w) nt fn (PSX T k n xs x w) e ⟨env, own, []⟩ :=
  fin he (rs := [r, s]) hf (.cons h (.cons h' .nil)) fun W hm vs hd => by
    cases hd with
    | cons h1 hd => cases hd with
      | cons h2 hd =>
        cases hd
        cases h2
        rw [nth_eq] at hi
        obtain ⟨o, ad, ho, rfl, hc⟩ := h1
        rw [hi] at ho; cases ho
        refine ⟨(ad, c), hn, rfl, hm.ext, fun q hq => ?_, List.pairwise_singleton _ _⟩
        rw [List.mem_singleton] at hq; subst hq
        exact row_key hk (hm.at hi) hc
theorem fin_nilx {w : World} {fn : Func} {e : Exit} {r s : ResultVar} {T k : Nat} {x : Value} (he : e = .normal ∨ e = .ret) (hf : fn.results = #[r, s]) (h : ResIs C (Bas.of w) nt ⟨env, own, []⟩ r (.slice none 0 0)) (h' : ResIs C (Bas.of w) nt ⟨env, own, []⟩ s x) : FendG C (Bas.of w) nt fn (PSX T k 0 [] x w) e ⟨env, own, []⟩ :=
  fin2 he hf h h' fun W hm => ⟨(none, 0), Nat.le_refl _, rfl, hm.ext, fun q hq => by
    rw [List.mem_singleton] at hq; subst hq
    exact ⟨fun _ => rfl, fun h0 => absurd (by simp) h0⟩, List.pairwise_singleton _ _⟩
/-- The beginning of a call that a row is handed over to. -/
theorem hand_e {f : FuncId} {fn : Func} {code : Code} {vs : List Value} {T k n n' : Nat} {xs xs' : List Value} (hf : C.P.funcs[f]? = some fn) (hb : fn.body = some code) (nt : Nat) (hnt : fn.ntmps = nt) (hk : 0 < k) (hsz : Nat.ble (vs.length + 1) nt = true)
    (h : ∀ (W : World) (a : Option Addr) (c : Nat), n ≤ c → JC C (Bas.hand W a (c * k)) nt none code (Fend C (Bas.hand W a (c * k)) nt fn (PH W a (c * k) T k n' xs')) ⟨mkEnv 0 (.s 0 0 n c :: mapV vs), [.row a T (c * k) xs], []⟩) : ConH C.P f vs T k n xs n' xs' := by
  intro W a ad c hn had hm
  have hd : Den [.row a T (c * k) xs] (.s 0 0 n c) (.slice ad n c) := ⟨_, ad, rfl, rfl, fun h0 => by
    have := had h0
    subst this
    obtain ⟨b, cs, ha, _⟩ := (hm.reg _ (List.mem_singleton.2 rfl)).2 (Nat.mul_ne_zero h0 (by omega))
    exact ⟨b, 0, ha, ha⟩⟩
  exact calls_e (B := Bas.hand W a (c * k)) hf hb nt hnt (by simpa using hsz) (.cons hd (dens_mapV vs)) hm (h W a c hn)
theorem fin_h {w : World} {fn : Func} {e : Exit} {r : ResultVar} {i n c T k m : Nat} {a a0 : Option Addr} {xs : List Value} (he : e = .normal ∨ e = .ret) (hf : fn.results = #[r]) (h : ResE C (Bas.hand w a0 m) nt ⟨env, own, []⟩ r (.s i 0 n c)) (hi : nth own i = some (.row a T (c * k) xs)) (hk : 0 < k) (hn : n ≤ c) :
    FendG C (Bas.hand w a0 m) nt fn (PH w a0 m T k n xs) e ⟨env, own, []⟩ :=
  fin he (rs := [r]) hf (.cons h .nil) fun W hm vs hd => by
    cases hd with
    | cons h1 hd =>
      cases hd
      rw [nth_eq] at hi
      obtain ⟨o, ad, ho, rfl, hc⟩ := h1
      rw [hi] at ho; cases ho
      refine ⟨ad, c, hn, hk, rfl, hm.ext, fun q hq => ?_, List.pairwise_singleton _ _⟩
      rw [List.mem_singleton] at hq; subst hq
      exact row_key hk (hm.at hi) hc
theorem Mem.alone {W : World} (hm : Mem B own W) {i T m : Nat} {a : Option Addr} {xs : List Value} (hi : own[i]? = some (.row a T m xs)) : Mem (Bas.hand W a m) [.row a T m xs] W :=
  ⟨ExtG.refl _, fun q hq => by
    rw [List.mem_singleton] at hq; subst hq
    refine ⟨(hm.at hi).1, fun h0 => ?_⟩
    obtain ⟨b, cs, ha, hfr, h1⟩ := (hm.at hi).2 h0
    exact ⟨b, cs, ha, .inr ⟨h0, _, ha, rfl⟩, h1⟩, List.pairwise_singleton _ _⟩
/-- What was handed over is back. -/
theorem Mem.back {W W' : World} (hm : Mem B own W) {i T m m' T' : Nat} {a a' : Option Addr} {xs xs' : List Value} (hi : own[i]? = some (.row a T m xs)) (h : Mem (Bas.hand W a m) [.row a' T' m' xs'] W') :
    Mem B (own.set i (.dead a) ++ [.row a' T' m' xs']) W' ∧ ∀ b, b < W.heap.size → ¬ (OB.row a T m xs).fp b → W'.heap[b]? = W.heap[b]? := by
  have hreg := hm.at hi
  have hlt := (List.getElem?_eq_some_iff.1 hi).1
  have hsame : ∀ b, b < W.heap.size → ¬ (OB.row a T m xs).fp b → W'.heap[b]? = W.heap[b]? := fun b hb hn => h.ext.block b hb hn
  have hxt : ExtG B W' := hm.ext.turn (f := (OB.row a T m xs).fp) (fun b hb => hreg.fresh hb) h.ext.os h.ext.tape h.ext.output h.ext.size h.ext.drawn hsame
  have hnew := h.reg _ (List.mem_singleton.2 rfl)
  have hfr : ∀ b, (OB.row a' T' m' xs').fp b → W.heap.size ≤ b ∨ (OB.row a T m xs).fp b := fun b hb => hnew.fresh hb
  have hB : ∀ b, (OB.row a' T' m' xs').fp b → B.fresh b := fun b hb => (hfr b hb).elim (fun h1 => .inl (Nat.le_trans hm.ext.size h1)) fun h1 => hreg.fresh h1
  have hk := hm.kill i a
  refine ⟨⟨hxt, fun q hq => ?_, List.pairwise_append.2 ⟨hk.disj, List.pairwise_singleton _ _, fun q hq q' hq' b hb hb' => ?_⟩⟩, hsame⟩
  · rcases List.mem_append.1 hq with hq | hq
    · obtain ⟨j, hj⟩ := List.getElem?_of_mem hq
      by_cases e : i = j
      · subst e; rw [List.getElem?_set_self hlt] at hj; cases hj; trivial
      · rw [List.getElem?_set_ne e] at hj
        exact (hm.at hj).keep hxt h.ext.size fun b hb => hsame b ((hm.at hj).lt hb) fun hn => hm.apart hi hj e b hn hb
    · rw [List.mem_singleton] at hq; subst hq
      refine ⟨hnew.1, fun h0 => ?_⟩
      obtain ⟨b, cs, ha, _, h1⟩ := hnew.2 h0
      exact ⟨b, cs, ha, hB b ⟨h0, _, ha, rfl⟩, h1⟩
  · rw [List.mem_singleton] at hq'; subst hq'
    obtain ⟨j, hj⟩ := List.getElem?_of_mem hq
    by_cases e : i = j
    · subst e; rw [List.getElem?_set_self hlt] at hj; cases hj; exact hb.elim
    · rw [List.getElem?_set_ne e] at hj
      rcases hfr b hb' with h1 | h1
      · have := (hm.at hj).lt hb; omega
      · exact hm.apart hi hj e b h1 hb
/-- A call that a row is handed over to. -/
theorem ox_hand {zs : List Nat} {N : St → Prop} {d : Nat} {ty : TypeId} {pos : String} {af : Array Edge} {g : Option (Nat × Bool)} (f : Nat) {x : Operand} {ys : List Operand} {vs : List Value} {i T k n c n' : Nat} {a : Option Addr} {xs xs' : List Value} {at_ : Array TypeId} (he : Enters C.P f) (hq : quietF f = false) (hc : ConH C.P f vs T k n xs n' xs') (hx : ev env x = some (.s i 0 n c)) (hys : argsV env own ys = some vs) (hi : nth own i = some (.row a T (c * k) xs)) (hni : notIn zs i = true) (hk : 0 < k) (hn : n ≤ c) (hd : Nat.blt d nt = true)
    {ℓ : Nat} (hℓ : idxL own = some ℓ) {own' : Nat → Option Addr → Own} (hw : ∀ c' a', forceK (snoc (own.set i (.dead a)) (.row a' T (c' * k) xs')) some = some (own' c' a')) (hN : ∀ c', n' ≤ c' → ∀ a', N ⟨(d, .s ℓ 0 n' c') :: env, own' c' a', dfs⟩) : OX C B nt zs ⟨some d, .call ⟨.value (.func f), ⟨x :: ys⟩, at_⟩, ty, pos, af, g⟩ N ⟨env, own, dfs⟩ := by
  intro act W Z hr hz nxt Q hnx
  rw [nth_eq] at hi
  obtain ⟨o1, ad, ho1, hxe, hc1⟩ := hr.at hx
  rw [hi] at ho1; cases ho1
  have had : c ≠ 0 → ad = a := fun h0 => by
    obtain ⟨b, lo, hk1, rfl⟩ := hc1 h0
    obtain ⟨b', cs, ha, _⟩ := (hr.mem.at hi).2 (Nat.mul_ne_zero h0 (by omega))
    have : a = some ⟨b, lo, none⟩ := hk1
    rw [this]; rfl
  unfold Oper.wp
  rw [run_call (first := #[]) (cap := #[]) (xs := x :: ys) hr rfl he rfl _ rfl, Oper.upon_enter]
  have hev := argsV_eval hr hys
  rw [show (#[] : Array Value) ++ ((x :: ys).map act.eval).toArray ++ #[] = (.slice ad n c :: vs).toArray by simp [hxe, hev]]
  refine (hc W a ad c hn had (hr.mem.alone hi)).mono ?_
  rintro e W' ⟨a', c', hc', hk0, rfl, hm⟩
  obtain ⟨h3, h6⟩ := hr.mem.back hi hm
  have hℓ := idxL_eq hℓ
  subst hℓ
  have hNx := hN c' hc' a'
  have hww := hw c' a'
  rw [forceK_eq, snoc_eq] at hww
  rw [← Option.some.inj hww] at hNx
  have hno := notIn_spec hni
  refine hnx _ _ _ hNx (hr.put (by simpa using hd) _ _ ((OLe.set (o' := .dead a) hi rfl).trans (OLe.app _ _)) ⟨.row a' T (c' * k) xs', a', by simp, rfl, fun h0 => ?_⟩ h3) ((hz.setne hno).app) (Kept.mk3 hq (fun h => by simp [kind] at h) (fun _ => ⟨h3.ext, hm.ext.size⟩) (fun _ b hb hlt' => h6 b hlt' (hz.apart hr.mem hi hno b hb)))
  obtain ⟨b, cs, ha, _⟩ := (hm.reg _ (List.mem_singleton.2 rfl)).2 (Nat.mul_ne_zero h0 (by omega))
  exact ⟨b, 0, ha, ha⟩
/-- append to a row of nothing. -/
theorem ox_app0 {α : Type} {enc : α → List Value} {k : Nat} (hk : ∀ x, (enc x).length = k) (h1 : ∀ x, (enc x).all Value.oneCell = true) {M : List α} {zs : List Nat} {N : St → Prop} {d : Nat} {ty : TypeId} {pos : String} {af : Array Edge} {g : Option (Nat × Bool)} {x y : Operand} {sT yT e e2 k2 : Nat} {t te ty2 : Ty} {i j off c n2 c2 : Nat} {a : Option Addr} {zs' : List Value} (hd : Nat.blt d nt = true) (hx : ev env x = some (.s i 0 0 c)) (hy : ev env y = some (.s j off n2 c2))
    (hi : nth own i = some (.row a e (c * k) [])) (hni : notIn zs i = true) (ht : C.ent sT = some t) (hs : t.slc = some (e, k)) (he : C.ent e = some te) (hk' : (Nat.blt 0 k && (Nat.beq te.zv.cells.toList.length k && Nat.blt 0 te.bytes)) = true) (hk2 : Nat.ble te.bytes 4096 = true) (ht2 : C.ent yT = some ty2) (hs2 : ty2.slc = some (e2, k2))
    (hj : contAt own j = some zs') (hsub : Sub zs' off (encs enc M)) (hM : M.length = n2) (hnc2 : n2 ≤ c2) (hbd : n2 ≤ 34359738368)
    {ℓ : Nat} (hℓ : idxL own = some ℓ) {own' : Nat → Option Addr → Own} (hw : ∀ c' a', forceK (snoc (own.set i (.dead a)) (.row a' e (c' * k) (encs enc M))) some = some (own' c' a')) (hN : ∀ c', M.length ≤ c' → ∀ a', N ⟨(d, .s ℓ 0 M.length c') :: env, own' c' a', dfs⟩) : OX C B nt zs ⟨some d, .call ⟨.builtin .append, ⟨[x, y]⟩, ⟨[sT, yT]⟩⟩, ty, pos, af, g⟩ N ⟨env, own, dfs⟩ :=
  ox_app hk h1 (L := []) hd hx hy hi hni ht hs he hk' hk2 ht2 hs2 hj hsub hM (Nat.zero_le _) hnc2 (by simpa using hbd) hℓ (own' := own') hw hN
/-- An element of a row is another one. -/
theorem ox_setE {α : Type} {enc : α → List Value} {k : Nat} (hk : ∀ x, (enc x).length = k) (h1 : ∀ x, (enc x).all Value.oneCell = true) {L : List α} (m : Nat) {z : α} {zs : List Nat} {N : St → Prop} {ty : TypeId} {pos : String} {af : Array Edge} {g : Option (Nat × Bool)} {x y : Operand} {T e i off mm : Nat} {t : Ty} {a : Option Addr} {ey : EV} {v : Value} (hx : ev env x = some (.p i off)) (hy : ev env y = some ey) (hval : val own ey = some v) (hvz : v.cells.toList = enc z) (ht : C.ent T = some t) (hts : (Nat.beq t.size k && Nat.blt 0 k) = true) (hi : nth own i = some (.row a e mm (encs enc L))) (hni : notIn zs i = true) (hoff : off = 0 + m * k) (hm : m < L.length)
    {own' : Own} (hw : forceK (own.set i (.row a e mm (encs enc (L.set m z)))) some = some own') (hN : N ⟨env, own', dfs⟩) : OX C B nt zs ⟨none, .store T x y, ty, pos, af, g⟩ N ⟨env, own, dfs⟩ := by
  subst hoff
  simp only [Bool.and_eq_true] at hts
  have h2 := Nat.eq_of_beq_eq_true hts.1
  have h3 : 0 < k := by simpa using hts.2
  have hl : v.cells.toList.length = k := by rw [hvz, hk]
  refine ox_setr (encs enc (L.set m z)) hx hy hval ht hi hni ?_ ?_ (by rw [hvz]; exact encs_set hk hm) hw hN
  · rw [hl, h2, hvz]
    simp [h1, h3]
  · rw [hl, encs_len hk, Nat.zero_add, ← Nat.succ_mul]
    exact Nat.mul_le_mul_right k hm
end rules
end Go.Proofs.YtpfjolckhlgodaaDoor
