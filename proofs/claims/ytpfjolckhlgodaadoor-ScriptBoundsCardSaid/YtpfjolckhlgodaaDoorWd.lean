/- Results of a call, and regions whose order is open: over XWc. -/
import Derived.Test.YtpfjolckhlgodaaDoorWc
namespace Go.Proofs.YtpfjolckhlgodaaDoor
open Go Go.RowKit
section rules
variable {C : Ctx} {B : Bas} {nt : Nat} {ρ : Option Nat} {env : Env} {own : Own} {dfs : List Deferred} {K : Exit → St → Prop} {σ : St}

/-! ### results -/
def resOf (tmps : Array Value) : ResultVar → Sem Value
  | .tmp t => pure (tmps.getD t undef)
  | .cell a t => do loadVar t (← asAddr (tmps.getD a undef))
theorem results_eq (fn : Func) (tmps : Array Value) : results fn tmps = (do
    let vs ← fn.results.mapM (resOf tmps)
    pure (if h : vs.size = 1 then vs[0] else .tuple vs)) := by
  unfold results
  have : (fun (x : ResultVar) => match x with
    | .tmp t => pure (tmps.getD t undef)
    | .cell a t => do loadVar t (← asAddr (tmps.getD a undef))) = resOf tmps := by
    funext x; cases x <;> rfl
  rw [← this]
  rfl
/-- What a result is said to be. -/
def ResE (C : Ctx) (B : Bas) (nt : Nat) (σ : St) (r : ResultVar) (e : EV) : Prop := ∀ a W, Rel B nt σ a W → ∃ v, Den σ.own e v ∧ (resOf a.tmps r).run C.P W = .ok v W
def resV (C : Ctx) (env : Env) (own : Own) : ResultVar → Option EV
  | .tmp t => eget env t
  | .cell x T => match eget env x with
    | some e => match loadV C own T e with
      | some (.v v) => some (.v v)
      | _ => none
    | none => none
theorem rise {r : ResultVar} {e : EV} (h : resV C env own r = some e) : ResE C B nt ⟨env, own, dfs⟩ r e := fun a W hr => by
  unfold resV at h
  split at h
  · rename_i t
    exact ⟨_, hr.env _ e h, rfl⟩
  · rename_i x T
    split at h
    · rename_i e he
      split at h
      · rename_i v' hl
        cases h
        have hd := hr.env _ e he
        have hp := pure_sound (C := C) (B := B) (nt := nt) (env := (x, e) :: env) (own := own) (dfs := dfs) (op := .load T (.tmp x)) (e := .v v') (by simp only [pureV, ev, eget, Nat.beq_refl, cond_true]; exact hl) (dst := none) (ty := 0) (pos := "") (af := ⟨[]⟩) (g := none)
        obtain ⟨u, hu, hrun⟩ := hp a W ⟨hr.size, hr.defers, fun d e' h' => by
          by_cases c : x = d
          · subst c; rw [eget_cons_self] at h'; cases h'; exact hd
          · rw [eget_cons_ne c] at h'; exact hr.env d e' h', hr.mem⟩
        refine ⟨u, hu, ?_⟩
        cases e with
        | v y => simp [loadV] at hl
        | s i off n c => simp [loadV] at hl
        | p i off =>
          obtain ⟨ob, b, lo, hb, hk, hpt⟩ := hd
          have he1 : a.eval (.tmp x) = .pointer (some ⟨b, lo + off, none⟩) := hpt
          have hrun := hrun W hr.mem
          simp only [execOp, he1, Instr.loadAt, Instr.sureAddr, Sem.run_bind, Sem.run_pure, Result.andThen_ok] at hrun
          simp only [resOf, hpt, asAddr, Sem.run_bind, Sem.run_pure, Result.andThen_ok]
          cases hq : (loadVar T ⟨b, lo + off, none⟩).run C.P W with
          | ok y w' =>
            rw [hq] at hrun
            simp only [Result.andThen_ok] at hrun
            cases hrun
            rfl
          | halt y w' => rw [hq] at hrun; cases hrun
      · cases h
    · cases h
def ResIs (C : Ctx) (B : Bas) (nt : Nat) (σ : St) (r : ResultVar) (v : Value) : Prop := ResE C B nt σ r (.v v)
theorem ris {r : ResultVar} {v : Value} (h : resV C env own r = some (.v v)) : ResIs C B nt ⟨env, own, dfs⟩ r v := rise h
inductive ResL (C : Ctx) (B : Bas) (nt : Nat) (σ : St) : List ResultVar → List EV → Prop
  | nil : ResL C B nt σ [] []
  | cons {r e rs es} : ResE C B nt σ r e → ResL C B nt σ rs es → ResL C B nt σ (r :: rs) (e :: es)
theorem ResL.run {rs : List ResultVar} {es : List EV} (h : ResL C B nt σ rs es) {a : Act} {W : World} (hr : Rel B nt σ a W) : ∃ vs, Dens σ.own es vs ∧ (rs.mapM (resOf a.tmps)).run C.P W = .ok vs W := by
  induction h with
  | nil => exact ⟨[], .nil, rfl⟩
  | cons h1 _ ih =>
    obtain ⟨v, hv, hrun⟩ := h1 a W hr
    obtain ⟨vs, hvs, hruns⟩ := ih
    exact ⟨v :: vs, .cons hv hvs, by simp [List.mapM_cons, hrun, hruns]⟩
def tupOf : List Value → Value
  | [v] => v
  | vs => .tuple vs.toArray
abbrev Fend (C : Ctx) (B : Bas) (nt : Nat) (fn : Func) (R : Ending → World → Prop) (e : Exit) (σ : St) : Prop := FendG C B nt fn R e σ
theorem fin {fn : Func} {R : Ending → World → Prop} {e : Exit} (he : e = .normal ∨ e = .ret) {rs : List ResultVar} {es : List EV} (hf : fn.results = ⟨rs⟩) (h : ResL C B nt ⟨env, own, []⟩ rs es) (hR : ∀ W, Mem B own W → ∀ vs, Dens own es vs → R (.returned (tupOf vs)) W) : FendG C B nt fn R e ⟨env, own, []⟩ := by
  refine ⟨he, fun a W hr => ?_⟩
  obtain ⟨vs, hvs, hrun⟩ := h.run hr
  rw [hr.defers]
  show ∃ v, (results fn a.tmps).run C.P W = .ok v W ∧ R (.returned v) W
  refine ⟨tupOf vs, ?_, hR W hr.mem vs hvs⟩
  rw [results_eq, hf, Sem.run_bind]
  have : Sem.run C.P ((⟨rs⟩ : Array ResultVar).mapM (resOf a.tmps)) W = .ok vs.toArray W := by
    rw [show (⟨rs⟩ : Array ResultVar) = rs.toArray from rfl, List.mapM_toArray]
    simp [hrun]
  rw [this, Result.andThen_ok, Sem.run_pure]
  match vs with
  | [] => rfl
  | [v] => rfl
  | _ :: _ :: _ => simp [tupOf]
theorem fin0 {fn : Func} {R : Ending → World → Prop} {e : Exit} (he : e = .normal ∨ e = .ret) (hf : fn.results = #[]) (hR : ∀ W, Mem B own W → R (.returned (.tuple #[])) W) : FendG C B nt fn R e ⟨env, own, []⟩ :=
  fin he (rs := []) hf .nil fun W hm vs hd => by cases hd; exact hR W hm
theorem fin1 {fn : Func} {R : Ending → World → Prop} {e : Exit} {r : ResultVar} {v : Value} (he : e = .normal ∨ e = .ret) (hf : fn.results = #[r]) (h : ResIs C B nt ⟨env, own, []⟩ r v) (hR : ∀ W, Mem B own W → R (.returned v) W) : FendG C B nt fn R e ⟨env, own, []⟩ :=
  fin he (rs := [r]) hf (.cons h .nil) fun W hm vs hd => by
    cases hd with
    | cons h1 hd => cases hd; cases h1; exact hR W hm
theorem fin2 {fn : Func} {R : Ending → World → Prop} {e : Exit} {r s : ResultVar} {v u : Value} (he : e = .normal ∨ e = .ret) (hf : fn.results = #[r, s]) (h : ResIs C B nt ⟨env, own, []⟩ r v) (h' : ResIs C B nt ⟨env, own, []⟩ s u) (hR : ∀ W, Mem B own W → R (.returned (.tuple #[v, u])) W) : FendG C B nt fn R e ⟨env, own, []⟩ :=
  fin he (rs := [r, s]) hf (.cons h (.cons h' .nil)) fun W hm vs hd => by
    cases hd with
    | cons h1 hd => cases hd with
      | cons h2 hd => cases hd; cases h1; cases h2; exact hR W hm
theorem fin3 {fn : Func} {R : Ending → World → Prop} {e : Exit} {r s q : ResultVar} {v u x : Value} (he : e = .normal ∨ e = .ret) (hf : fn.results = #[r, s, q]) (h : ResIs C B nt ⟨env, own, []⟩ r v) (h' : ResIs C B nt ⟨env, own, []⟩ s u) (h'' : ResIs C B nt ⟨env, own, []⟩ q x) (hR : ∀ W, Mem B own W → R (.returned (.tuple #[v, u, x])) W) : FendG C B nt fn R e ⟨env, own, []⟩ :=
  fin he (rs := [r, s, q]) hf (.cons h (.cons h' (.cons h'' .nil))) fun W hm vs hd => by
    cases hd with
    | cons h1 hd => cases hd with
      | cons h2 hd => cases hd with
        | cons h3 hd => cases hd; cases h1; cases h2; cases h3; exact hR W hm
theorem fin_pv {w : World} {v v0 : Value} (h : v = v0) : ∀ W, Mem (Bas.of w) own W → PV w v0 (.returned v) W := fun _ hm => ⟨by rw [h], hm.ext.to⟩
/-- The result is a row of the call's own. -/
theorem fin_s {w : World} {fn : Func} {e : Exit} {r : ResultVar} {i n c T k : Nat} {a : Option Addr} {xs : List Value} (he : e = .normal ∨ e = .ret) (hf : fn.results = #[r]) (h : ResE C (Bas.of w) nt ⟨env, own, []⟩ r (.s i 0 n c)) (hi : nth own i = some (.row a T (c * k) xs)) (hk : 0 < k) (hn : n ≤ c) :
    FendG C (Bas.of w) nt fn (PS T k n xs w) e ⟨env, own, []⟩ :=
  fin he (rs := [r]) hf (.cons h .nil) fun W hm vs hd => by
    cases hd with
    | cons h1 hd =>
      cases hd
      rw [nth_eq] at hi
      obtain ⟨o, ad, ho, rfl, hc⟩ := h1
      rw [hi] at ho; cases ho
      refine ⟨ad, c, hn, hk, rfl, hm.ext, fun q hq => ?_, List.pairwise_singleton _ _⟩
      rw [List.mem_singleton] at hq; subst hq
      have hreg := hm.at hi
      by_cases h0 : c = 0
      · subst h0
        have := hreg.1 (by simp)
        subst this
        exact ⟨fun _ => rfl, fun h0 => absurd (by simp) h0⟩
      · obtain ⟨b, lo, hk1, rfl⟩ := hc h0
        obtain ⟨b', cs, ha, _⟩ := hreg.2 (Nat.mul_ne_zero h0 (by omega))
        have : (⟨b, lo, none⟩ : Addr) = ⟨b', 0, none⟩ := Option.some.inj (hk1.symm.trans ha)
        cases this
        rw [ha] at hreg
        exact hreg

/-! ### regions whose order is open -/
/-- What may turn is left out. -/
def mask (zs : List Nat) : Nat → Own → Own
  | _, [] => []
  | k, o :: r => (match o with
    | .ro a xs => .ro a xs
    | o => bif zs.any (Nat.beq k) then o else .dead o.key) :: mask zs (k + 1) r
def blkIdx : Nat → Own → List Nat
  | _, [] => []
  | k, .blk _ _ _ :: r => k :: blkIdx (k + 1) r
  | k, _ :: r => blkIdx (k + 1) r
theorem mask_at (zs : List Nat) : ∀ (own : Own) (k j : Nat), (mask zs k own)[j]? = (own[j]?).map fun o => match o with
    | .ro a xs => .ro a xs
    | o => bif zs.any (Nat.beq (k + j)) then o else .dead o.key
  | [], k, j => by simp [mask]
  | o :: r, k, 0 => by simp [mask]
  | o :: r, k, j + 1 => by
    have := mask_at zs r (k + 1) j
    simp only [mask, List.getElem?_cons_succ, this, show k + 1 + j = k + (j + 1) by omega]
theorem mask_cases (zs : List Nat) {own : Own} {j : Nat} {q : OB} (h : (mask zs 0 own)[j]? = some q) : ∃ o, own[j]? = some o ∧ q.key = o.key ∧ ((q = o ∧ ((∃ a xs, o = .ro a xs) ∨ j ∈ zs)) ∨ q = .dead o.key) := by
  rw [mask_at] at h
  cases ho : own[j]? with
  | none => rw [ho] at h; cases h
  | some o =>
    rw [ho] at h
    simp only [Option.map_some, Option.some.injEq, Nat.zero_add] at h
    refine ⟨o, rfl, ?_⟩
    cases hz : zs.any (Nat.beq j) with
    | true =>
      have hj : j ∈ zs := by
        obtain ⟨x, hx, he⟩ := List.any_eq_true.1 hz
        have : j = x := Nat.eq_of_beq_eq_true he
        rw [this]; exact hx
      cases o <;> simp [hz] at h <;> subst h <;> exact ⟨rfl, .inl ⟨rfl, .inr hj⟩⟩
    | false =>
      cases o with
      | ro a xs => simp at h; subst h; exact ⟨rfl, .inl ⟨rfl, .inl ⟨_, _, rfl⟩⟩⟩
      | _ => simp [hz] at h; subst h; exact ⟨rfl, .inr rfl⟩
theorem Mem.mask {W : World} (h : Mem B own W) (zs : List Nat) : Mem B (mask zs 0 own) W := by
  refine ⟨h.ext, fun q hq => ?_, pairwise_of fun i j q q' hi hj hne => ?_⟩
  · obtain ⟨j, hj⟩ := List.getElem?_of_mem hq
    obtain ⟨o, ho, _, ⟨rfl, _⟩ | rfl⟩ := mask_cases zs hj
    · exact h.at ho
    · trivial
  · obtain ⟨o, ho, _, h1⟩ := mask_cases zs hi
    obtain ⟨o', ho', _, h2⟩ := mask_cases zs hj
    rcases h1 with ⟨rfl, _⟩ | rfl
    · rcases h2 with ⟨rfl, _⟩ | rfl
      · exact h.apart ho ho' hne
      · exact fun _ _ hf => hf.elim
    · exact fun _ hf => hf.elim
theorem mask_le (zs : List Nat) : OLe own (Go.Proofs.YtpfjolckhlgodaaDoor.mask zs 0 own) := fun i o hi => by
  cases hq : (Go.Proofs.YtpfjolckhlgodaaDoor.mask zs 0 own)[i]? with
  | none => rw [mask_at, hi] at hq; cases hq
  | some q =>
    obtain ⟨o', ho', hk, _⟩ := mask_cases zs hq
    rw [hi] at ho'; cases ho'
    exact ⟨q, rfl, hk⟩
theorem mask_ge (zs : List Nat) : OLe (Go.Proofs.YtpfjolckhlgodaaDoor.mask zs 0 own) own := fun i q hq => by
  obtain ⟨o, ho, hk, _⟩ := mask_cases zs hq
  exact ⟨o, ho, hk.symm⟩
theorem Rel.mask {a : Act} {W : World} (h : Rel B nt ⟨env, own, dfs⟩ a W) (zs : List Nat) : Rel B nt ⟨env, Go.Proofs.YtpfjolckhlgodaaDoor.mask zs 0 own, dfs⟩ a W := h.keep (mask_le zs) (h.mem.mask zs)
/-- Which part of the memory is looked at. 0: what was there; 1: the regions zs, too; 2: all. -/
def memF (f : Nat) (zs : List Nat) (own : Own) : Own := match f with
  | 0 => mask [] 0 own
  | 1 => mask zs 0 own
  | _ => own
theorem memF_le (f : Nat) (zs : List Nat) : OLe own (memF f zs own) := by
  unfold memF; split
  · exact mask_le _
  · exact mask_le _
  · exact OLe.refl _
theorem memF_ge (f : Nat) (zs : List Nat) : OLe (memF f zs own) own := by
  unfold memF; split
  · exact mask_ge _
  · exact mask_ge _
  · exact OLe.refl _
theorem Mem.memF {W : World} (h : Mem B own W) (f : Nat) (zs : List Nat) : Mem B (Go.Proofs.YtpfjolckhlgodaaDoor.memF f zs own) W := by
  unfold Go.Proofs.YtpfjolckhlgodaaDoor.memF; split
  · exact h.mask _
  · exact h.mask _
  · exact h
theorem mask_kept {zs : List Nat} {Z : Nat → Prop} {o : Op} {W W' : World} (hz : ZOk own zs Z) (hk : Kept B Z o W W') (h1 : zs = [] ∨ kind o ≤ 1) (hm : Mem B (mask zs 0 own) W) : Mem B (mask zs 0 own) W' := by
  obtain ⟨hx, hs⟩ := hk.2.1 hm.ext
  refine ⟨hx, fun q hq => (hm.reg q hq).keep hx hs fun b hqb => ?_, hm.disj⟩
  obtain ⟨j, hj⟩ := List.getElem?_of_mem hq
  obtain ⟨o', ho', _, h2⟩ := mask_cases zs hj
  rcases h2 with ⟨rfl, ⟨a, xs, rfl⟩ | hjz⟩ | rfl
  · exact hqb.elim
  · have h1 : kind o ≤ 1 := h1.resolve_left fun e => by rw [e] at hjz; cases hjz
    rcases Nat.lt_or_ge (kind o) 1 with h0 | h0
    · rw [hk.1 (by omega)]
    · exact hk.2.2 (by omega) b (.inl ((hz.2 b).2 ⟨j, hjz, _, ho', hqb⟩)) ((hm.reg _ hq).lt hqb)
  · exact hqb.elim
/-- Beside which operations that part stays as it is. -/
def calmK (f : Nat) (o : Op) : Bool := match f with
  | 0 => true
  | 1 => Nat.ble (kind o) 1
  | _ => Nat.beq (kind o) 0 || isNew o
theorem isNew_kind {o : Op} (h : isNew o = true) : kind o = 1 := by
  cases o with
  | call c =>
    simp only [isNew] at h
    split at h
    · rename_i hc
      simp only [kind, hc]
    · cases h
  | _ => first | rfl | cases h
theorem memF_kept {f : Nat} {zs : List Nat} {Z : Nat → Prop} {o : Op} {W W' : World} (hz : ZOk own zs Z) (hk : Kept B Z o W W') (h1 : calmK f o = true) (hm : Mem B (memF f zs own) W) : Mem B (memF f zs own) W' := by
  unfold memF calmK at *
  split at hm
  · refine mask_kept (Z := fun _ => False) (ZOk.none own) ⟨hk.1, hk.2.1, fun h1 b h hl => h.elim (fun h => h.elim) fun h => hk.2.2 h1 b (.inr h) hl⟩ (.inl rfl) hm
  · exact mask_kept hz hk (.inr (Nat.le_of_ble_eq_true h1)) hm
  · rename_i h2 h3
    split at h1
    · exact absurd rfl h2
    · exact absurd rfl h3
    · rcases Bool.or_eq_true_iff.1 h1 with h1 | h1
      · rw [hk.1 (Nat.eq_of_beq_eq_true h1)]; exact hm
      · obtain ⟨hx, hs⟩ := hk.2.1 hm.ext
        exact ⟨hx, fun q hq => (hm.reg q hq).keep hx hs fun b hqb => hk.2.2 (isNew_kind h1) b (.inr h1) ((hm.reg q hq).lt hqb), hm.disj⟩
end rules

/-- In which order the operations of a region whose order is open are looked at, and how much memory is looked at for those that turn nothing; a fork where two that change the world are ready at once. -/
inductive Ord | nil | step (f i : Nat) (r : Ord) | fork (r s : Ord)
def Ord.ofList : List Nat → Ord
  | [] => .nil
  | i :: r => .step 1 i (ofList r)
inductive JO (C : Ctx) (B : Bas) (nt : Nat) (ops : Array Oper) (zs : List Nat) (K : Exit → St → Prop) : Ord → St → Prop
  | nil {σ} : K .normal σ → JO C B nt ops zs K .nil σ
  | val {f i r o d e env own dfs} : nth ops.toList i = some o → o.dst = some d → d < nt → kind o.op = 0 → (∀ a W, Rel B nt ⟨env, own, dfs⟩ a W → Region.wanted o (yielded ops a.tmps) = true) → OV C B nt o e ⟨env, memF f zs own, dfs⟩ → JO C B nt ops zs K r ⟨(d, e) :: env, own, dfs⟩ → JO C B nt ops zs K (.step f i r) ⟨env, own, dfs⟩
  | eff {f i r o N σ} : nth ops.toList i = some o → kind o.op ≠ 0 → (∀ a W, Rel B nt σ a W → Region.wanted o (yielded ops a.tmps) = true) → OX C B nt zs o N σ → (∀ σ', N σ' → JO C B nt ops zs K r σ') → JO C B nt ops zs K (.step f i r) σ
  | skip {f i r o d env own dfs} : nth ops.toList i = some o → o.dst = some d → d < nt → (∀ a W, Rel B nt ⟨env, own, dfs⟩ a W → Region.wanted o (yielded ops a.tmps) = false) → JO C B nt ops zs K r ⟨(d, .v (.tuple ⟨[]⟩)) :: env, own, dfs⟩ → JO C B nt ops zs K (.step f i r) ⟨env, own, dfs⟩
  | split {l g b env own dfs} : eget env g = some (.v (.bool b)) → (b = true → JO C B nt ops zs K l ⟨(g, .v (.bool true)) :: env, own, dfs⟩) → (b = false → JO C B nt ops zs K l ⟨(g, .v (.bool false)) :: env, own, dfs⟩) → JO C B nt ops zs K l ⟨env, own, dfs⟩
  | weak {l σ} {ι : Type} (τ : ι → St) : (∀ a W, Rel B nt σ a W → ∃ i, Rel B nt (τ i) a W) → (∀ i Z, ZOk σ.own zs Z → ZOk (τ i).own zs Z) → (∀ i, JO C B nt ops zs K l (τ i)) → JO C B nt ops zs K l σ
  | fork {r s σ} : JO C B nt ops zs K r σ → JO C B nt ops zs K s σ → JO C B nt ops zs K (.fork r s) σ
section rules
variable {C : Ctx} {B : Bas} {nt : Nat} {ρ : Option Nat} {env : Env} {own : Own} {dfs : List Deferred} {K : Exit → St → Prop} {σ : St}
def KeptI (B : Bas) (Z : Nat → Prop) (ops : Array Oper) (i : Nat) (w w' : World) : Prop := match ops[i]? with
  | some o => Kept B Z o.op w w'
  | none => w' = w
def wpAnyG (B : Bas) (Z : Nat → Prop) (P : Program) (md : Region.Mode) (ops : Array Oper) (Q : Exit → Act → World → Prop) : Nat → Array Bool → Act → World → Prop
  | 0, listed, a, w => Region.ready md ops listed = [] ∧ Q .normal a w
  | fuel + 1, listed, a, w =>
    (Region.ready md ops listed = [] → Q .normal a w) ∧
    ∀ i ∈ Region.ready md ops listed, wpOp P ops Q i (fun a' w' => KeptI B Z ops i w w' ∧ wpAnyG B Z P md ops Q fuel (listed.setIfInBounds i true) a' w') a w
theorem wpAny_of_G {Z : Nat → Prop} {P : Program} {ops : Array Oper} {Q : Exit → Act → World → Prop} {md : Region.Mode} : ∀ (fuel : Nat) (listed : Array Bool) (a : Act) (w : World), wpAnyG B Z P md ops Q fuel listed a w → wpAny P md ops Q fuel listed a w
  | 0, _, _, _, h => h
  | fuel + 1, _, _, _, h => ⟨h.1, fun i hi => wpOp_mono (fun a' w' h' => wpAny_of_G fuel _ a' w' h'.2) (h.2 i hi)⟩

/-- j waits for i, at once or through others. -/
inductive Anc (md : Region.Mode) (ops : Array Oper) : Nat → Nat → Prop
  | edge {j i : Nat} {o : Oper} {e : Edge} : ops[j]? = some o → e ∈ o.after → Region.binds md e = true → e.on = i → Anc md ops j i
  | trans {j i : Nat} {o : Oper} {e : Edge} : ops[j]? = some o → e ∈ o.after → Region.binds md e = true → Anc md ops e.on i → Anc md ops j i
def Closed (md : Region.Mode) (ops : Array Oper) (listed : Array Bool) : Prop := ∀ j o e, listed.getD j false = true → ops[j]? = some o → e ∈ o.after → Region.binds md e = true → listed.getD e.on false = true
theorem Closed.anc {md : Region.Mode} {ops : Array Oper} {listed : Array Bool} (hc : Closed md ops listed) {j i : Nat} (h : Anc md ops j i) : (∀ o e, ops[j]? = some o → e ∈ o.after → Region.binds md e = true → listed.getD e.on false = true) → listed.getD i false = true := by
  induction h with
  | edge ho he hb hi => intro hr; subst hi; exact hr _ _ ho he hb
  | trans ho he hb _ ih => intro hr; exact ih fun o' e' ho' he' hb' => hc _ _ _ (hr _ _ ho he hb) ho' he' hb'
theorem Closed.set {md : Region.Mode} {ops : Array Oper} {listed : Array Bool} (hc : Closed md ops listed) {i : Nat} (hi : i ∈ Region.ready md ops listed) : Closed md ops (listed.setIfInBounds i true) := by
  intro j o e hj ho he hb
  obtain ⟨h0, oi, hoi, hall⟩ := mem_ready.1 hi
  refine getD_set_true ?_
  by_cases hji : i = j
  · subst hji
    rw [hoi] at ho; cases ho
    exact hall e he hb
  · exact hc j o e (by rw [getD_set_ne false hji] at hj; exact hj) ho he hb
def ancB (ops : Array Oper) : Nat → Nat → Nat → Bool
  | 0, _, _ => false
  | f + 1, j, i => match ops[j]? with
    | some o => o.after.any fun e => Region.binds .any e && (e.on == i || ancB ops f e.on i)
    | none => false
theorem ancB_spec {ops : Array Oper} : ∀ {f j i : Nat}, ancB ops f j i = true → Anc .any ops j i
  | 0, _, _, h => by simp [ancB] at h
  | f + 1, j, i, h => by
    unfold ancB at h
    split at h
    · rename_i o ho
      obtain ⟨e, he, hb⟩ := Array.any_eq_true'.1 h
      simp only [Bool.and_eq_true, Bool.or_eq_true, beq_iff_eq] at hb
      rcases hb.2 with h1 | h1
      · exact .edge ho he hb.1 h1
      · exact .trans ho he hb.1 (ancB_spec h1)
    · cases h

theorem wpAnyG_first {Z : Nat → Prop} {P : Program} {ops : Array Oper} {Q : Exit → Act → World → Prop} {md : Region.Mode} {T : World → Prop} {i : Nat} {oi : Oper} {v : Value} (hi : ops[i]? = some oi) (hsel : ∀ (j : Nat) (o : Oper) cs b, ops[j]? = some o → o.op ≠ .select cs b)
    (hQ : ∀ c a w, Q (.panic c) (a.put oi.dst v) w → Q (.panic c) a w) :
    ∀ (fuel : Nat) (listed : Array Bool) (a : Act) (w : World),
      (∀ j oj, ops[j]? = some oj → j ≠ i → listed.getD j true = false → ¬ Anc md ops j i → oi.apart ops oj = true ∧ ∀ w w', Kept B Z oj.op w w' → T w → T w') → Closed md ops listed →
      i ∈ Region.ready md ops listed → YieldsIf P ops T oi v a → T w →
      wpAnyG B Z P md ops Q fuel (listed.setIfInBounds i true) (a.put oi.dst v) w → wpAnyG B Z P md ops Q (fuel + 1) listed a w := by
  have hkeep : ∀ w, KeptI B Z ops i w w := fun w => by unfold KeptI; rw [hi]; exact Kept.same
  intro fuel
  induction fuel with
  | zero =>
    intro listed a w _ _ hr hy hS H
    refine ⟨fun h => (by rw [h] at hr; cases hr), fun j hj => ?_⟩
    by_cases hji : j = i
    · subst hji; exact hy.wpOp hi hS ⟨hkeep w, H⟩
    · have := ready_mono hj hji
      rw [H.1] at this
      cases this
  | succ fuel ih =>
    intro listed a w hfree hcl hr hy hS H
    refine ⟨fun h => (by rw [h] at hr; cases hr), fun j hj => ?_⟩
    by_cases hji : j = i
    · subst hji; exact hy.wpOp hi hS ⟨hkeep w, H⟩
    · have h1 := H.2 j (ready_mono hj hji)
      obtain ⟨hjun, oj, hoj, hall⟩ := mem_ready.1 hj
      have hnot : ¬ Anc md ops j i := fun hanc => by
        have h1 := hcl.anc hanc (fun o e ho he hb => by rw [hoj] at ho; cases ho; exact hall e he hb)
        have h0 := (mem_ready.1 hr).1
        rcases Nat.lt_or_ge i listed.size with h' | h'
        · simp [h'] at h0 h1; rw [h0] at h1; cases h1
        · simp [Array.getElem?_eq_none h'] at h1
      have hst := hfree j oj hoj hji hjun hnot
      have h2 := wpOp_putIf hoj hst.1 (fun cs b => hsel i oi cs b hi) (fun cs b => hsel j oj cs b hoj) hQ hy h1
      have hfree' : ∀ k ok, ops[k]? = some ok → k ≠ i → (listed.setIfInBounds j true).getD k true = false →
          ¬ Anc md ops k i → oi.apart ops ok = true ∧ ∀ w w', Kept B Z ok.op w w' → T w → T w' := fun k ok hk hki hun hno => by
        refine hfree k ok hk hki ?_ hno
        by_cases hjk : j = k
        · subst hjk; exact hjun
        · rw [getD_set_ne true hjk] at hun; exact hun
      refine wpOp_mono (fun a' w' h3 => ?_) h2
      have hT : T w' := hst.2 w w' (by have := h3.2.1; unfold KeptI at this; rw [hoj] at this; exact this) hS
      refine ⟨h3.2.1, ih (listed.setIfInBounds j true) a' w' hfree' (hcl.set hj) (ready_mono hr (Ne.symm hji)) h3.1 hT ?_⟩
      rw [Array.setIfInBounds_comm _ _ hji]
      exact h3.2.2

/-- What may come up beside number i leaves what it looks at. -/
def calmBeside (f : Nat) (ops : Array Oper) (listed : Array Bool) (i : Nat) : Bool :=
  (List.range ops.size).all fun j => j == i || listed.getD j true || match ops[j]? with
    | some oj => ancB ops 3 j i || calmK f oj.op
    | none => true
def effNext (ops : Array Oper) : Ord → List Nat
  | .step _ i _ => match ops[i]? with
    | some o => if kind o.op = 0 then [] else [i]
    | none => []
  | .fork r s => effNext ops r ++ effNext ops s
  | .nil => []
def drawGo (ops : Array Oper) : Nat → Array Bool → List Nat → Ord → Bool
  | 0, listed, _, .nil => (Region.ready .any ops listed).isEmpty
  | n, listed, al, .fork r s => ((effNext ops s).all fun i => !(effNext ops r).contains i) && (drawGo ops n listed (effNext ops s ++ al) r && drawGo ops n listed (effNext ops r ++ al) s)
  | n + 1, listed, al, .step f i r =>
    (match ops[i]? with
     | some o => if kind o.op = 0 then al.isEmpty && (Region.ready .any ops listed).contains i && Region.free .any ops listed i && calmBeside f ops listed i else (Region.ready .any ops listed).contains i && (Region.ready .any ops listed).all fun j => j == i || al.contains j
     | none => false) && drawGo ops n (listed.setIfInBounds i true) [] r
  | _, _, _, _ => false
def drawOk (ops : Array Oper) (ord : Ord) : Bool := Region.noSelect ops && (ops.all fun o => noDefer o.op) && drawGo ops ops.size (Array.replicate ops.size false) [] ord

/-- One step of the run, whatever is ready but not set aside in 'al'. -/
def stepG (B : Bas) (Z : Nat → Prop) (P : Program) (ops : Array Oper) (Q : Exit → Act → World → Prop) (n : Nat) (listed : Array Bool) (al : List Nat) (a : Act) (w : World) : Prop :=
  match n with
  | 0 => Region.ready .any ops listed = [] ∧ Q .normal a w
  | n + 1 => Region.ready .any ops listed ≠ [] ∧ ∀ i ∈ Region.ready .any ops listed, i ∈ al ∨ wpOp P ops Q i (fun a' w' => KeptI B Z ops i w w' ∧ wpAnyG B Z P .any ops Q n (listed.setIfInBounds i true) a' w') a w
theorem stepG_nil {Z : Nat → Prop} {P : Program} {ops : Array Oper} {Q : Exit → Act → World → Prop} : ∀ {n : Nat} {listed : Array Bool} {a : Act} {w : World}, stepG B Z P ops Q n listed [] a w → wpAnyG B Z P .any ops Q n listed a w
  | 0, _, _, _, h => h
  | _ + 1, _, _, _, h => ⟨fun hr => absurd hr h.1, fun i hi => (h.2 i hi).resolve_left (by simp)⟩

theorem jo_sound {ops : Array Oper} {zs : List Nat} {Z : Nat → Prop} {K : Exit → St → Prop} (hsel : Region.noSelect ops = true) {ord : Ord} {σ : St} (h : JO C B nt ops zs K ord σ) : ∀ (n : Nat) (listed : Array Bool) (al : List Nat), Closed .any ops listed → drawGo ops n listed al ord = true → ∀ a W, Rel B nt σ a W → ZOk σ.own zs Z → stepG B Z C.P ops (Lift B nt K) n listed al a W := by
  induction h with
  | nil hK =>
    intro n listed al hcl hgo a W hr hz
    cases n with
    | zero =>
      simp only [drawGo, List.isEmpty_iff] at hgo
      exact ⟨hgo, trivial, _, hK, hr⟩
    | succ n => simp [drawGo] at hgo
  | @val f i r o d e env own dfs hi0 hdst hd hk hw hy hN ih =>
    intro n listed al hcl hgo a W hr hz
    have hi : ops[i]? = some o := by rw [nth_eq] at hi0; simpa using hi0
    cases n with
    | zero => simp [drawGo] at hgo
    | succ n =>
    simp only [drawGo, hi, hk, if_true, Bool.and_eq_true, List.isEmpty_iff] at hgo
    obtain ⟨⟨⟨⟨h0, h1⟩, h2⟩, h3⟩, h4⟩ := hgo
    subst h0
    obtain ⟨v, hv, hrun⟩ := hy a W (hr.keep (memF_le f zs) (hr.mem.memF f zs))
    have hv' : Den own e v := hv.le (memF_ge f zs)
    have hyif : YieldsIf C.P ops (Mem B (memF f zs own)) o v a := .inl ⟨hw a W hr, hrun⟩
    have h1' : i ∈ Region.ready .any ops listed := by simpa using h1
    have hall : wpAnyG B Z C.P .any ops (Lift B nt K) (n + 1) listed a W := by
      refine wpAnyG_first (T := Mem B (memF f zs own)) (v := v) hi (Region.noSelect_spec hsel) (fun _ _ _ h => h.1.elim) _ _ _ _ ?_ hcl h1' hyif (hr.mem.memF f zs) ?_
      · intro j oj hj hne hun hno
        refine ⟨Region.free_spec hi h2 j oj hj hne hun (fun e he hb hon => hno (.edge hj he hb hon)), fun w w' hkw hm => ?_⟩
        simp only [calmBeside, List.all_eq_true, List.mem_range] at h3
        have h5 := h3 j (Array.getElem?_eq_some_iff.1 hj).1
        simp only [hj, Bool.or_eq_true, beq_iff_eq, hne, false_or, hun, Bool.false_eq_true] at h5
        rcases h5 with h5 | h5
        · exact absurd (ancB_spec h5) hno
        · exact memF_kept hz hkw h5 hm
      · rw [hdst]
        exact stepG_nil (ih _ _ [] (hcl.set h1') h4 _ _ (hr.put hd e v (OLe.refl _) hv' hr.mem) hz)
    exact ⟨fun h0 => (by rw [h0] at h1'; cases h1'), fun j hj => .inr (hall.2 j hj)⟩
  | @eff f i r o N σ hi0 hk hw hx hN ih =>
    intro n listed al hcl hgo a W hr hz
    have hi : ops[i]? = some o := by rw [nth_eq] at hi0; simpa using hi0
    cases n with
    | zero => simp [drawGo] at hgo
    | succ n =>
    simp only [drawGo, hi, hk, if_false, Bool.and_eq_true, List.all_eq_true, Bool.or_eq_true, beq_iff_eq] at hgo
    obtain ⟨⟨h0, h1⟩, h2⟩ := hgo
    have h0' : i ∈ Region.ready .any ops listed := by simpa using h0
    refine ⟨fun h0 => (by rw [h0] at h0'; cases h0'), fun j hj => ?_⟩
    rcases h1 j hj with rfl | h3
    · refine .inr ?_
      unfold wpOp
      simp only [hi, hw a W hr, if_true]
      refine .inl (hx a W Z hr hz _ _ fun σ' a' W' hn hr' hz' hkept => ⟨?_, stepG_nil (ih σ' hn _ _ [] (hcl.set hj) h2 a' W' hr' hz')⟩)
      unfold KeptI; rw [hi]; exact hkept
    · exact .inl (by simpa using h3)
  | @skip f i r o d env own dfs hi0 hdst hd hw hN ih =>
    intro n listed al hcl hgo a W hr hz
    have hi : ops[i]? = some o := by rw [nth_eq] at hi0; simpa using hi0
    cases n with
    | zero => simp [drawGo] at hgo
    | succ n =>
    by_cases hk : kind o.op = 0
    · simp only [drawGo, hi, hk, if_true, Bool.and_eq_true, List.isEmpty_iff] at hgo
      obtain ⟨⟨⟨⟨h0, h1⟩, h2⟩, h3⟩, h4⟩ := hgo
      subst h0
      have h1' : i ∈ Region.ready .any ops listed := by simpa using h1
      have hall : wpAnyG B Z C.P .any ops (Lift B nt K) (n + 1) listed a W := by
        refine wpAnyG_first (T := fun _ => True) (v := undef) hi (Region.noSelect_spec hsel) (fun _ _ _ h => h.1.elim) _ _ _ _ ?_ hcl h1' (.inr ⟨hw a W hr, rfl⟩) trivial ?_
        · intro j oj hj hne hun hno
          exact ⟨Region.free_spec hi h2 j oj hj hne hun (fun e he hb hon => hno (.edge hj he hb hon)), fun _ _ _ _ => trivial⟩
        · rw [hdst]
          exact stepG_nil (ih _ _ [] (hcl.set h1') h4 _ _ (hr.put hd _ _ (OLe.refl _) rfl hr.mem) hz)
      exact ⟨fun h0 => (by rw [h0] at h1'; cases h1'), fun j hj => .inr (hall.2 j hj)⟩
    · simp only [drawGo, hi, hk, if_false, Bool.and_eq_true, List.all_eq_true, Bool.or_eq_true, beq_iff_eq] at hgo
      obtain ⟨⟨h0, h1⟩, h2⟩ := hgo
      have h0' : i ∈ Region.ready .any ops listed := by simpa using h0
      refine ⟨fun h0 => (by rw [h0] at h0'; cases h0'), fun j hj => ?_⟩
      rcases h1 j hj with rfl | h3
      · refine .inr ?_
        unfold wpOp
        simp only [hi, hw a W hr, Bool.false_eq_true, if_false, hdst]
        refine ⟨?_, stepG_nil (ih _ _ [] (hcl.set hj) h2 _ _ (hr.put hd _ _ (OLe.refl _) rfl hr.mem) hz)⟩
        unfold KeptI; rw [hi]; exact Kept.same
      · exact .inl (by simpa using h3)
  | @split l g b env own dfs hg ht hf iht ihf =>
    intro n listed al hcl hgo a W hr hz
    cases b
    · exact ihf rfl n listed al hcl hgo a W (hr.less (less_bool hg rfl)) hz
    · exact iht rfl n listed al hcl hgo a W (hr.less (less_bool hg rfl)) hz
  | weak τ hw hzz _ ih =>
    intro n listed al hcl hgo a W hr hz
    obtain ⟨i, hi⟩ := hw a W hr
    exact ih i n listed al hcl hgo a W hi (hzz i _ hz)
  | @fork r s σ h1 h2 ih1 ih2 =>
    intro n listed al hcl hgo a W hr hz
    have hgo' : ((effNext ops s).all fun i => !(effNext ops r).contains i) = true ∧ drawGo ops n listed (effNext ops s ++ al) r = true ∧ drawGo ops n listed (effNext ops r ++ al) s = true := by
      cases n <;> simpa only [drawGo, Bool.and_eq_true] using hgo
    obtain ⟨hd, g1, g2⟩ := hgo'
    have k1 := ih1 n listed _ hcl g1 a W hr hz
    have k2 := ih2 n listed _ hcl g2 a W hr hz
    cases n with
    | zero => exact k1
    | succ n =>
      refine ⟨k1.1, fun j hj => ?_⟩
      rcases k1.2 j hj with h3 | h3
      · rcases k2.2 j hj with h4 | h4
        · rcases List.mem_append.1 h3 with h5 | h5
          · rcases List.mem_append.1 h4 with h6 | h6
            · have := List.all_eq_true.1 hd j h5
              simp at this
              exact absurd h6 this
            · exact .inl h6
          · exact .inl h5
        · exact .inr h4
      · exact .inr h3
theorem zOk_self (own : Own) (zs : List Nat) (h : zs.all (fun j => Nat.blt j own.length) = true) : ZOk own zs fun b => ∃ j ∈ zs, ∃ o, own[j]? = some o ∧ o.fp b :=
  ⟨fun j hj => by have := List.all_eq_true.1 h j hj; simpa using this, fun _ => Iff.rfl⟩
theorem jc_drawz {id : Nat} {ops : Array Oper} {K : Exit → St → Prop} (ord : Ord) (zs : List Nat) (hzs : zs.all (fun j => Nat.blt j σ.own.length) = true) (hok : drawOk ops ord = true) (h : JO C B nt ops zs K ord σ) : JC C B nt ρ (.region id ops true) K σ := by
  intro a W hr
  simp only [drawOk, Bool.and_eq_true] at hok
  obtain ⟨⟨h1, h2⟩, h3⟩ := hok
  have hx : Ext W { W with drawn := W.drawn + 1 } := Ext.draw W
  have hops := wpAny_of_G _ _ _ _ (stepG_nil (jo_sound h1 h _ _ [] (fun j o e hj => by simp [Array.getElem?_replicate] at hj; split at hj <;> simp at hj) h3 a { W with drawn := W.drawn + 1 } ⟨hr.size, hr.defers, hr.env, hr.mem.ext' hx⟩ (zOk_self _ _ hzs)))
  refine wpIn_region_draw fun t => ?_
  simp only [Region.schedule, C.mixed, Bool.true_or, if_true]
  refine ops_in (fun i o ho => ?_) lift_lets _ _ _ (wpAny_sound ops.size t _ a _ hops)
  exact Array.all_eq_true'.1 h2 o (Array.mem_of_getElem? ho)
theorem jc_draw {id : Nat} {ops : Array Oper} {K : Exit → St → Prop} (ord : Ord) (hok : drawOk ops ord = true) (hzs : (blkIdx 0 own).all (fun j => Nat.blt j own.length) = true) (h : JO C B nt ops (blkIdx 0 own) K ord ⟨env, own, dfs⟩) : JC C B nt ρ (.region id ops true) K ⟨env, own, dfs⟩ := jc_drawz ord _ hzs hok h
theorem jc_drawn {id : Nat} {ops : Array Oper} {K : Exit → St → Prop} (hok : drawOk ops (Ord.ofList (List.range ops.size)) = true) (hzs : (blkIdx 0 own).all (fun j => Nat.blt j own.length) = true) (h : JO C B nt ops (blkIdx 0 own) K (Ord.ofList (List.range ops.size)) ⟨env, own, dfs⟩) : JC C B nt ρ (.region id ops true) K ⟨env, own, dfs⟩ := jc_draw _ hok hzs h
theorem jo_v {ops : Array Oper} {zs : List Nat} {f i : Nat} {o : Oper} {r : Ord} {d : Nat} {e : EV} (hi : nth ops.toList i = some o) (hg : gst ops env o.guard = some true) (hk : Nat.beq (kind o.op) 0 = true) (hd : o.dst = some d) (hlt : Nat.blt d nt = true) (hv : OV C B nt o e ⟨env, memF f zs own, dfs⟩)
    (h : JO C B nt ops zs K r ⟨(d, e) :: env, own, dfs⟩) : JO C B nt ops zs K (.step f i r) ⟨env, own, dfs⟩ :=
  .val hi hd (by simpa using hlt) (Nat.eq_of_beq_eq_true hk) (fun _ _ hr => gst_spec hr hg rfl) hv h
theorem jo_p {ops : Array Oper} {zs : List Nat} {f i : Nat} {o : Oper} {r : Ord} {d : Nat} {e : EV} (hi : nth ops.toList i = some o) (hg : gst ops env o.guard = some true) (hk : Nat.beq (kind o.op) 0 = true) (hv : pureV C env (memF f zs own) o.op = some e) (hd : o.dst = some d) (hlt : Nat.blt d nt = true)
    (h : JO C B nt ops zs K r ⟨(d, e) :: env, own, dfs⟩) : JO C B nt ops zs K (.step f i r) ⟨env, own, dfs⟩ := jo_v hi hg hk hd hlt (pure_ov hv) h
theorem jo_same {ops : Array Oper} {zs : List Nat} {f i : Nat} {r : Ord} {d : Nat} {T T' : TypeId} {x y : Operand} {v : Value} {ty : TypeId} {pos : String} {af : Array Edge} {g : Option (Nat × Bool)} (hi : nth ops.toList i = some ⟨some d, .binOp .eql T x y T', ty, pos, af, g⟩) (hg : gst ops env g = some true) (hx : ev env x = some (.v v)) (hy : ev env y = some (.v v)) (hp : isSome (binV C .eql T v v) = true) (hlt : Nat.blt d nt = true)
    (h : JO C B nt ops zs K r ⟨(d, .v (.bool true)) :: env, own, dfs⟩) : JO C B nt ops zs K (.step f i r) ⟨env, own, dfs⟩ := jo_v (o := ⟨some d, .binOp .eql T x y T', ty, pos, af, g⟩) hi hg rfl rfl hlt (same_sound hx hy hp) h
theorem jo_s {ops : Array Oper} {zs : List Nat} {f i : Nat} {o : Oper} {r : Ord} {d : Nat} (hi : nth ops.toList i = some o) (hg : gst ops env o.guard = some false) (hd : o.dst = some d) (hlt : Nat.blt d nt = true)
    (h : JO C B nt ops zs K r ⟨(d, .v (.tuple ⟨[]⟩)) :: env, own, dfs⟩) : JO C B nt ops zs K (.step f i r) ⟨env, own, dfs⟩ :=
  .skip hi hd (by simpa using hlt) (fun _ _ hr => gst_spec hr hg rfl) h
theorem jo_x {ops : Array Oper} {zs : List Nat} {f i : Nat} {o : Oper} {r : Ord} (hi : nth ops.toList i = some o) (hk : Nat.blt 0 (kind o.op) = true) (hg : gst ops env o.guard = some true) (h : OX C B nt zs o (JO C B nt ops zs K r) ⟨env, own, dfs⟩) : JO C B nt ops zs K (.step f i r) ⟨env, own, dfs⟩ :=
  .eff hi (by have : 0 < kind o.op := by simpa using hk
              omega) (fun _ _ hr => gst_spec hr hg rfl) h fun _ h => h
theorem jo_st {ops : Array Oper} {zs : List Nat} {f i : Nat} {o : Oper} {r : Ord} {own' : Own} (hi : nth ops.toList i = some o) (hg : gst ops env o.guard = some true) (hv : storeV C env own o.op = some own') (hin : stIn zs env o.op = true) (hk : Nat.blt 0 (kind o.op) = true) (hdst : o.dst = none) (h : JO C B nt ops zs K r ⟨env, own', dfs⟩) : JO C B nt ops zs K (.step f i r) ⟨env, own, dfs⟩ :=
  jo_x hi hk hg (ox_store hv hin hdst h)
theorem jo_n {ops : Array Oper} {zs : List Nat} {fl i : Nat} {o : Oper} {r : Ord} {f : Nat → OB} {g : Nat → EV} {d : Nat} (hi : nth ops.toList i = some o) (hg : gst ops env o.guard = some true) (hv : newV C env own o.op = some (f, g)) (hk : Nat.blt 0 (kind o.op) = true) (hdst : o.dst = some d) (hd : Nat.blt d nt = true)
    {own' : Nat → Own} (hw : ∀ n, forceK (snoc own (f n)) some = some (own' n)) (h : ∀ n, JO C B nt ops zs K r ⟨(d, g n) :: env, own' n, dfs⟩) : JO C B nt ops zs K (.step fl i r) ⟨env, own, dfs⟩ :=
  jo_x hi hk hg (ox_new hv hdst hd hw h)
/-- The operation at hand is to be run. -/
theorem jo_gt {ops : Array Oper} {zs : List Nat} {f i : Nat} {o : Oper} {r : Ord} (_ : nth ops.toList i = some o) (_ : gst ops env o.guard = some true) (h : JO C B nt ops zs K (.step f i r) ⟨env, own, dfs⟩) : JO C B nt ops zs K (.step f i r) ⟨env, own, dfs⟩ := h
theorem jl_gt {ops : Array Oper} {o : Oper} {l : List Oper} (_ : gst ops env o.guard = some true) (h : JL C B nt ρ ops K (o :: l) ⟨env, own, dfs⟩) : JL C B nt ρ ops K (o :: l) ⟨env, own, dfs⟩ := h
theorem jo_split {ops : Array Oper} {zs : List Nat} {f i : Nat} {o : Oper} {r : Ord} {j g : Nat} {b c : Bool} (hi : nth ops.toList i = some o) (ho : o.guard = some (j, c)) (hg : gslot ops j = some g) (hv : eget env g = some (.v (.bool b)))
    (ht : b = true → JO C B nt ops zs K (.step f i r) ⟨(g, .v (.bool true)) :: env, own, dfs⟩) (hf : b = false → JO C B nt ops zs K (.step f i r) ⟨(g, .v (.bool false)) :: env, own, dfs⟩) : JO C B nt ops zs K (.step f i r) ⟨env, own, dfs⟩ := .split hv ht hf
theorem jo_split_lt {ops : Array Oper} {zs : List Nat} {f i : Nat} {o : Oper} {r : Ord} {j g : Nat} {p q : Int} {c : Bool} (hi : nth ops.toList i = some o) (ho : o.guard = some (j, c)) (hg : gslot ops j = some g) (hv : eget env g = some (.v (.bool (ltB p q))))
    (ht : p < q → JO C B nt ops zs K (.step f i r) ⟨(g, .v (.bool true)) :: env, own, dfs⟩) (hf : q ≤ p → JO C B nt ops zs K (.step f i r) ⟨(g, .v (.bool false)) :: env, own, dfs⟩) : JO C B nt ops zs K (.step f i r) ⟨env, own, dfs⟩ :=
  jo_split hi ho hg hv (fun h => ht (by rw [ltB_eq] at h; simpa using h)) (fun h => hf (by rw [ltB_eq] at h; simpa using h))
theorem jo_split_ge {ops : Array Oper} {zs : List Nat} {f i : Nat} {o : Oper} {r : Ord} {j g : Nat} {p q : Int} {c : Bool} (hi : nth ops.toList i = some o) (ho : o.guard = some (j, c)) (hg : gslot ops j = some g) (hv : eget env g = some (.v (.bool (!(ltB p q)))))
    (ht : q ≤ p → JO C B nt ops zs K (.step f i r) ⟨(g, .v (.bool true)) :: env, own, dfs⟩) (hf : p < q → JO C B nt ops zs K (.step f i r) ⟨(g, .v (.bool false)) :: env, own, dfs⟩) : JO C B nt ops zs K (.step f i r) ⟨env, own, dfs⟩ :=
  jo_split hi ho hg hv (fun h => ht (by rw [ltB_eq] at h; simpa using h)) (fun h => hf (by rw [ltB_eq] at h; simpa using h))
theorem jo_split_eq {ops : Array Oper} {zs : List Nat} {f i : Nat} {o : Oper} {r : Ord} {j g : Nat} {p q : Int} {c : Bool} (hi : nth ops.toList i = some o) (ho : o.guard = some (j, c)) (hg : gslot ops j = some g) (hv : eget env g = some (.v (.bool (eqB p q))))
    (ht : p = q → JO C B nt ops zs K (.step f i r) ⟨(g, .v (.bool true)) :: env, own, dfs⟩) (hf : p ≠ q → JO C B nt ops zs K (.step f i r) ⟨(g, .v (.bool false)) :: env, own, dfs⟩) : JO C B nt ops zs K (.step f i r) ⟨env, own, dfs⟩ :=
  jo_split hi ho hg hv (fun h => ht (by rw [eqB_eq] at h; simpa using h)) (fun h => hf (by rw [eqB_eq] at h; simpa using h))
theorem jo_split_ne {ops : Array Oper} {zs : List Nat} {f i : Nat} {o : Oper} {r : Ord} {j g : Nat} {p q : Int} {c : Bool} (hi : nth ops.toList i = some o) (ho : o.guard = some (j, c)) (hg : gslot ops j = some g) (hv : eget env g = some (.v (.bool (!(eqB p q)))))
    (ht : p ≠ q → JO C B nt ops zs K (.step f i r) ⟨(g, .v (.bool true)) :: env, own, dfs⟩) (hf : p = q → JO C B nt ops zs K (.step f i r) ⟨(g, .v (.bool false)) :: env, own, dfs⟩) : JO C B nt ops zs K (.step f i r) ⟨env, own, dfs⟩ :=
  jo_split hi ho hg hv (fun h => ht (by rw [eqB_eq] at h; simpa using h)) (fun h => hf (by rw [eqB_eq] at h; simpa using h))

/-! ### the beginning of a call, and the steps between -/
def mkEnv : Nat → List EV → Env
  | _, [] => []
  | k, v :: vs => (k, v) :: mkEnv (k + 1) vs
theorem mkEnv_mem : ∀ {es : List EV} {vs : List Value}, Dens own es vs → ∀ {k d : Nat} {e : EV}, eget (mkEnv k es) d = some e → k ≤ d ∧ ∃ v, Den own e v ∧ vs[d - k]? = some v := by
  intro es vs h
  induction h with
  | nil => intro k d e h; simp [mkEnv, eget] at h
  | @cons e0 v es vs h1 _ ih =>
    intro k d e h
    unfold mkEnv at h
    by_cases c : k = d
    · subst c; rw [eget_cons_self] at h; cases h; exact ⟨Nat.le_refl _, v, h1, by simp⟩
    · rw [eget_cons_ne c] at h
      obtain ⟨h2, u, h3, h4⟩ := ih h
      refine ⟨by omega, u, h3, ?_⟩
      rw [show d - k = d - (k + 1) + 1 by omega]
      simpa using h4
theorem i64w (n : Int) (h1 : -9223372036854775808 ≤ n) (h2 : n ≤ 9223372036854775807) : IntKind.i64.wrap n = n := by
  unfold IntKind.wrap
  simp only [IntKind.bits, IntKind.signed, Bool.true_and, decide_eq_true_eq, Nat.add_one_sub_one]
  have h3 : (2 : Int) ^ (64 : Nat) = 18446744073709551616 := by decide
  have h4 : (2 : Int) ^ (64 - 1 : Nat) = 9223372036854775808 := by decide
  simp only [h3, h4, ge_iff_le, decide_eq_true_eq]
  split <;> omega
theorem calls_e {f : FuncId} {fn : Func} {c : Code} {vs : List Value} {es : List EV} {own : Own} {R : Ending → World → Prop} (hf : C.P.funcs[f]? = some fn) (hb : fn.body = some c) (nt : Nat) (hnt : fn.ntmps = nt)
    (hsz : Nat.ble vs.length nt = true) (hd : Dens own es vs) (hm : Mem B own B.w) (h : JC C B nt none c (Fend C B nt fn R) ⟨mkEnv 0 es, own, []⟩) : Calls C.P f vs.toArray B.w R := by
  subst hnt
  refine calls_of_jc hf hb _ (fun d e he => ?_) (by simpa using hsz) hm h
  obtain ⟨_, v, hv, h1⟩ := mkEnv_mem hd he
  have hl := (List.getElem?_eq_some_iff.1 h1).1
  simp only [Nat.sub_zero] at h1 hl
  rw [Array.getD_eq_getD_getElem?, Array.getElem?_append_left (by simpa using hl)]
  simpa [h1] using hv
theorem dens_mapV : ∀ (vs : List Value), Dens own (mapV vs) vs
  | [] => .nil
  | _ :: r => .cons rfl (dens_mapV r)
theorem calls_v {f : FuncId} {fn : Func} {c : Code} {vs : List Value} {w : World} {R : Ending → World → Prop} (hf : C.P.funcs[f]? = some fn) (hb : fn.body = some c) (nt : Nat) (hnt : fn.ntmps = nt)
    (hsz : Nat.ble vs.length nt = true) (h : JC C (Bas.of w) nt none c (Fend C (Bas.of w) nt fn R) ⟨mkEnv 0 (mapV vs), [], []⟩) : Calls C.P f vs.toArray w R :=
  calls_e (B := Bas.of w) hf hb nt hnt hsz (dens_mapV vs) (Mem.nil _) h
/-- The beginning of a call whose arguments are told by their specifications. -/
def entE : Nat → List AS → List EV
  | _, [] => []
  | k, .x v :: r => .v v :: entE k r
  | k, .r n c _ :: r => .s k 0 n c :: entE (k + 1) r
  | k, .q _ :: r => .p k 0 :: entE (k + 1) r
def entO (α : Nat → Option Addr) : Nat → List AS → Own
  | _, [] => []
  | k, .x _ :: r => entO α k r
  | k, .r _ _ ys :: r => .ro (α k) ys :: entO α (k + 1) r
  | k, .q ys :: r => .ro (α k) ys :: entO α (k + 1) r
theorem entO_congr {α β : Nat → Option Addr} : ∀ (as : List AS) (k : Nat), (∀ i, k ≤ i → α i = β i) → entO α k as = entO β k as
  | [], _, _ => rfl
  | .x _ :: r, k, h => entO_congr r k h
  | .r _ _ ys :: r, k, h => by simp only [entO]; rw [h k (Nat.le_refl _), entO_congr r (k + 1) fun i hi => h i (by omega)]
  | .q ys :: r, k, h => by simp only [entO]; rw [h k (Nat.le_refl _), entO_congr r (k + 1) fun i hi => h i (by omega)]
theorem lt_of_cell {W : World} {b o : Nat} {v : Value} (h : W.cell? ⟨b, o, none⟩ = some v) : b < W.heap.size := by
  rcases Nat.lt_or_ge b W.heap.size with h' | h'
  · exact h'
  · simp [World.cell?, Array.getElem?_eq_none h'] at h
theorem ro_reg {W : World} {a : Option Addr} {ys : List Value} (h : RdS W a ys) : Reg (Bas.of W) W (.ro a ys) := fun j v hj => by
  obtain ⟨b, lo, ha, hc⟩ := h j v hj
  exact ⟨b, lo, ha, lt_of_cell hc, fun x => x, hc⟩
theorem enter_ok {W : World} : ∀ (as : List AS) (us : List Value) (k : Nat), ASs W as us → ∃ α, (∀ pre : Own, pre.length = k → Dens (pre ++ entO α k as) (entE k as) us) ∧ ∀ o ∈ entO α k as, Reg (Bas.of W) W o ∧ ∀ b, ¬ o.fp b
  | [], [], k, _ => ⟨fun _ => none, fun _ _ => .nil, fun _ h => absurd h (by simp [entO])⟩
  | .x v :: as, u :: us, k, h => by
    obtain ⟨α, h1, h2⟩ := enter_ok as us k h.2
    exact ⟨α, fun pre hp => .cons h.1 (h1 pre hp), h2⟩
  | .r n c ys :: as, u :: us, k, h => by
    obtain ⟨⟨a, rfl, hr, hc, _⟩, h'⟩ := h
    obtain ⟨α, h1, h2⟩ := enter_ok as us (k + 1) h'
    refine ⟨fun i => if i = k then a else α i, fun pre hp => ?_, fun o ho => ?_⟩
    · have e : entO (fun i => if i = k then a else α i) (k + 1) as = entO α (k + 1) as := entO_congr as (k + 1) fun i hi => if_neg (by omega)
      simp only [entO, entE, if_true, e]
      refine .cons ⟨.ro a ys, a, by rw [List.getElem?_append_right (by omega), hp]; simp, rfl, fun h0 => ?_⟩ ?_
      · obtain ⟨b, lo, rfl⟩ := hc h0
        exact ⟨b, lo, rfl, rfl⟩
      · have := h1 (pre ++ [.ro a ys]) (by simp [hp])
        simpa using this
    · have e : entO (fun i => if i = k then a else α i) (k + 1) as = entO α (k + 1) as := entO_congr as (k + 1) fun i hi => if_neg (by omega)
      simp only [entO, if_true, e] at ho
      rcases List.mem_cons.1 ho with rfl | ho
      · exact ⟨ro_reg hr, fun _ hf => hf⟩
      · exact h2 o ho
  | .q ys :: as, u :: us, k, h => by
    obtain ⟨⟨a, rfl, hr, hne⟩, h'⟩ := h
    obtain ⟨α, h1, h2⟩ := enter_ok as us (k + 1) h'
    refine ⟨fun i => if i = k then a else α i, fun pre hp => ?_, fun o ho => ?_⟩
    · have e : entO (fun i => if i = k then a else α i) (k + 1) as = entO α (k + 1) as := entO_congr as (k + 1) fun i hi => if_neg (by omega)
      simp only [entO, entE, if_true, e]
      obtain ⟨y, hy⟩ := List.exists_mem_of_ne_nil ys hne
      obtain ⟨j, hj⟩ := List.getElem?_of_mem hy
      obtain ⟨b, lo, rfl, _⟩ := hr j y hj
      refine .cons ⟨.ro (some ⟨b, lo, none⟩) ys, b, lo, by rw [List.getElem?_append_right (by omega), hp]; simp, rfl, rfl⟩ ?_
      have := h1 (pre ++ [.ro (some ⟨b, lo, none⟩) ys]) (by simp [hp])
      simpa using this
    · have e : entO (fun i => if i = k then a else α i) (k + 1) as = entO α (k + 1) as := entO_congr as (k + 1) fun i hi => if_neg (by omega)
      simp only [entO, if_true, e] at ho
      rcases List.mem_cons.1 ho with rfl | ho
      · exact ⟨ro_reg hr, fun _ hf => hf⟩
      · exact h2 o ho
  | [], _ :: _, _, h => h.elim
  | .x _ :: _, [], _, h => h.elim
  | .r _ _ _ :: _, [], _, h => h.elim
  | .q _ :: _, [], _, h => h.elim
theorem ass_len {W : World} : ∀ {as : List AS} {us : List Value}, ASs W as us → us.length = as.length
  | [], [], _ => rfl
  | s :: as, u :: us, h => by simp [ass_len h.2]
  | [], _ :: _, h => h.elim
  | _ :: _, [], h => h.elim
/-- A contract, by a walk. -/
theorem con_e {f : FuncId} {fn : Func} {c : Code} {as : List AS} {R : World → Ending → World → Prop} (hf : C.P.funcs[f]? = some fn) (hb : fn.body = some c) (nt : Nat) (hnt : fn.ntmps = nt) (hsz : Nat.ble as.length nt = true)
    (h : ∀ (W : World) (α : Nat → Option Addr), JC C (Bas.of W) nt none c (Fend C (Bas.of W) nt fn (R W)) ⟨mkEnv 0 (entE 0 as), entO α 0 as, []⟩) : Con C.P f as R := by
  intro W us hus
  obtain ⟨α, h1, h2⟩ := enter_ok as us 0 hus
  refine calls_e (B := Bas.of W) hf hb nt hnt (by rw [ass_len hus]; exact hsz) (by simpa using h1 [] rfl) ⟨ExtG.refl _, fun o ho => (h2 o ho).1, pairwise_of fun i j o o' hi _ _ b hb => absurd hb ((h2 o (List.mem_of_getElem? hi)).2 b)⟩ (h W α)
/-- What a contract says of a call in a world at hand. -/
theorem Con.calls {P : Program} {f : FuncId} {as : List AS} {R : World → Ending → World → Prop} (h : Con P f as R) {W : World} {us : List Value} (hu : ASs W as us) : Calls P f us.toArray W (R W) := h W us hu

theorem k_then {N : St → Prop} (h : N σ) : Kthen K N .normal σ := h
theorem k_then_e {N : St → Prop} {id : Nat} (h : K (.exit id) σ) : Kthen K N (.exit id) σ := h
theorem k_then_r {N : St → Prop} (h : K .ret σ) : Kthen K N .ret σ := h
theorem k_block_n {id : Nat} (h : K .normal σ) : Kblock id K .normal σ := h
theorem k_block_r {id : Nat} (h : K .ret σ) : Kblock id K .ret σ := h
theorem k_block_hit {id : Nat} (h : K .normal σ) : Kblock id K (.exit id) σ := by show (bif Nat.beq id id then _ else _); rw [Nat.beq_refl]; exact h
theorem k_block_miss {id id' : Nat} (hne : Nat.beq id' id = false) (h : K (.exit id') σ) : Kblock id K (.exit id') σ := by show (bif Nat.beq id' id then _ else _); rw [hne]; exact h

end rules
end Go.Proofs.YtpfjolckhlgodaaDoor
