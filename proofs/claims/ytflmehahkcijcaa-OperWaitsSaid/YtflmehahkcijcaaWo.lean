/- Maps, second part: lookups that tell whether, updates, keys that are whole numbers. -/
import Derived.Test.YtflmehahkcijcaaWl
namespace Go.Proofs.Ytflmehahkcijcaa
open Go Go.RowKit
/-- What a key has. -/
def mget {κ : Type} [DecidableEq κ] (D : MD κ) (x : κ) : Option Value := (mfind x D 0).map (·.2)
theorem mat_get {κ : Type} [DecidableEq κ] (z : Value) (D : MD κ) (x : κ) : mat z D x = (mget D x).getD z := by
  unfold mat mget
  cases mfind x D 0 <;> rfl
theorem opt_ext {a b : Option Value} (h : ∀ z, a.getD z = b.getD z) : a = b := by
  have h1 := h (.bool true)
  have h2 := h (.bool false)
  cases a <;> cases b
  · rfl
  · rw [Option.getD_none, Option.getD_some] at h1 h2
    rw [← h1] at h2; cases h2
  · rw [Option.getD_none, Option.getD_some] at h1 h2
    rw [h1] at h2; cases h2
  · exact congrArg some h1
theorem mget_ext {κ : Type} [DecidableEq κ] {D D' : MD κ} {k : κ} {v : Value} (h : ∀ z y, mat z D' y = if y = k then v else mat z D y) (y : κ) : mget D' y = if y = k then some v else mget D y := opt_ext fun z => by
  rw [← mat_get, h z y]
  split
  · rfl
  · rw [mat_get]
theorem mod_both {κ : Type} {ek : κ → Value} (D : MD κ) {i : Nat} {x : κ} {v0 v : Value} {b : Nat} (h : D[i]? = some (x, v0, b)) : (encM ek D).toArray.modify i (fun e => { e with key := ek x, val := v }) = (encM ek (mset D i v)).toArray := by
  rw [← encM_set]
  apply Array.ext_getElem?
  intro j
  rw [Array.getElem?_modify, Array.getElem?_modify]
  split
  · rename_i e; subst e; rw [getD_at h]; rfl
  · rfl
section rules
variable {C : Ctx} {B : Bas} {nt : Nat} {env : Env} {own : Own} {dfs : List Deferred} {κ : Type} [DecidableEq κ] {ek : κ → Value} {z : Value}
theorem ox_lookup2 {T KT : TypeId} {x y : Operand} {ty : TypeId} {pos : String} {af : Array Edge} {g : Option (Nat × Bool)} {zs : List Nat} {N : St → Prop} {d n i cl : Nat} {D : MD κ} {o : Option Value} (k : κ) (ho : KOk C.P T KT ek z)
    (hx : ev env x = some (.v (.map (some n)))) (hy : ev env y = some (.v (ek k))) (hi : nth own i = some (.obj n (.map (encM ek D).toArray cl))) (hd : Nat.blt d nt = true) (hv : mget D k = o) {v : Value} (hvv : o.getD z = v) {b : Bool} (hb : o.isSome = b)
    (hN : N ⟨(d, .v (.tuple #[v, .bool b])) :: env, own, dfs⟩) : OX C B nt zs ⟨some d, .lookup T x y true, ty, pos, af, g⟩ N ⟨env, own, dfs⟩ := by
  intro a W Z hr hz nxt Q hn
  rw [nth_eq] at hi
  have hreg := hr.mem.at hi
  obtain ⟨VT, hu, hzv⟩ := ho.u
  have hrun : (execOp a.eval ⟨some d, .lookup T x y true, ty, pos, af, g⟩).run C.P W = .ok (.value (.tuple #[v, .bool b])) W := by
    subst hv; subst hvv; subst hb
    simp only [execOp, Instr.lookup, hr.atv hx, hr.atv hy, Sem.run_bind, run_underlying hu, Result.andThen_ok, run_getMap hreg.2, Sem.run_pure, ho.chk, ho.fnd]
    unfold mget
    cases mfind k D 0 with
    | none => simp [hzv, Result.andThen_ok]
    | some r => simp
  unfold Oper.wp
  rw [hrun, Oper.upon_value]
  exact hn _ _ _ hN (hr.put (by simpa using hd) _ _ (OLe.refl _) rfl hr.mem) hz (Kept.ext (by simp [kind]) (Ext.refl _))
theorem ox_mapUpdate {T KT : TypeId} {x y w : Operand} {ty : TypeId} {pos : String} {af : Array Edge} {g : Option (Nat × Bool)} {zs : List Nat} {N : St → Prop} {n i cl : Nat} {D : MD κ} {v : Value} {own' : MD κ → Nat → Own} (k : κ) (ho : KOk C.P T KT ek z)
    (hx : ev env x = some (.v (.map (some n)))) (hy : ev env y = some (.v (ek k))) (hw : ev env w = some (.v v)) (hi : nth own i = some (.obj n (.map (encM ek D).toArray cl))) (hni : notIn zs i = true) (hg : MGood D cl)
    (hown : ∀ D1 cl1, own.set i (.obj n (.map (encM ek D1).toArray cl1)) = own' D1 cl1)
    (hN : ∀ (D1 : MD κ) (cl1 : Nat), MGood D1 cl1 → (∀ y, mget D1 y = if y = k then some v else mget D y) → N ⟨env, own' D1 cl1, dfs⟩) : OX C B nt zs ⟨none, .mapUpdate T x y w, ty, pos, af, g⟩ N ⟨env, own, dfs⟩ := by
  intro a W Z hr hz nxt Q hn
  rw [nth_eq] at hi
  have hreg := hr.mem.at hi
  obtain ⟨VT, hu, hzv⟩ := ho.u
  have key : ∃ (D1 : MD κ) (cl1 : Nat), MGood D1 cl1 ∧ (∀ y, mget D1 y = if y = k then some v else mget D y) ∧ (execOp a.eval ⟨none, .mapUpdate T x y w, ty, pos, af, g⟩).run C.P W = .ok .skip (putMap W n (.map (encM ek D1).toArray cl1)) := by
    cases hm : mfind k D 0 with
    | some r =>
      obtain ⟨b, hb⟩ := mfind_some (i := r.1) (v := r.2) hm
      refine ⟨mset D r.1 v, cl, mset_good hg _ _, mget_ext fun z y => mset_mat hg hb v y, ?_⟩
      simp only [execOp, Instr.mapUpdate, hr.atv hx, hr.atv hy, hr.atv hw, Sem.run_bind, run_underlying hu, Result.andThen_ok, run_getMap hreg.2, ho.chk, ho.fnd, hm, getD_at hb, Option.map_some, Option.getD_some, Instr.keyThatStays, ho.bits, if_true, Sem.run_pure, mod_both D hb, run_setMap _ hreg.2]
    | none =>
      refine ⟨D ++ [(k, v, cl)], cl + 1, ⟨?_, ?_⟩, fun y => ?_, ?_⟩
      · refine List.pairwise_append.2 ⟨hg.1, List.pairwise_singleton _ _, fun p hp q hq => ?_⟩
        rw [List.mem_singleton] at hq
        subst hq
        exact ⟨mfind_none hm p hp, by have := hg.2 p hp; exact Nat.ne_of_lt this⟩
      · intro e he
        rcases List.mem_append.1 he with he | he
        · have := hg.2 e he; omega
        · rw [List.mem_singleton] at he; subst he; exact Nat.lt_succ_self _
      · unfold mget
        cases hy : mfind y D 0 with
        | some r =>
          rw [mfind_app' hy, if_neg (fun e => by rw [e, hm] at hy; cases hy)]
        | none =>
          rw [mfind_app hy]
          by_cases e : y = k
          · simp [e]
          · simp [e]
      · have e := encM_app (ek := ek) D (k, v, cl)
        simp only at e
        simp only [execOp, Instr.mapUpdate, hr.atv hx, hr.atv hy, hr.atv hw, Sem.run_bind, run_underlying hu, Result.andThen_ok, run_getMap hreg.2, ho.chk, ho.fnd, hm, Sem.run_pure, run_setMap _ hreg.2, e]
  obtain ⟨D1, cl1, h1, h2, hrun⟩ := key
  have hm := hr.remap (o' := .map (encM ek D1).toArray cl1) hi
  rw [hown] at hm
  have hz' := hz.setne (o' := .obj n (.map (encM ek D1).toArray cl1)) (notIn_spec hni)
  rw [hown] at hz'
  unfold Oper.wp
  rw [hrun]
  exact hn _ _ _ (hN D1 cl1 h1 h2) hm hz' (kept_remap hr hz hi (notIn_spec hni) rfl)
end rules
/-- Keys that are whole numbers. -/
def ekI (n : Int) : Value := .int .i64 n
theorem run_findInt {P : Program} {KT : TypeId} (hu : P.underlying KT = some (.int .i64)) (x : Int) (D : MD Int) (w : World) : (Instr.findKey KT (ekI x) (encM ekI D)).run P w = .ok (mfind x D 0) w := by
  have key : ∀ (D : MD Int) (i : Nat), Instr.findNow (.int .i64) (ekI x) (encM ekI D) i = some (mfind x D i) := by
    intro D
    induction D with
    | nil => intro i; rfl
    | cons e D ih =>
      intro i
      simp only [encM, List.map_cons, Instr.findNow, ekI, Instr.sameNow, if_true, mfind] at ih ⊢
      by_cases h : x = e.1
      · simp [h]
      · rw [if_neg h]
        simp only [beq_eq_false_iff_ne.2 h]
        exact ih (i + 1)
  simp only [Instr.findKey, Sem.run_bind, run_underlying hu, Result.andThen_ok, key, Sem.run_pure]
end Go.Proofs.Ytflmehahkcijcaa
