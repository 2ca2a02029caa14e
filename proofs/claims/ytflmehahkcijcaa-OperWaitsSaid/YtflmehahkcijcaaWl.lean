/- Maps of the call's own: what a key reads, entries, stores. -/
import Derived.Test.YtflmehahkcijcaaWi
namespace Go.Proofs.Ytflmehahkcijcaa
open Go Go.RowKit
/-- Entries: key, value, stamp. -/
abbrev MD (κ : Type) := List (κ × Value × Nat)
def encM {κ : Type} (ek : κ → Value) (D : MD κ) : List MapEntry := D.map fun e => { key := ek e.1, val := e.2.1, born := e.2.2 }
def mfind {κ : Type} [DecidableEq κ] (x : κ) : MD κ → Nat → Option (Nat × Value)
  | [], _ => none
  | e :: D, i => if x = e.1 then some (i, e.2.1) else mfind x D (i + 1)
/-- What a key reads. -/
def mat {κ : Type} [DecidableEq κ] (z : Value) (D : MD κ) (x : κ) : Value := match mfind x D 0 with
  | some (_, v) => v
  | none => z
/-- Keys and stamps are unlike, and stamps are behind the clock. -/
def MGood {κ : Type} (D : MD κ) (clock : Nat) : Prop := D.Pairwise (fun a b => a.1 ≠ b.1 ∧ a.2.2 ≠ b.2.2) ∧ ∀ e ∈ D, e.2.2 < clock
/-- What the rules want of a map's type. -/
structure KOk (P : Program) (MT KT : TypeId) {κ : Type} [DecidableEq κ] (ek : κ → Value) (z : Value) : Prop where
  u : ∃ VT, P.underlying MT = some (.map KT VT) ∧ ∀ w, (zeroValue VT).run P w = .ok z w
  chk : ∀ b x w, (Instr.checkKey b 10000 KT (ek x)).run P w = .ok () w
  fnd : ∀ x D w, (Instr.findKey KT (ek x) (encM ek D)).run P w = .ok (mfind x D 0) w
  bits : ∀ x, Instr.sameBits 10000 (ek x) (ek x) = true
/-- A key's value is another. -/
def mset {κ : Type} (D : MD κ) (i : Nat) (v : Value) : MD κ := D.modify i fun e => (e.1, v, e.2.2)
theorem mset_get {κ : Type} (D : MD κ) (i j : Nat) (v : Value) : (mset D i v)[j]? = (D[j]?).map fun e => if i = j then (e.1, v, e.2.2) else e := by
  unfold mset
  rw [List.getElem?_modify]
  split
  · rename_i h; subst h; cases D[i]? <;> simp
  · rename_i h; cases D[j]? <;> simp [h]
theorem encM_app {κ : Type} {ek : κ → Value} (D : MD κ) (q : κ × Value × Nat) : (encM ek D).toArray.push { key := ek q.1, val := q.2.1, born := q.2.2 } = (encM ek (D ++ [q])).toArray := by simp [encM]
theorem getD_at {κ : Type} {ek : κ → Value} {D : MD κ} {i : Nat} {e : κ × Value × Nat} (h : D[i]? = some e) : (encM ek D).toArray[i]? = some { key := ek e.1, val := e.2.1, born := e.2.2 } := by simp [encM, h]
theorem mset_good {κ : Type} {D : MD κ} {clock : Nat} (h : MGood D clock) (i : Nat) (v : Value) : MGood (mset D i v) clock := by
  have idx : ∀ (j : Nat) (q : κ × Value × Nat), (mset D i v)[j]? = some q → ∃ e : κ × Value × Nat, D[j]? = some e ∧ q.1 = e.1 ∧ q.2.2 = e.2.2 := fun j q hj => by
    rw [mset_get] at hj
    cases hd : D[j]? with
    | none => rw [hd] at hj; cases hj
    | some e =>
      rw [hd] at hj
      simp only [Option.map_some, Option.some.injEq] at hj
      refine ⟨e, rfl, ?_⟩
      subst hj
      split <;> exact ⟨rfl, rfl⟩
  refine ⟨List.pairwise_iff_getElem.2 fun a b ha hb hlt => ?_, fun q hq => ?_⟩
  · obtain ⟨e, he, h1, h2⟩ := idx a _ (List.getElem?_eq_getElem ha)
    obtain ⟨e', he', h1', h2'⟩ := idx b _ (List.getElem?_eq_getElem hb)
    obtain ⟨la, ea⟩ := List.getElem?_eq_some_iff.1 he
    obtain ⟨lb, eb⟩ := List.getElem?_eq_some_iff.1 he'
    have := List.pairwise_iff_getElem.1 h.1 a b la lb hlt
    rw [ea, eb] at this
    rw [h1, h1', h2, h2']; exact this
  · obtain ⟨j, hj⟩ := List.getElem?_of_mem hq
    obtain ⟨e, he, _, h2⟩ := idx j q hj
    rw [h2]; exact h.2 e (List.mem_of_getElem? he)
theorem encM_set {κ : Type} {ek : κ → Value} (D : MD κ) (i : Nat) (v : Value) : (encM ek D).toArray.modify i (fun e => { e with val := v }) = (encM ek (mset D i v)).toArray := by
  apply Array.ext_getElem?
  intro j
  rw [Array.getElem?_modify]
  simp only [encM, List.getElem?_toArray, List.getElem?_map, mset_get]
  cases D[j]? with
  | none => simp
  | some e => by_cases h : i = j <;> simp [h]
theorem mod_key {κ : Type} {ek : κ → Value} (D : MD κ) {i : Nat} {x : κ} {v : Value} {b : Nat} (h : D[i]? = some (x, v, b)) : (encM ek D).toArray.modify i (fun e => { e with key := ek x }) = (encM ek D).toArray := by
  apply Array.ext_getElem?
  intro j
  rw [Array.getElem?_modify]
  split
  · rename_i e; subst e; rw [getD_at h]; rfl
  · rfl
section rules
variable {C : Ctx} {B : Bas} {nt : Nat} {ρ : Option Nat} {env : Env} {own : Own} {dfs : List Deferred} {K : Exit → St → Prop} {σ : St} {κ : Type} [DecidableEq κ] {ek : κ → Value} {z : Value}
theorem mfind_shift (x : κ) : ∀ (D : MD κ) (i : Nat), mfind x D i = (mfind x D 0).map fun q => (q.1 + i, q.2)
  | [], i => rfl
  | e :: D, i => by
    unfold mfind
    split
    · simp
    · rw [mfind_shift x D (i + 1), mfind_shift x D (0 + 1)]
      cases mfind x D 0 with
      | none => rfl
      | some q => simp; omega
theorem mfind_some {x : κ} : ∀ {D : MD κ} {i : Nat} {v : Value}, mfind x D 0 = some (i, v) → ∃ b, D[i]? = some (x, v, b)
  | [], i, v, h => by simp [mfind] at h
  | e :: D, i, v, h => by
    unfold mfind at h
    split at h
    · rename_i hx
      cases h
      exact ⟨e.2.2, by rw [hx]; rfl⟩
    · rw [mfind_shift] at h
      cases hm : mfind x D 0 with
      | none => rw [hm] at h; cases h
      | some q =>
        rw [hm] at h
        simp only [Option.map_some, Option.some.injEq, Prod.mk.injEq] at h
        obtain ⟨b, hb⟩ := mfind_some (D := D) (i := q.1) (v := q.2) hm
        exact ⟨b, by rw [← h.1, ← h.2]; simpa using hb⟩
theorem mfind_none {x : κ} : ∀ {D : MD κ}, mfind x D 0 = none → ∀ e ∈ D, e.1 ≠ x
  | [], _, e, he => absurd he (by simp)
  | e :: D, h, q, hq => by
    unfold mfind at h
    split at h
    · cases h
    · rename_i hx
      rw [mfind_shift] at h
      rcases List.mem_cons.1 hq with rfl | hq
      · exact fun e' => hx e'.symm
      · exact mfind_none (D := D) (by cases hm : mfind x D 0 with | none => rfl | some q => rw [hm] at h; cases h) q hq
theorem mfind_at {x : κ} {v : Value} {b : Nat} : ∀ {D : MD κ} {i : Nat}, D.Pairwise (fun a b => a.1 ≠ b.1 ∧ a.2.2 ≠ b.2.2) → D[i]? = some (x, v, b) → mfind x D 0 = some (i, v)
  | [], i, _, h => by simp at h
  | e :: D, 0, _, h => by simp at h; subst h; simp [mfind]
  | e :: D, i + 1, hp, h => by
    obtain ⟨h1, h2⟩ := List.pairwise_cons.1 hp
    have hm : D[i]? = some (x, v, b) := by simpa using h
    have hne := (h1 _ (List.mem_of_getElem? hm)).1
    have hne : ¬ x = e.1 := fun e' => hne e'.symm
    rw [mfind, if_neg hne, mfind_shift, mfind_at h2 hm]
    rfl
theorem mfind_app {x : κ} {q : κ × Value × Nat} : ∀ {D : MD κ}, mfind x D 0 = none → mfind x (D ++ [q]) 0 = if x = q.1 then some (D.length, q.2.1) else none
  | [], _ => by simp [mfind]
  | e :: D, h => by
    unfold mfind at h
    split at h
    · cases h
    · rename_i hx
      rw [mfind_shift] at h
      have hm : mfind x D 0 = none := by cases hm : mfind x D 0 with | none => rfl | some q => rw [hm] at h; cases h
      rw [List.cons_append, mfind, if_neg hx, mfind_shift, mfind_app hm]
      split <;> simp
theorem mfind_app' {x : κ} {q : κ × Value × Nat} {r : Nat × Value} : ∀ {D : MD κ}, mfind x D 0 = some r → mfind x (D ++ [q]) 0 = some r
  | [], h => by simp [mfind] at h
  | e :: D, h => by
    unfold mfind at h ⊢
    simp only [List.cons_append]
    split at h
    · rename_i hx; rw [if_pos hx]; exact h
    · rename_i hx
      rw [if_neg hx]
      rw [mfind_shift] at h ⊢
      cases hm : mfind x D 0 with
      | none => rw [hm] at h; cases h
      | some r' => rw [hm] at h; rw [mfind_app' hm]; exact h
theorem mat_app {x : κ} {D : MD κ} (hn : mfind x D 0 = none) (b : Nat) (y : κ) : mat z (D ++ [(x, z, b)]) y = mat z D y := by
  unfold mat
  cases hm : mfind y D 0 with
  | some r => rw [mfind_app' hm]
  | none =>
    rw [mfind_app hm]
    by_cases h : y = x
    · subst h; simp
    · simp [h]
theorem mset_mat {D : MD κ} {clock i b : Nat} {x : κ} {v0 : Value} (h : MGood D clock) (hi : D[i]? = some (x, v0, b)) (v : Value) (y : κ) : mat z (mset D i v) y = if y = x then v else mat z D y := by
  have hg := mset_good h i v
  by_cases hy : y = x
  · subst hy
    have h1 : (mset D i v)[i]? = some (y, v, b) := by rw [mset_get, hi]; simp
    unfold mat
    rw [mfind_at hg.1 h1]; simp
  · rw [if_neg hy]
    unfold mat
    cases hm : mfind y D 0 with
    | some r =>
      obtain ⟨b', hb'⟩ := mfind_some (i := r.1) (v := r.2) hm
      have hne : i ≠ r.1 := fun e => by rw [← e, hi] at hb'; simp at hb'; exact hy hb'.1.symm
      have h1 : (mset D i v)[r.1]? = some (y, r.2, b') := by rw [mset_get, hb']; simp [hne]
      rw [mfind_at hg.1 h1]
    | none =>
      have hno := mfind_none hm
      cases hm' : mfind y (mset D i v) 0 with
      | none => rfl
      | some r =>
        exfalso
        obtain ⟨b', hb'⟩ := mfind_some (i := r.1) (v := r.2) hm'
        rw [mset_get] at hb'
        cases hd : D[r.1]? with
        | none => rw [hd] at hb'; cases hb'
        | some e =>
          rw [hd] at hb'
          simp only [Option.map_some, Option.some.injEq] at hb'
          have : e.1 = y := by split at hb' <;> (rw [Prod.ext_iff] at hb'; exact hb'.1)
          exact hno e (List.mem_of_getElem? hd) this
theorem run_getMap {P : Program} {W : World} {n : Nat} {es : Array MapEntry} {cl : Nat} (h : W.heap[n]? = some (.map es cl)) : (getObj n).run P W = .ok (.map es cl) W := by simp [getObj, Sem.run, h]
def putMap (W : World) (n : Nat) (o : Obj) : World := { W with heap := W.heap.setIfInBounds n o }
theorem run_setMap {P : Program} {W : World} {n : Nat} {es : Array MapEntry} {cl : Nat} (o : Obj) (h : W.heap[n]? = some (.map es cl)) : (setObj n o).run P W = .ok () (putMap W n o) := by simp [setObj, Sem.run, h, putMap]
theorem putMap_at {W : World} {n : Nat} {o o' : Obj} (h : W.heap[n]? = some o) : (putMap W n o').heap[n]? = some o' := by
  have hlt : n < W.heap.size := lt_of_heap h
  simp [putMap, hlt]
theorem putMap_ne {W : World} {n b : Nat} {o' : Obj} (h : b ≠ n) : (putMap W n o').heap[b]? = W.heap[b]? := by simp [putMap, Ne.symm h]
/-- The region of a map is another. -/
theorem Rel.remap {a : Act} {W : World} {i n : Nat} {o o' : Obj} (hr : Rel B nt ⟨env, own, dfs⟩ a W) (hi : own[i]? = some (.obj n o)) :
    Rel B nt ⟨env, own.set i (.obj n o'), dfs⟩ a (putMap W n o') := by
  have hreg := hr.mem.at hi
  refine hr.keep (OLe.set hi rfl) (hr.mem.upd hi (fun b hb => hb) ?_ (by simp [putMap]) (fun b _ hb => putMap_ne hb) ⟨hreg.1, putMap_at hreg.2⟩)
  exact hr.mem.ext.turn (f := fun b => b = n) (fun b hb => by rw [hb]; exact hreg.1) rfl rfl rfl (by simp [putMap]) (Nat.le_refl _) (fun b _ hb => putMap_ne hb)
theorem kept_remap {a : Act} {W : World} {i n : Nat} {o : Oper} {q q' : Obj} {zs : List Nat} {Z : Nat → Prop} (hr : Rel B nt ⟨env, own, dfs⟩ a W) (hz : ZOk own zs Z) (hi : own[i]? = some (.obj n q)) (hn : i ∉ zs) (hk : kind o.op = 1) (hnw : isNew o.op = false := by rfl) : Kept B Z o.op W (putMap W n q') := by
  have hreg := hr.mem.at hi
  refine Kept.mk3 hnw (fun h => absurd (hk.symm.trans h) (by decide)) (fun hx => ⟨?_, by simp [putMap]⟩) (fun _ b hb _ => putMap_ne fun e => hz.apart hr.mem hi hn b hb e)
  exact hx.turn (f := fun b => b = n) (fun b hb => by rw [hb]; exact hreg.1) rfl rfl rfl (by simp [putMap]) (Nat.le_refl _) (fun b _ hb => putMap_ne hb)
theorem ox_lookup {T KT : TypeId} {x y : Operand} {ty : TypeId} {pos : String} {af : Array Edge} {g : Option (Nat × Bool)} {zs : List Nat} {N : St → Prop} {d n i cl : Nat} {D : MD κ} {v : Value} (k : κ) (ho : KOk C.P T KT ek z)
    (hx : ev env x = some (.v (.map (some n)))) (hy : ev env y = some (.v (ek k))) (hi : nth own i = some (.obj n (.map (encM ek D).toArray cl))) (hd : Nat.blt d nt = true) (hv : mat z D k = v)
    (hN : N ⟨(d, .v v) :: env, own, dfs⟩) : OX C B nt zs ⟨some d, .lookup T x y false, ty, pos, af, g⟩ N ⟨env, own, dfs⟩ := by
  intro a W Z hr hz nxt Q hn
  rw [nth_eq] at hi
  have hreg := hr.mem.at hi
  obtain ⟨VT, hu, hzv⟩ := ho.u
  have hrun : (execOp a.eval ⟨some d, .lookup T x y false, ty, pos, af, g⟩).run C.P W = .ok (.value v) W := by
    subst hv
    simp only [execOp, Instr.lookup, hr.atv hx, hr.atv hy, Sem.run_bind, run_underlying hu, Result.andThen_ok, run_getMap hreg.2, Sem.run_pure, ho.chk, ho.fnd]
    unfold mat
    cases mfind k D 0 with
    | none => simp [hzv, Sem.run_bind, Result.andThen_ok]
    | some r => simp [Sem.run_bind, Result.andThen_ok]
  unfold Oper.wp
  rw [hrun, Oper.upon_value]
  exact hn _ _ _ hN (hr.put (by simpa using hd) _ _ (OLe.refl _) rfl hr.mem) hz (Kept.ext (by simp [kind]) (Ext.refl _))
theorem ox_mapEntry {T KT : TypeId} {x y : Operand} {ty : TypeId} {pos : String} {af : Array Edge} {g : Option (Nat × Bool)} {zs : List Nat} {N : St → Prop} {d n i cl : Nat} {D : MD κ} {v : Value} {own' : MD κ → Nat → Own} (k : κ) (ho : KOk C.P T KT ek z)
    (hx : ev env x = some (.v (.map (some n)))) (hy : ev env y = some (.v (ek k))) (hi : nth own i = some (.obj n (.map (encM ek D).toArray cl))) (hd : Nat.blt d nt = true) (hni : notIn zs i = true) (hg : MGood D cl) (hv : mat z D k = v)
    (hw : ∀ D1 cl1, own.set i (.obj n (.map (encM ek D1).toArray cl1)) = own' D1 cl1)
    (hN : ∀ (D1 : MD κ) (cl1 b : Nat), MGood D1 cl1 → (∀ y, mat z D1 y = mat z D y) → (∃ j : Nat, D1[j]? = some (k, v, b)) → N ⟨(d, .v (.tuple #[v, .int .i64 b])) :: env, own' D1 cl1, dfs⟩) : OX C B nt zs ⟨some d, .mapEntry T x y, ty, pos, af, g⟩ N ⟨env, own, dfs⟩ := by
  intro a W Z hr hz nxt Q hn
  rw [nth_eq] at hi
  have hreg := hr.mem.at hi
  obtain ⟨VT, hu, hzv⟩ := ho.u
  have key : ∃ (D1 : MD κ) (cl1 b : Nat), MGood D1 cl1 ∧ (∀ y, mat z D1 y = mat z D y) ∧ (∃ j : Nat, D1[j]? = some (k, v, b)) ∧ (execOp a.eval ⟨some d, .mapEntry T x y, ty, pos, af, g⟩).run C.P W = .ok (.value (.tuple #[v, .int .i64 b])) (putMap W n (.map (encM ek D1).toArray cl1)) := by
    cases hm : mfind k D 0 with
    | some r =>
      obtain ⟨b, hb⟩ := mfind_some (i := r.1) (v := r.2) hm
      have hv' : r.2 = v := by rw [← hv]; unfold mat; rw [hm]
      rw [hv'] at hb
      refine ⟨D, cl, b, hg, fun _ => rfl, ⟨_, hb⟩, ?_⟩
      simp only [execOp, Instr.mapEntry, hr.atv hx, hr.atv hy, Sem.run_bind, run_underlying hu, Result.andThen_ok, run_getMap hreg.2, ho.chk, ho.fnd, hm, getD_at hb, Option.map_some, Option.getD_some, Instr.keyThatStays, ho.bits, if_true, Sem.run_pure, mod_key D hb, run_setMap _ hreg.2, goInt, hv']
    | none =>
      have hv' : z = v := by rw [← hv]; unfold mat; rw [hm]
      refine ⟨D ++ [(k, z, cl)], cl + 1, cl, ⟨?_, ?_⟩, mat_app hm cl, ⟨D.length, by rw [hv']; simp⟩, ?_⟩
      · refine List.pairwise_append.2 ⟨hg.1, List.pairwise_singleton _ _, fun p hp q hq => ?_⟩
        rw [List.mem_singleton] at hq
        subst hq
        exact ⟨mfind_none hm p hp, by have := hg.2 p hp; exact Nat.ne_of_lt this⟩
      · intro e he
        rcases List.mem_append.1 he with he | he
        · have := hg.2 e he; omega
        · rw [List.mem_singleton] at he; subst he; exact Nat.lt_succ_self _
      · simp only [execOp, Instr.mapEntry, hr.atv hx, hr.atv hy, Sem.run_bind, run_underlying hu, Result.andThen_ok, run_getMap hreg.2, ho.chk, ho.fnd, hm, hzv, Sem.run_pure, run_setMap _ hreg.2, goInt, hv']
        have e := encM_app (ek := ek) D (k, v, cl)
        simp only at e
        rw [e]
  obtain ⟨D1, cl1, b, h1, h2, h3, hrun⟩ := key
  have hm := hr.remap (o' := .map (encM ek D1).toArray cl1) hi
  rw [hw] at hm
  have hz' := hz.setne (o' := .obj n (.map (encM ek D1).toArray cl1)) (notIn_spec hni)
  rw [hw] at hz'
  unfold Oper.wp
  rw [hrun, Oper.upon_value]
  exact hn _ _ _ (hN D1 cl1 b h1 h2 h3) (hm.put (by simpa using hd) _ _ (OLe.refl _) rfl hm.mem) hz' (kept_remap hr hz hi (notIn_spec hni) rfl)
theorem ox_entryStore {T : TypeId} {x s y : Operand} {ty : TypeId} {pos : String} {af : Array Edge} {g : Option (Nat × Bool)} {zs : List Nat} {N : St → Prop} {n i cl b : Nat} {D : MD κ} {v v0 : Value} {own' : MD κ → Own} (k : κ) (z : Value)
    (hx : ev env x = some (.v (.map (some n)))) (hs : ev env s = some (.v (.int .i64 b))) (hy : ev env y = some (.v v)) (hi : nth own i = some (.obj n (.map (encM ek D).toArray cl))) (hni : notIn zs i = true) (hg : MGood D cl) (hb : ∃ j : Nat, D[j]? = some (k, v0, b))
    (hw : ∀ D1, own.set i (.obj n (.map (encM ek D1).toArray cl)) = own' D1)
    (hN : ∀ D1 : MD κ, MGood D1 cl → (∀ y, mat z D1 y = if y = k then v else mat z D y) → N ⟨env, own' D1, dfs⟩) : OX C B nt zs ⟨none, .entryStore T x s y, ty, pos, af, g⟩ N ⟨env, own, dfs⟩ := by
  intro a W Z hr hz nxt Q hn
  rw [nth_eq] at hi
  have hreg := hr.mem.at hi
  obtain ⟨j, hj⟩ := hb
  have hlj := (List.getElem?_eq_some_iff.1 hj).1
  have hf : (encM ek D).toArray.findIdx? (fun e => (e.born : Int) == b) = some j := by
    rw [List.findIdx?_toArray, List.findIdx?_eq_some_iff_getElem]
    refine ⟨by simpa [encM] using hlj, ?_, fun j' hj' => ?_⟩
    · have := (List.getElem?_eq_some_iff.1 hj).2
      simp [encM, this]
    · have h2 : D[j']? = some (D[j']'(by omega)) := List.getElem?_eq_getElem _
      have h3 := (List.pairwise_iff_getElem.1 hg.1 j' j (by omega) hlj hj').2
      rw [(List.getElem?_eq_some_iff.1 hj).2] at h3
      simp only [encM, List.getElem_map, beq_iff_eq]
      intro e
      exact h3 (Int.ofNat.inj e)
  have hrun : (execOp a.eval ⟨none, .entryStore T x s y, ty, pos, af, g⟩).run C.P W = .ok .skip (putMap W n (.map (encM ek (mset D j v)).toArray cl)) := by
    simp only [execOp, Instr.entryStore, hr.atv hx, hr.atv hs, hr.atv hy, Sem.run_bind, Result.andThen_ok, run_getMap hreg.2, asInt, asIntOf, Sem.run_pure, hf, run_setMap _ hreg.2, encM_set]
  have hm := hr.remap (o' := .map (encM ek (mset D j v)).toArray cl) hi
  rw [hw] at hm
  have hz' := hz.setne (o' := .obj n (.map (encM ek (mset D j v)).toArray cl)) (notIn_spec hni)
  rw [hw] at hz'
  unfold Oper.wp
  rw [hrun]
  exact hn _ _ _ (hN _ (mset_good hg j v) (mset_mat hg hj v)) hm hz' (kept_remap hr hz hi (notIn_spec hni) rfl)
theorem run_findAsking {P : Program} {KT : TypeId} {ek : κ → Value} (heq : ∀ x y w, (Op.equal KT (ek x) (ek y)).run P w = .ok (decide (x = y)) w) (x : κ) (w : World) : ∀ (D : MD κ) (i : Nat), (Instr.findAsking KT (ek x) (encM ek D) i).run P w = .ok (mfind x D i) w
  | [], i => rfl
  | e :: D, i => by
    have ih := run_findAsking heq x w D (i + 1)
    simp only [encM, List.map_cons, Instr.findAsking, Sem.run_bind, heq, Result.andThen_ok, mfind, decide_eq_true_eq] at ih ⊢
    split
    · rfl
    · exact ih
theorem run_findStruct {P : Program} {KT : TypeId} {fs : Array Field} {ek : κ → Value} (hu : P.underlying KT = some (.struct fs)) (heq : ∀ x y w, (Op.equal KT (ek x) (ek y)).run P w = .ok (decide (x = y)) w) (x : κ) (D : MD κ) (w : World) : (Instr.findKey KT (ek x) (encM ek D)).run P w = .ok (mfind x D 0) w := by
  cases D with
  | nil => simp [Instr.findKey, Sem.run_bind, run_underlying hu, Result.andThen_ok, encM, Instr.findNow, mfind]
  | cons e D =>
    have h := run_findAsking heq x w (e :: D) 0
    simp only [Instr.findKey, Sem.run_bind, run_underlying hu, Result.andThen_ok]
    simp only [encM, List.map_cons, Instr.findNow, Instr.sameNow] at h ⊢
    exact h
end rules
end Go.Proofs.Ytflmehahkcijcaa
