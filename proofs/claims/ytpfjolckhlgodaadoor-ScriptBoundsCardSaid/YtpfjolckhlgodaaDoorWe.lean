/- Rows of any length: addresses of elements, loads and stores, slices of slices, append. -/
import Derived.Test.YtpfjolckhlgodaaDoorWd
import Derived.Laws.Append
namespace Go.Proofs.YtpfjolckhlgodaaDoor
open Go Go.RowKit
section rules
variable {C : Ctx} {B : Bas} {nt : Nat} {ρ : Option Nat} {env : Env} {own : Own} {dfs : List Deferred} {K : Exit → St → Prop} {σ : St}

/-! ### whole numbers that stay in their bounds -/
def isAr : Op → Bool
  | .binOp .add .. | .binOp .sub .. | .binOp .mul .. | .binOp .quo .. | .unOp .neg .. | .convert .. => true
  | _ => false
def inK : IntKind → Int → Prop
  | .i64, n => -9223372036854775808 ≤ n ∧ n ≤ 9223372036854775807
  | .i32, n => -2147483648 ≤ n ∧ n ≤ 2147483647
  | .u8, n => 0 ≤ n ∧ n ≤ 255
  | .u32, n => 0 ≤ n ∧ n ≤ 4294967295
  | .u64, n => 0 ≤ n ∧ n ≤ 18446744073709551615
  | _, _ => False
theorem wrap_in {k : IntKind} {n : Int} (h : inK k n) : k.wrap n = n := by
  cases k with
  | i64 => exact i64w n h.1 h.2
  | u8 => unfold IntKind.wrap; simp only [IntKind.bits, IntKind.signed, Bool.false_and]; obtain ⟨h1, h2⟩ := h; simp; omega
  | u32 => unfold IntKind.wrap; simp only [IntKind.bits, IntKind.signed, Bool.false_and]; obtain ⟨h1, h2⟩ := h; simp; omega
  | u64 => unfold IntKind.wrap; simp only [IntKind.bits, IntKind.signed, Bool.false_and]; obtain ⟨h1, h2⟩ := h; simp; omega
  | i32 =>
    obtain ⟨h1, h2⟩ := h
    unfold IntKind.wrap
    simp only [IntKind.bits, IntKind.signed, Bool.true_and, decide_eq_true_eq, Nat.add_one_sub_one]
    have h3 : (2 : Int) ^ (32 : Nat) = 4294967296 := by decide
    have h4 : (2 : Int) ^ (32 - 1 : Nat) = 2147483648 := by decide
    simp only [h3, h4, ge_iff_le, decide_eq_true_eq]
    split <;> omega
  | _ => exact h.elim
theorem ov_int {o : Oper} {k : IntKind} {n : Int} (hop : isAr o.op = true) (hv : pureV C env own o.op = some (.v (.int k (k.wrap n)))) (h : inK k n) : OV C B nt o (.v (.int k n)) ⟨env, own, dfs⟩ :=
  OV.as (pure_ov hv) (by rw [wrap_in h])

/-! ### elements of slices -/
theorem ov_index {dst : Option Tmp} {T : TypeId} {x y : Operand} {ty : TypeId} {pos : String} {af : Array Edge} {g : Option (Nat × Bool)} {i off n c m es : Nat} {k : IntKind} {z : Int} {t : Ty} (hx : ev env x = some (.s i off n c)) (hy : ev env y = some (.v (.int k z))) (ht : C.ent T = some t) (he : elemSize C t = some es) (hz : intOf2 z = some m) (hm : m < n) (hc : n ≤ c) :
    OV C B nt ⟨dst, .indexAddr T x y, ty, pos, af, g⟩ (.p i (off + m * es)) ⟨env, own, dfs⟩ := by
  intro a W hr
  obtain ⟨v, hv, hrun⟩ := index_s (k := k) ht he hm hc (hr.at hx)
  refine ⟨v, hv, fun w _ => ?_⟩
  rw [intOf2_eq hz] at hy
  simp only [execOp, hr.atv hy, Sem.run_bind, hrun, Result.andThen_ok]
  rfl
def At (xs : List Value) (off : Nat) (vs : List Value) : Prop := ∀ (j : Nat) (v : Value), vs[j]? = some v → xs[off + j]? = some v
theorem ov_load {dst : Option Tmp} {T : TypeId} {x : Operand} {ty : TypeId} {pos : String} {af : Array Edge} {g : Option (Nat × Bool)} {i off : Nat} {t : Ty} {xs vs : List Value} {r : Value} (hx : ev env x = some (.p i off)) (hc : contAt own i = some xs) (ht : C.ent T = some t) (hat : At xs off vs) (hl : Nat.beq vs.length t.size = true)
    (hr : ldV t.agg vs = some r) : OV C B nt ⟨dst, .load T x, ty, pos, af, g⟩ (.v r) ⟨env, own, dfs⟩ := by
  intro a W hrel
  obtain ⟨b, o, hp, hcell⟩ := den_cell (B := B) hc (hrel.at hx)
  refine ⟨_, rfl, fun w hw => ?_⟩
  have hrun : (loadVar T ⟨b, o, none⟩).run C.P w = .ok r w := load_run (C.ok _ t ht) (Nat.eq_of_beq_eq_true hl) (fun j v hj => hcell w hw j v (hat j v hj)) hr
  simp only [execOp, hp, Instr.loadAt, Instr.sureAddr, Sem.run_bind, Sem.run_pure, Result.andThen_ok, hrun]
theorem ov_slice {dst : Option Tmp} {T : TypeId} {x : Operand} {lo hi : Option Operand} {ty : TypeId} {pos : String} {af : Array Edge} {g : Option (Nat × Bool)} {i off n c l h es : Nat} {t : Ty} (hx : ev env x = some (.s i off n c)) (ht : C.ent T = some t) (he : elemSize C t = some es) (hl : loB env 0 lo = some l) (hh : loB env n hi = some h) (h1 : l ≤ h) (h2 : h ≤ c) :
    OV C B nt ⟨dst, .slice T x lo hi none, ty, pos, af, g⟩ (.s i (off + l * es) (h - l) (c - l)) ⟨env, own, dfs⟩ := by
  intro a W hr
  obtain ⟨v, hv, hrun⟩ := slice_s (mx := none) ht he (loB_isB hr hl) (loB_isB hr hh) (.inl ⟨rfl, rfl⟩) h1 h2 (Nat.le_refl c) (by simp) (hr.at hx)
  refine ⟨v, hv, fun w _ => ?_⟩
  simp only [execOp, Option.map_none, Sem.run_bind, hrun, Result.andThen_ok]
  rfl
theorem ov_slice3 {dst : Option Tmp} {T : TypeId} {x y : Operand} {lo hi : Option Operand} {ty : TypeId} {pos : String} {af : Array Edge} {g : Option (Nat × Bool)} {i off n c l h m es : Nat} {t : Ty} (hx : ev env x = some (.s i off n c)) (ht : C.ent T = some t) (he : elemSize C t = some es) (hl : loB env 0 lo = some l) (hh : loB env n hi = some h) (hm : loB env c (some y) = some m) (hs : mxHi (some y) hi = true) (h1 : l ≤ h) (h2 : h ≤ m) (h3 : m ≤ c) :
    OV C B nt ⟨dst, .slice T x lo hi (some y), ty, pos, af, g⟩ (.s i (off + l * es) (h - l) (m - l)) ⟨env, own, dfs⟩ := by
  intro a W hr
  obtain ⟨v, hv, hrun⟩ := slice_s (mx := some (a.eval y)) ht he (loB_isB hr hl) (loB_isB hr hh) (loB_isB (x := some y) hr hm) h1 h2 h3 (by cases hi <;> simp_all [mxHi]) (hr.at hx)
  refine ⟨v, hv, fun w _ => ?_⟩
  simp only [execOp, Option.map_some, Sem.run_bind, hrun, Result.andThen_ok]
  rfl

/-! ### rows of elements of one kind -/
/-- The cells of elements, one behind the other. -/
def encs {α : Type} (enc : α → List Value) (L : List α) : List Value := L.flatMap enc
theorem encs_len {α : Type} {enc : α → List Value} {k : Nat} (hk : ∀ x, (enc x).length = k) : ∀ (L : List α), (encs enc L).length = L.length * k
  | [] => by simp [encs]
  | x :: L => by
    have := encs_len hk L
    unfold encs at this ⊢
    simp [this, hk, Nat.succ_mul]; omega
theorem encs_app {α : Type} (enc : α → List Value) (L M : List α) : encs enc (L ++ M) = encs enc L ++ encs enc M := by simp [encs]
theorem encs_get {α : Type} {enc : α → List Value} {k : Nat} (hk : ∀ x, (enc x).length = k) : ∀ (L : List α) (m j : Nat) (h : m < L.length), j < k → (encs enc L)[m * k + j]? = (enc L[m])[j]?
  | [], m, j, h, _ => by simp at h
  | x :: L, 0, j, h, hj => by simp [encs, List.getElem?_append_left (show j < (enc x).length by rw [hk]; exact hj)]
  | x :: L, m + 1, j, h, hj => by
    have := encs_get hk L m j (by simpa using h) hj
    unfold encs at this ⊢
    simp only [List.flatMap_cons, List.getElem_cons_succ]
    rw [List.getElem?_append_right (by rw [hk, Nat.succ_mul]; omega), hk, ← this]
    congr 1
    rw [Nat.succ_mul]; omega
/-- Element m, from its cell j on. -/
theorem at_part {α : Type} {enc : α → List Value} {k : Nat} (hk : ∀ x, (enc x).length = k) {L : List α} {m j off : Nat} {vs : List Value} (h : m < L.length) (hl : j + vs.length ≤ k) (ho : off = m * k + j) (hv : ∀ (t : Nat) (v : Value), vs[t]? = some v → (enc L[m])[j + t]? = some v) : At (encs enc L) off vs := by
  intro t v ht
  have hlt := (List.getElem?_eq_some_iff.1 ht).1
  rw [ho, show m * k + j + t = m * k + (j + t) by omega, encs_get hk L m (j + t) h (by omega)]
  exact hv t v ht
theorem at_elem {α : Type} {enc : α → List Value} {k : Nat} (hk : ∀ x, (enc x).length = k) {L : List α} {m off : Nat} (h : m < L.length) (ho : off = m * k) : At (encs enc L) off (enc L[m]) :=
  at_part hk (j := 0) h (by rw [hk]; omega) (by omega) fun t v ht => by rw [Nat.zero_add]; exact ht
theorem encs_drop {α : Type} {enc : α → List Value} {k : Nat} (hk : ∀ x, (enc x).length = k) : ∀ (L : List α) (l : Nat), encs enc (L.drop l) = (encs enc L).drop (l * k)
  | L, 0 => by simp
  | [], l + 1 => by simp [encs]
  | x :: L, l + 1 => by
    have := encs_drop hk L l
    unfold encs at this ⊢
    simp only [List.drop_succ_cons, List.flatMap_cons, this]
    rw [List.drop_append, show (enc x).drop ((l + 1) * k) = [] from List.drop_eq_nil_of_le (by rw [hk, Nat.succ_mul]; omega), hk, List.nil_append]
    congr 1
    rw [Nat.succ_mul]; omega
theorem encs_take {α : Type} {enc : α → List Value} {k : Nat} (hk : ∀ x, (enc x).length = k) : ∀ (L : List α) (l : Nat), encs enc (L.take l) = (encs enc L).take (l * k)
  | L, 0 => by simp [encs]
  | [], l + 1 => by simp [encs]
  | x :: L, l + 1 => by
    have := encs_take hk L l
    unfold encs at this ⊢
    simp only [List.take_succ_cons, List.flatMap_cons, this]
    rw [List.take_append, show (enc x).take ((l + 1) * k) = enc x from List.take_of_length_le (by rw [hk, Nat.succ_mul]; omega), hk]
    congr 2
    rw [Nat.succ_mul]; omega
theorem sub_take {xs : List Value} {off n : Nat} : Sub xs off ((xs.drop off).take n) := fun j v h => by
  rw [List.getElem?_take] at h
  split at h
  · rw [List.getElem?_drop] at h; exact h
  · cases h
/-- A slice of a row, as a row of elements. -/
theorem sub_encs {α : Type} {enc : α → List Value} {k : Nat} (hk : ∀ x, (enc x).length = k) (L : List α) {l n off : Nat} (ho : off = l * k) : Sub (encs enc L) off (encs enc ((L.drop l).take n)) := by
  rw [encs_take hk, encs_drop hk, ho]; exact sub_take
theorem sub_drop {α : Type} {enc : α → List Value} {k : Nat} (hk : ∀ x, (enc x).length = k) {L : List α} {l : Nat} : Sub (encs enc L) (0 + l * k) (encs enc (L.drop l)) := by
  have := sub_encs hk L (l := l) (n := L.length) (off := 0 + l * k) (by omega)
  rw [List.take_of_length_le (by simp)] at this
  exact this
theorem sub_take0 {α : Type} {enc : α → List Value} {k : Nat} (hk : ∀ x, (enc x).length = k) {L : List α} {n : Nat} : Sub (encs enc L) (0 + 0 * k) (encs enc (L.take n)) := by
  have := sub_encs hk L (l := 0) (n := n) (off := 0 + 0 * k) (by omega)
  simpa using this
theorem am_l {α : Type} {enc : α → List Value} {L : List α} {i c : Nat} {es : List EV} {as : List AS} (hi : contAt own i = some (encs enc L)) (hc : L.length ≤ c) (h : AM own es as) : AM own (.s i 0 L.length c :: es) (.r L.length c (encs enc L) :: as) :=
  .r hi (Sub.refl _) (fun h0 => by have : L = [] := List.length_eq_zero_iff.1 (by omega)
                                   subst this; rfl) hc h
/-- A slice of a slice as an argument. -/
theorem am_sub {α : Type} {enc : α → List Value} {k : Nat} (hk : ∀ x, (enc x).length = k) {L M : List α} {i off l n c : Nat} {es : List EV} {as : List AS} (hi : contAt own i = some (encs enc L)) (ho : off = l * k) (hM : M = (L.drop l).take n) (hn : M.length = n) (hc : n ≤ c) (h : AM own es as) : AM own (.s i off n c :: es) (.r M.length c (encs enc M) :: as) := by
  have hs : Sub (encs enc L) off (encs enc M) := by rw [hM]; exact sub_encs hk L ho
  rw [hn]
  exact .r hi hs (fun h0 => by have : M = [] := List.length_eq_zero_iff.1 (by omega)
                               subst this; rfl) hc h

/-! ### append -/
/-- A region is told under a new number. -/
theorem Mem.move {W : World} {i : Nat} {o' : OB} {a : Option Addr} (h : Mem B (own.set i o') W) (hi : i < own.length) : Mem B ((own.set i (.dead a)) ++ [o']) W := by
  have ho : (own.set i o')[i]? = some o' := List.getElem?_set_self hi
  refine ⟨h.ext, fun q hq => ?_, List.pairwise_append.2 ⟨pairwise_of fun x y q q' hx hy hne => ?_, List.pairwise_singleton _ _, fun q hq q' hq' => ?_⟩⟩
  · rcases List.mem_append.1 hq with hq | hq
    · obtain ⟨j, hj⟩ := List.getElem?_of_mem hq
      by_cases e : i = j
      · subst e; rw [List.getElem?_set_self hi] at hj; cases hj; trivial
      · rw [List.getElem?_set_ne e] at hj
        exact h.at (i := j) (by rw [List.getElem?_set_ne e]; exact hj)
    · rw [List.mem_singleton] at hq; subst hq; exact h.at ho
  · by_cases e : i = x
    · subst e; rw [List.getElem?_set_self hi] at hx; cases hx; exact fun _ hf => hf.elim
    · by_cases e' : i = y
      · subst e'; rw [List.getElem?_set_self hi] at hy; cases hy; exact fun _ _ hf => hf.elim
      · rw [List.getElem?_set_ne e] at hx; rw [List.getElem?_set_ne e'] at hy
        exact h.apart (i := x) (j := y) (by rw [List.getElem?_set_ne e]; exact hx) (by rw [List.getElem?_set_ne e']; exact hy) hne
  · rw [List.mem_singleton] at hq'; subst hq'
    obtain ⟨j, hj⟩ := List.getElem?_of_mem hq
    by_cases e : i = j
    · subst e; rw [List.getElem?_set_self hi] at hj; cases hj; exact fun _ hf => hf.elim
    · rw [List.getElem?_set_ne e] at hj
      exact h.apart (i := j) (j := i) (by rw [List.getElem?_set_ne e]; exact hj) ho (fun e' => e e'.symm)
/-- A region is given up. -/
theorem Mem.kill {W : World} (h : Mem B own W) (i : Nat) (a : Option Addr) : Mem B (own.set i (.dead a)) W := by
  refine ⟨h.ext, fun q hq => ?_, pairwise_of fun x y q q' hx hy hne => ?_⟩
  · obtain ⟨j, hj⟩ := List.getElem?_of_mem hq
    by_cases e : i = j
    · subst e
      have hl := (List.getElem?_eq_some_iff.1 hj).1
      simp only [List.length_set] at hl
      rw [List.getElem?_set_self hl] at hj; cases hj; trivial
    · rw [List.getElem?_set_ne e] at hj; exact h.at hj
  · by_cases e : i = x
    · subst e
      have hl := (List.getElem?_eq_some_iff.1 hx).1
      simp only [List.length_set] at hl
      rw [List.getElem?_set_self hl] at hx; cases hx; exact fun _ hf => hf.elim
    · by_cases e' : i = y
      · subst e'
        have hl := (List.getElem?_eq_some_iff.1 hy).1
        simp only [List.length_set] at hl
        rw [List.getElem?_set_self hl] at hy; cases hy; exact fun _ _ hf => hf.elim
      · rw [List.getElem?_set_ne e] at hx; rw [List.getElem?_set_ne e'] at hy; exact h.apart hx hy hne
theorem loads_run {P : Program} {W : World} {a : Option Addr} {ys : List Value} (h : RdS W a ys) {b lo : Nat} (ha : a = some ⟨b, lo, none⟩) : (loadCells ⟨b, lo, none⟩ ys.length).run P W = .ok ys.toArray W := by
  unfold loadCells
  rw [loadCells_run ys lo 0 #[] fun j v hj => ?_]
  · simp
  · obtain ⟨b', lo', ha', hc⟩ := h j v hj
    rw [ha] at ha'; cases ha'
    rw [Nat.zero_add]; exact hc
theorem first_run {P : Program} {W : World} {a : Option Addr} {ys : List Value} {k n c : Nat} (h : RdS W a ys) (hl : ys.length = n * k) (hc : c ≠ 0 → ∃ b lo, a = some ⟨b, lo, none⟩) (hn : n ≤ c) : (Builtin.firstCells k n (.slice a n c)).run P W = .ok ys.toArray W := by
  cases a with
  | none =>
    have : c = 0 := by
      rcases Nat.eq_zero_or_pos c with h0 | h0
      · exact h0
      · obtain ⟨b, lo, hx⟩ := hc (by omega); cases hx
    have : n = 0 := by omega
    subst this
    have : ys = [] := List.length_eq_zero_iff.1 (by omega)
    subst this
    rfl
  | some x =>
    simp only [Builtin.firstCells]
    rw [← hl]
    cases ys with
    | nil => rfl
    | cons y ys =>
      obtain ⟨b, lo, hx, _⟩ := h 0 y rfl
      cases hx
      exact loads_run h rfl
theorem underlying_slc {T : TypeId} {t : Ty} {e k : Nat} (ht : C.ent T = some t) (hs : t.slc = some (e, k)) (w : World) : (underlying T).run C.P w = .ok (.slice e) w := run_underlying ((C.ok T t ht).c e k hs).1 w
theorem bytes_run {P : Program} {T : TypeId} {t : Ty} (h : TyOk P T t) : ∃ i : TypeInfo, i.bytes = t.bytes ∧ ∀ w, (typeInfo T).run P w = .ok i w := by
  have := h.i
  cases hi : P.info? T with
  | none => rw [hi] at this; cases this
  | some i =>
    rw [hi] at this
    simp only [Option.map_some, Option.some.injEq] at this
    exact ⟨i, this, fun w => by simp [typeInfo, program, Sem.run, bind, Sem.bind, hi, pure]⟩
theorem zeroCells_size {z : Array Value} {n : Nat} : (Builtin.zeroCells z n).size = n * z.size := by simp [Builtin.zeroCells]
theorem setAt_get : ∀ (vs cs : List Value) (off j : Nat), off + vs.length ≤ cs.length → (setAt cs off vs)[j]? = if off ≤ j ∧ j < off + vs.length then vs[j - off]? else cs[j]?
  | [], cs, off, j, _ => by simp [setAt]; omega
  | v :: vs, cs, off, j, h => by
    simp only [List.length_cons] at h
    unfold setAt
    rw [setAt_get vs (cs.set off v) (off + 1) j (by simp; omega)]
    simp only [List.length_cons]
    by_cases h1 : j = off
    · subst h1
      rw [if_neg (by omega), if_pos (by omega), List.getElem?_set_self (by omega)]; simp
    · by_cases h2 : off + 1 ≤ j ∧ j < off + 1 + vs.length
      · rw [if_pos h2, if_pos (by omega), show j - off = (j - (off + 1)) + 1 by omega]; simp
      · rw [if_neg h2, if_neg (by omega), List.getElem?_set_ne (by omega)]
/-- What append does, y a slice: the elements ys behind those of a row of the call's own. -/
theorem append_run {W : World} (hm : Mem B own W) {sT yT e e2 : TypeId} {t te : Ty} {ty : TypeId} {k i n c n2 c2 : Nat} {a ad a2 : Option Addr} {xs ys : List Value} (ht : C.ent sT = some t) (hs : t.slc = some (e, k)) (he : C.ent e = some te) (hk0 : 0 < k) (hz : te.zv.cells.size = k) (hy : C.P.underlying yT = some (.slice e2))
    (hi : own[i]? = some (.row a e (c * k) xs)) (hxs : xs.length = n * k) (hnc : n ≤ c) (hs1 : c ≠ 0 → ad = a) (hys : ys.length = n2 * k) (hrd : RdS W a2 ys) (hc2 : c2 ≠ 0 → ∃ b lo, a2 = some ⟨b, lo, none⟩) (hnc2 : n2 ≤ c2) (hbd : (n + n2) * te.bytes ≤ 140737488355328) (hbd2 : n + n2 ≤ 4611686018427387904) (hb0 : 0 < te.bytes) (hone : ∀ v ∈ ys, v.oneCell = true) :
    ∃ a' c' W', n + n2 ≤ c' ∧ (Builtin.append_ #[sT, yT] ty #[.slice ad n c, .slice a2 n2 c2]).run C.P W = .ok (.slice a' (n + n2) c') W' ∧ Mem B ((own.set i (.dead a)) ++ [.row a' e (c' * k) (xs ++ ys)]) W' ∧ (c' ≠ 0 → ∃ b, a' = some ⟨b, 0, none⟩) ∧
      W.heap.size ≤ W'.heap.size ∧ ∀ b, b < W.heap.size → ¬ (OB.row a e (c * k) xs).fp b → W'.heap[b]? = W.heap[b]? := by
  have hreg := hm.at hi
  have hlt := (List.getElem?_eq_some_iff.1 hi).1
  have hf := fun w (h : RdS w a2 ys) => first_run (P := C.P) h hys hc2 hnc2
  obtain ⟨inf, hinf, htyi⟩ := bytes_run (C.ok _ te he)
  have hsz : ∀ w, (sizeOf e).run C.P w = .ok k w := ((C.ok _ t ht).c e k hs).2
  by_cases hle : n + n2 ≤ c
  · -- in place
    by_cases hc0 : c = 0
    · subst hc0
      have hn0 : n = 0 := by omega
      have hn2 : n2 = 0 := by omega
      subst hn0; subst hn2
      have hy0 : ys = [] := List.length_eq_zero_iff.1 (by omega)
      have hx0 : xs = [] := List.length_eq_zero_iff.1 (by omega)
      subst hy0; subst hx0
      refine ⟨ad, 0, W, by omega, ?_, ?_, fun h => absurd rfl h, Nat.le_refl _, fun _ _ _ => rfl⟩
      · have := hf W hrd
        cases ad with
        | none => simp [Builtin.append_, underlying_slc ht hs, run_underlying hy, hsz, Builtin.lenOf, this]
        | some x => simp [Builtin.append_, underlying_slc ht hs, run_underlying hy, hsz, Builtin.lenOf, this, storeCells]
      · refine Mem.move (hm.upd hi (fun b hb => ?_) hm.ext (Nat.le_refl _) (fun _ _ _ => rfl) ⟨fun _ => rfl, fun h0 => absurd (by simp) h0⟩) hlt
        exact absurd (by simp) hb.1
    · obtain ⟨b, cs, ha, hfr, hheap, hcs, hxm, hcell⟩ := hreg.2 (Nat.mul_ne_zero hc0 (by omega))
      have had := hs1 hc0
      subst had
      subst ha
      have hmul : n * k + n2 * k ≤ c * k := by rw [← Nat.add_mul]; exact Nat.mul_le_mul_right k hle
      obtain ⟨W', hrun, g2, g3, g4, g5, g6, g7, g8⟩ := storeCells_run (P := C.P) (n := b) (T := e) ys cs.toList (n * k) 0 W (by simpa using hheap) (by simp [hcs, hys]; omega) hone
      have hxt : ExtG B W' := hm.ext.turn (f := fun x => x = b) (fun x hx => by cases hx; exact hfr) g5 g6 g7 (by omega) (Dr.le (by omega)) (fun x _ hx => g4 x hx)
      refine ⟨some ⟨b, 0, none⟩, c, W', hle, ?_, ?_, fun _ => ⟨b, rfl⟩, by omega, fun x _ hx => g4 x fun e => hx ⟨Nat.mul_ne_zero hc0 (by omega), _, rfl, e⟩⟩
      · have h1 := hf W hrd
        have h2 : (storeCells ((⟨b, 0, none⟩ : Addr).add (n * k)) ys).run C.P W = .ok () W' := by rw [addr_add, Nat.zero_add]; exact hrun
        simp [Builtin.append_, underlying_slc ht hs, run_underlying hy, hsz, Builtin.lenOf, hle, h1, h2]
      · refine Mem.move (hm.upd hi (fun x hx => hx) hxt (by omega) (fun x _ hx => g4 x fun e => hx ⟨Nat.mul_ne_zero hc0 (by omega), _, rfl, e⟩) ⟨fun h0 => absurd h0 (Nat.mul_ne_zero hc0 (by omega)), fun _ => ⟨b, _, rfl, hfr, g2, ?_, ?_, ?_⟩⟩) hlt
        · simp [setAt_len, hcs]
        · simp [hxs, hys]; exact hmul
        · intro j v hj
          have hlen : n * k + ys.length ≤ cs.toList.length := by simp [hcs, hys]; omega
          rw [List.getElem?_toArray, Nat.add_zero, setAt_get ys cs.toList (n * k) j hlen]
          rcases Nat.lt_or_ge j xs.length with h1 | h1
          · rw [List.getElem?_append_left h1] at hj
            rw [if_neg (by omega)]
            simpa using hcell j v hj
          · rw [List.getElem?_append_right h1] at hj
            have := (List.getElem?_eq_some_iff.1 hj).1
            rw [if_pos (by omega), ← hxs]; exact hj
  · -- grown
    obtain ⟨m, hmd⟩ : ∃ m, (Question.appendCap (n + n2) c e).cut (W.tape W.drawn (Question.appendCap (n + n2) c e)) = m := ⟨_, rfl⟩
    have hm1 : n + n2 ≤ m := by rw [← hmd]; simp only [Question.cut]; omega
    have hno : RdS W ad xs ∧ (c ≠ 0 → ∃ b lo, ad = some ⟨b, lo, none⟩) := by
      by_cases hc0 : c = 0
      · subst hc0
        have hx0 : xs = [] := List.length_eq_zero_iff.1 (by rw [hxs, show n = 0 by omega]; simp)
        subst hx0
        exact ⟨fun j v hj => by simp at hj, fun h => absurd rfl h⟩
      · obtain ⟨b, cs, ha, hfr, hheap, hcs, hxm, hcell⟩ := hreg.2 (Nat.mul_ne_zero hc0 (by omega))
        have had := hs1 hc0
        subst had; subst ha
        refine ⟨fun j v hj => ⟨b, 0, rfl, ?_⟩, fun _ => ⟨b, 0, rfl⟩⟩
        simp only [World.cell?, hheap, Nat.zero_add]
        simpa using hcell j v hj
    obtain ⟨hrx, hcx⟩ := hno
    obtain ⟨W1, hW1⟩ : ∃ W1 : World, W.drew = W1 := ⟨_, rfl⟩
    have rd1 : ∀ {a ys}, RdS W a ys → RdS W1 a ys := fun h j v hj => by subst hW1; exact h j v hj
    have h1 := first_run (P := C.P) (k := k) (rd1 hrx) hxs hcx hnc
    have h2 := first_run (P := C.P) (k := k) (rd1 hrd) hys hc2 hnc2
    have h63 : ¬ (9223372036854775807 < ((n : Int) + (n2 : Int))) := by omega
    have hfit : ¬ (281474976710656 < Builtin.nextslicecap (n + n2) c * inf.bytes) := by
      have := growslice_fits (need := n + n2) (old := c) (bytes := inf.bytes) (by omega) (by rw [hinf]; exact hbd)
      omega
    refine ⟨some ⟨W1.heap.size, 0, none⟩, m, W1.alloc (.cells (xs.toArray ++ ys.toArray ++ Builtin.zeroCells te.zv.cells (m - (n + n2))) e), hm1, ?_, ?_, fun _ => ⟨_, rfl⟩, ?_, fun b hb _ => ?_⟩
    · simp [Builtin.append_, underlying_slc ht hs, hsz, run_underlying hy, Builtin.lenOf, hle, htyi, h63, hfit, askRoom, (C.ok _ te he).z, newRow_run]
      rw [if_neg (by simp [Question.forced]), hmd, hW1, h1, Result.andThen_ok, h2, Result.andThen_ok]
      simp only [Result.ok.injEq, Result.andThen_ok]
      simp
      rw [← Array.append_assoc]
      simp
    · have hx1 : Ext W W1 := by subst hW1; exact Ext.draw W
      have hx2 : Ext W (W1.alloc (.cells (xs.toArray ++ ys.toArray ++ Builtin.zeroCells te.zv.cells (m - (n + n2))) e)) := hx1.trans (Ext.alloc _ _)
      have hs1 : W1.heap.size = W.heap.size := by subst hW1; rfl
      refine (hm.kill i a).push (hm.ext.ext hx2) hx2.below.size hx2.below.block ⟨fun h0 => ?_, fun h0 => ⟨W1.heap.size, _, rfl, .inl (by rw [hs1]; exact hm.ext.size), alloc_new _ _, ?_, ?_, ?_⟩⟩ ?_
      · have : m = 0 := by rcases Nat.mul_eq_zero.1 h0 with h | h; exact h; omega
        have : n + n2 = 0 := by omega
        exact List.length_eq_zero_iff.1 (by rw [List.length_append, hxs, hys, ← Nat.add_mul, this]; simp)
      · simp [zeroCells_size, hz, hxs, hys]
        rw [← Nat.add_mul, ← Nat.add_mul]; congr 1; omega
      · rw [List.length_append, hxs, hys, ← Nat.add_mul]; exact Nat.mul_le_mul_right k hm1
      · intro j v hj
        have := (List.getElem?_eq_some_iff.1 hj).1
        simp only [List.length_append] at this
        rw [Array.getElem?_append_left (by simpa using this)]
        simpa using hj
      · rintro b ⟨_, x, hx, rfl⟩
        cases hx
        rw [hs1]; exact Nat.le_refl _
    · subst hW1; rw [alloc_size]; exact Nat.le_succ _
    · subst hW1; exact alloc_old _ _ hb
/-- append: the region of the row goes on under a new number. -/
theorem ox_append {zs : List Nat} {N : St → Prop} {d : Nat} {ty : TypeId} {pos : String} {af : Array Edge} {g : Option (Nat × Bool)} {x y : Operand} {sT yT e e2 k2 : Nat} {t te ty2 : Ty} {k i j off n c n2 c2 : Nat} {a : Option Addr} {xs ys zs' : List Value} (hd : Nat.blt d nt = true) (hx : ev env x = some (.s i 0 n c)) (hy : ev env y = some (.s j off n2 c2))
    (hi : nth own i = some (.row a e (c * k) xs)) (hni : notIn zs i = true) (ht : C.ent sT = some t) (hs : t.slc = some (e, k)) (he : C.ent e = some te) (hk : (Nat.blt 0 k && (Nat.beq te.zv.cells.toList.length k && Nat.blt 0 te.bytes)) = true) (ht2 : C.ent yT = some ty2) (hs2 : ty2.slc = some (e2, k2))
    (hj : contAt own j = some zs') (hsub : Sub zs' off ys) (hxs : xs.length = n * k) (hnc : n ≤ c) (hys : ys.length = n2 * k) (hnc2 : n2 ≤ c2) (hbd : (n + n2) * te.bytes ≤ 140737488355328) (hone : ∀ v ∈ ys, v.oneCell = true)
    {ℓ : Nat} (hℓ : idxL own = some ℓ) {own' : Nat → Option Addr → Own} (hw : ∀ c' a', forceK (snoc (own.set i (.dead a)) (.row a' e (c' * k) (xs ++ ys))) some = some (own' c' a')) (hN : ∀ c', n + n2 ≤ c' → ∀ a', N ⟨(d, .s ℓ 0 (n + n2) c') :: env, own' c' a', dfs⟩) : OX C B nt zs ⟨some d, .call ⟨.builtin .append, ⟨[x, y]⟩, ⟨[sT, yT]⟩⟩, ty, pos, af, g⟩ N ⟨env, own, dfs⟩ := by
  intro act W Z hr hz nxt Q hn
  rw [nth_eq] at hi
  simp only [Bool.and_eq_true] at hk
  obtain ⟨hk2, hk3, hk4⟩ := hk
  have hk2 : 0 < k := by simpa using hk2
  have hk3 := Nat.eq_of_beq_eq_true hk3
  have hk4 : 0 < te.bytes := by simpa using hk4
  obtain ⟨o1, ad, ho1, hxe, hc1⟩ := hr.at hx
  rw [hi] at ho1; cases ho1
  obtain ⟨o2, a2, ho2, hye, hc2⟩ := hr.at hy
  have hlt := (List.getElem?_eq_some_iff.1 hi).1
  have hs1 : c ≠ 0 → ad = a := fun h0 => by
    obtain ⟨b, lo, hk1', rfl⟩ := hc1 h0
    obtain ⟨b', cs, ha, _⟩ := (hr.mem.at hi).2 (Nat.mul_ne_zero h0 (by omega))
    have : a = some ⟨b, lo, none⟩ := hk1'
    rw [this]; rfl
  have hrd : RdS W a2 ys := fun q v hq => by
    have hc20 : c2 ≠ 0 := fun e => by
      have : n2 = 0 := by omega
      have : ys = [] := List.length_eq_zero_iff.1 (by rw [hys, this]; simp)
      subst this; simp at hq
    obtain ⟨b, lo, hk1', rfl⟩ := hc2 hc20
    obtain ⟨o', ho', hco⟩ := contAt_spec hj
    rw [ho2] at ho'; cases ho'
    obtain ⟨b', lo', hk', hcell⟩ := hr.mem.cell ho2 hco (hsub q v hq)
    rw [hk1'] at hk'; cases hk'
    exact ⟨b, lo + off, rfl, by rw [Nat.add_assoc]; exact hcell⟩
  have hbd2 : n + n2 ≤ 4611686018427387904 := by
    have : (n + n2) * 1 ≤ (n + n2) * te.bytes := Nat.mul_le_mul_left _ hk4
    omega
  obtain ⟨a', c', W', h1, h2, h3, h4, h5, h6⟩ := append_run (ty := ty) hr.mem ht hs he hk2 (by simpa using hk3) ((C.ok _ ty2 ht2).c e2 _ hs2).1 hi hxs hnc hs1 hys hrd (fun h0 => let ⟨b, lo, _, hq⟩ := hc2 h0; ⟨b, lo + off, hq⟩) hnc2 hbd hbd2 hk4 hone
  unfold Oper.wp
  have hrun : (execOp act.eval ⟨some d, .call ⟨.builtin .append, ⟨[x, y]⟩, ⟨[sT, yT]⟩⟩, ty, pos, af, g⟩).run C.P W = .ok (.value (.slice a' (n + n2) c')) W' := by
    have : (#[x, y] : Array Operand).map act.eval = #[.slice ad n c, .slice a2 n2 c2] := by simp [hxe, hye]
    show (do let dd ← resolve act.eval ⟨.builtin .append, #[x, y], #[sT, yT]⟩ ty; invoke dd.target dd.args : Sem Next).run C.P W = _
    simp only [resolve, this, Sem.run_bind, Sem.run_pure, Result.andThen_ok, invoke, builtin, h2]
  rw [hrun, Oper.upon_value]
  have hℓ := idxL_eq hℓ
  subst hℓ
  have hNx := hN c' h1 a'
  have hww := hw c' a'
  rw [forceK_eq, snoc_eq] at hww
  rw [← Option.some.inj hww] at hNx
  have hno := notIn_spec hni
  refine hn _ _ _ hNx (hr.put (by simpa using hd) _ _ ((OLe.set (o' := .dead a) hi rfl).trans (OLe.app _ _)) ⟨.row a' e (c' * k) (xs ++ ys), a', by simp, rfl, fun h0 => ?_⟩ h3) ((hz.setne hno).app) (Kept.mk3 rfl (fun h => by simp [kind] at h) (fun _ => ⟨h3.ext, h5⟩) (fun _ b hb hlt' => h6 b hlt' (hz.apart hr.mem hi hno b hb)))
  obtain ⟨b, hb⟩ := h4 h0
  exact ⟨b, 0, hb, hb⟩
/-! ### the same, by elements -/
theorem at0 {α : Type} {enc : α → List Value} {k : Nat} (hk : ∀ x, (enc x).length = k) {L : List α} {m : Nat} (h : m < L.length) : At (encs enc L) (0 + m * k) (enc L[m]) := at_elem hk h (by omega)
theorem at1 {α : Type} {enc : α → List Value} {k : Nat} (hk : ∀ x, (enc x).length = k) {L : List α} {l m : Nat} (h : l + m < L.length) : At (encs enc L) (0 + l * k + m * k) (enc L[l + m]) := at_elem hk h (by rw [Nat.add_mul]; omega)
theorem at0p {α : Type} {enc : α → List Value} {k : Nat} (hk : ∀ x, (enc x).length = k) {L : List α} {m j : Nat} {v : Value} (h : m < L.length) (hj : j < k) (hv : (enc L[m])[j]? = some v) : At (encs enc L) (0 + m * k + j) [v] :=
  at_part (vs := [v]) (j := j) hk h (by simp only [List.length_singleton]; omega) (by omega) fun t u ht => by
    cases t with
    | zero => simp at ht; subst ht; simpa using hv
    | succ t => simp at ht
/-- append to a row of elements. -/
theorem ox_app {α : Type} {enc : α → List Value} {k : Nat} (hk : ∀ x, (enc x).length = k) (h1 : ∀ x, (enc x).all Value.oneCell = true) {L M : List α} {zs : List Nat} {N : St → Prop} {d : Nat} {ty : TypeId} {pos : String} {af : Array Edge} {g : Option (Nat × Bool)} {x y : Operand} {sT yT e e2 k2 : Nat} {t te ty2 : Ty} {i j off c n2 c2 : Nat} {a : Option Addr} {zs' : List Value} (hd : Nat.blt d nt = true) (hx : ev env x = some (.s i 0 L.length c)) (hy : ev env y = some (.s j off n2 c2))
    (hi : nth own i = some (.row a e (c * k) (encs enc L))) (hni : notIn zs i = true) (ht : C.ent sT = some t) (hs : t.slc = some (e, k)) (he : C.ent e = some te) (hk' : (Nat.blt 0 k && (Nat.beq te.zv.cells.toList.length k && Nat.blt 0 te.bytes)) = true) (hk2 : Nat.ble te.bytes 4096 = true) (ht2 : C.ent yT = some ty2) (hs2 : ty2.slc = some (e2, k2))
    (hj : contAt own j = some zs') (hsub : Sub zs' off (encs enc M)) (hM : M.length = n2) (hnc : L.length ≤ c) (hnc2 : n2 ≤ c2) (hbd : L.length + n2 ≤ 34359738368)
    {ℓ : Nat} (hℓ : idxL own = some ℓ) {own' : Nat → Option Addr → Own} (hw : ∀ c' a', forceK (snoc (own.set i (.dead a)) (.row a' e (c' * k) (encs enc (L ++ M)))) some = some (own' c' a')) (hN : ∀ c', (L ++ M).length ≤ c' → ∀ a', N ⟨(d, .s ℓ 0 (L ++ M).length c') :: env, own' c' a', dfs⟩) : OX C B nt zs ⟨some d, .call ⟨.builtin .append, ⟨[x, y]⟩, ⟨[sT, yT]⟩⟩, ty, pos, af, g⟩ N ⟨env, own, dfs⟩ := by
  have hb : (L.length + n2) * te.bytes ≤ 34359738368 * 4096 := Nat.mul_le_mul hbd (Nat.le_of_ble_eq_true hk2)
  refine ox_append hd hx hy hi hni ht hs he hk' ht2 hs2 hj hsub (encs_len hk L) hnc (by rw [encs_len hk, hM]) hnc2 (by omega) (fun v hv => ?_) hℓ (own' := own') (fun c' a' => by rw [← encs_app]; exact hw c' a') fun c' hc' a' => ?_
  · unfold encs at hv
    obtain ⟨q, _, hq⟩ := List.mem_flatMap.1 hv
    exact List.all_eq_true.1 (h1 q) v hq
  · have := hN c' (by rw [List.length_append, hM]; exact hc') a'
    rw [List.length_append, hM] at this
    exact this
/-- nil, as a row of no cells. -/
theorem rel_nil {a : Act} {W : World} {d T : Nat} (hr : Rel B nt ⟨env, own, dfs⟩ a W) (hd : eget env d = some (.v (.slice none 0 0))) : Rel B nt ⟨(d, .s own.length 0 0 0) :: env, snoc own (.row none T 0 []), dfs⟩ a W := by
  rw [snoc_eq]
  refine ⟨hr.size, hr.defers, fun d' e he => ?_, hr.mem.push hr.mem.ext (Nat.le_refl _) (fun _ _ => rfl) ⟨fun _ => rfl, fun h => absurd rfl h⟩ (fun b hb => absurd rfl hb.1)⟩
  by_cases c : d = d'
  · subst c
    rw [eget_cons_self] at he; cases he
    have := hr.env d _ hd
    exact ⟨.row none T 0 [], none, by simp, this, fun h => absurd rfl h⟩
  · rw [eget_cons_ne c] at he
    exact (hr.env d' e he).le (OLe.app _ _)
theorem jl_nilrow {ops : Array Oper} {l : List Oper} {d : Nat} (T : Nat) (hd : eget env d = some (.v (.slice none 0 0))) {ℓ : Nat} (hℓ : idxL own = some ℓ) {own' : Own} (hw : forceK (snoc own (.row none T 0 [])) some = some own') (h : JL C B nt ρ ops K l ⟨(d, .s ℓ 0 0 0) :: env, own', dfs⟩) : JL C B nt ρ ops K l ⟨env, own, dfs⟩ := by
  rw [forceK_eq] at hw
  cases hw
  have hℓ := idxL_eq hℓ
  subst hℓ
  exact fun a W hr => h a W (rel_nil hr hd)
theorem jc_nilrow {c : Code} (d T : Nat) (hd : eget env d = some (.v (.slice none 0 0))) {ℓ : Nat} (hℓ : idxL own = some ℓ) {own' : Own} (hw : forceK (snoc own (.row none T 0 [])) some = some own') (h : JC C B nt ρ c K ⟨(d, .s ℓ 0 0 0) :: env, own', dfs⟩) : JC C B nt ρ c K ⟨env, own, dfs⟩ := by
  rw [forceK_eq] at hw
  cases hw
  have hℓ := idxL_eq hℓ
  subst hℓ
  exact fun a W hr => h a W (rel_nil hr hd)
/-- The first part of a slice that is told as a value. -/
theorem ov_slice0 {dst : Option Tmp} {T : TypeId} {x : Operand} {hi : Option Operand} {ty : TypeId} {pos : String} {af : Array Edge} {g : Option (Nat × Bool)} {ad : Option Addr} {n c h es : Nat} {t : Ty} (hx : ev env x = some (.v (.slice ad n c))) (ht : C.ent T = some t) (he : elemSize C t = some es) (hh : loB env n hi = some h) (h2 : h ≤ c) :
    OV C B nt ⟨dst, .slice T x none hi none, ty, pos, af, g⟩ (.v (.slice ad h c)) ⟨env, own, dfs⟩ := by
  intro a W hr
  obtain ⟨e, hu, hs⟩ := elemSize_spec ht he
  refine ⟨_, rfl, fun w _ => ?_⟩
  have hb := bounds_run (P := C.P) (s := true) (len := n) (cap := c) (lo := none) (mx := none) (.inl ⟨rfl, rfl⟩) (loB_isB hr hh) (.inl ⟨rfl, rfl⟩) (Nat.zero_le h) h2 (Nat.le_refl c) (by simp) w
  have hsl : (Instr.sliceAt T (.slice ad n c) none (hi.map a.eval) none).run C.P w = .ok (.slice ad h c) w := by
    unfold Instr.sliceAt
    simp only [Sem.run_bind, run_underlying hu, Result.andThen_ok, Instr.slice, hb, hs, Sem.run_pure]
    congr 2
    split
    · rfl
    · cases ad <;> simp [Addr.add]
  simp only [execOp, Option.map_none, hr.atv hx, Sem.run_bind, hsl, Result.andThen_ok]
  rfl
/-- A function that gives a part of the slice that it is given. -/
theorem ox_pas {zs : List Nat} {N : St → Prop} {d : Nat} {ty : TypeId} {pos : String} {af : Array Edge} {g : Option (Nat × Bool)} (f : Nat) {x : Operand} {i off n c n' : Nat} {at_ : Array TypeId} (hc : ∀ a W, Calls C.P f [.slice a n c].toArray W (PV W (.slice a n' c))) (hx : evs env [x] = some [.s i off n c]) (hd : Nat.blt d nt = true) (he : Enters C.P f)
    (hN : N ⟨(d, .s i off n' c) :: env, own, dfs⟩) : OX C B nt zs ⟨some d, .call ⟨.value (.func f), ⟨[x]⟩, at_⟩, ty, pos, af, g⟩ N ⟨env, own, dfs⟩ := by
  intro a W Z hr hz nxt Q hn
  unfold Oper.wp
  have hds := evs_den hr hx
  rw [run_call (first := #[]) (cap := #[]) (xs := [x]) hr rfl he rfl _ rfl, Oper.upon_enter]
  cases hds with
  | cons h1 h2 =>
    obtain ⟨o, ad, ho, hv, hk⟩ := h1
    have hv' : a.eval x = .slice ad n c := hv
    rw [show (#[] : Array Value) ++ ([x].map a.eval).toArray ++ #[] = [Value.slice ad n c].toArray by simp [hv']]
    refine (hc ad W).mono ?_
    rintro e W' ⟨rfl, hxt⟩
    exact hn _ _ _ hN (hr.put (by simpa using hd) _ _ (OLe.refl _) ⟨o, ad, ho, rfl, hk⟩ (hr.mem.ext' hxt)) hz (Kept.ext (by simp [kind]) hxt)
end rules
end Go.Proofs.YtpfjolckhlgodaaDoor
