/- More of append: room made by zeros; slices of what was there, told as values. -/
import Derived.Test.YtpfjolckhlgodaaDoorWi
namespace Go.Proofs.YtpfjolckhlgodaaDoor
open Go Go.RowKit
section rules
variable {C : Ctx} {B : Bas} {nt : Nat} {ρ : Option Nat} {env : Env} {own : Own} {dfs : List Deferred} {K : Exit → St → Prop} {σ : St}
theorem rel_unname_ro {a : Act} {W : World} {d i n c : Nat} {ad : Option Addr} {xs : List Value} (hr : Rel B nt ⟨env, own, dfs⟩ a W) (hd : eget env d = some (.v (.slice ad n c))) (hi : nth own i = some (.ro ad xs)) (hk : c ≠ 0 → ∃ b lo, ad = some ⟨b, lo, none⟩) : Rel B nt ⟨(d, .s i 0 n c) :: env, own, dfs⟩ a W := by
  refine ⟨hr.size, hr.defers, fun d' e he => ?_, hr.mem⟩
  by_cases h : d = d'
  · subst h
    rw [eget_cons_self] at he; cases he
    rw [nth_eq] at hi
    refine ⟨_, ad, hi, hr.env d _ hd, fun h0 => ?_⟩
    obtain ⟨b, lo, hb⟩ := hk h0
    exact ⟨b, lo, hb, hb⟩
  · rw [eget_cons_ne h] at he
    exact hr.env d' e he
theorem jl_unname_ro {ops : Array Oper} {l : List Oper} (d i : Nat) {n c : Nat} {ad : Option Addr} {xs : List Value} (hd : eget env d = some (.v (.slice ad n c))) (hi : nth own i = some (.ro ad xs)) (hk : c ≠ 0 → ∃ b lo, ad = some ⟨b, lo, none⟩) (h : JL C B nt ρ ops K l ⟨(d, .s i 0 n c) :: env, own, dfs⟩) : JL C B nt ρ ops K l ⟨env, own, dfs⟩ :=
  fun a W hr => h a W (rel_unname_ro hr hd hi hk)
theorem underlying_int {T : TypeId} {t : Ty} {kd : IntKind} (ht : C.ent T = some t) (hs : t.int = some kd) (w : World) : (underlying T).run C.P w = .ok (.int kd) w := run_underlying ((C.ok T t ht).k kd hs) w
theorem appendz_run {W : World} (hm : Mem B own W) {sT yT e : TypeId} {t te ty2 : Ty} {ty : TypeId} {kd : IntKind} {k n2 : Nat} (ht : C.ent sT = some t) (hs : t.slc = some (e, k)) (he : C.ent e = some te) (hk0 : 0 < k) (hz : te.zv.cells.size = k) (hy : C.ent yT = some ty2) (hyi : ty2.int = some kd)
    (hn : 0 < n2) (hbd : n2 * te.bytes ≤ 140737488355328) (hb0 : 0 < te.bytes) :
    ∃ a' c' W', n2 ≤ c' ∧ (Builtin.append_ #[sT, yT] ty #[.slice none 0 0, .int .i64 n2]).run C.P W = .ok (.slice a' n2 c') W' ∧ Mem B (own ++ [.row a' e (c' * k) []]) W' ∧ (∃ b, a' = some ⟨b, 0, none⟩) ∧
      W.heap.size ≤ W'.heap.size ∧ ∀ b, b < W.heap.size → W'.heap[b]? = W.heap[b]? := by
  obtain ⟨inf, hinf, htyi⟩ := bytes_run (C.ok _ te he)
  have hsz : ∀ w, (sizeOf e).run C.P w = .ok k w := ((C.ok _ t ht).c e k hs).2
  obtain ⟨m, hmd⟩ : ∃ m, (Question.appendCap n2 0 e).cut (W.tape W.drawn (Question.appendCap n2 0 e)) = m := ⟨_, rfl⟩
  have hm1 : n2 ≤ m := by rw [← hmd]; simp only [Question.cut]; omega
  obtain ⟨W1, hW1⟩ : ∃ W1 : World, W.drew = W1 := ⟨_, rfl⟩
  have hn2 : n2 ≤ 140737488355328 := Nat.le_trans (Nat.le_mul_of_pos_right _ hb0) hbd
  have hw : IntKind.i64.wrap (n2 : Int) = n2 := i64w _ (by omega) (by omega)
  have hneg : ¬ ((n2 : Int) < 0) := by omega
  have hbig : ¬ (281474976710656 < (n2 : Int) * (inf.bytes : Int)) := by
    rw [hinf, ← Int.natCast_mul]
    omega
  have hai : ∀ w, (asInt (.int .i64 n2)).run C.P w = .ok (n2 : Int) w := fun _ => rfl
  have h0 : ¬ (n2 * k = 0) := Nat.mul_ne_zero (by omega) (by omega)
  have hle : ¬ (0 + n2 ≤ 0) := by omega
  have h63 : ¬ (9223372036854775807 < (n2 : Int)) := by omega
  have hfit : ¬ (281474976710656 < Builtin.nextslicecap n2 0 * inf.bytes) := by
    have := growslice_fits (need := n2) (old := 0) (bytes := inf.bytes) (by omega) (by rw [hinf]; exact hbd)
    omega
  refine ⟨some ⟨W1.heap.size, 0, none⟩, m, W1.alloc (.cells (#[] ++ Builtin.zeroCells te.zv.cells n2 ++ Builtin.zeroCells te.zv.cells (m - n2)) e), hm1, ?_, ?_, ⟨_, rfl⟩, ?_, fun b hb => ?_⟩
  · simp [Builtin.append_, underlying_slc ht hs, hsz, underlying_int hy hyi, hai, hw, hneg, htyi, hbig, h0, h63, hfit, askRoom, (C.ok _ te he).z, newRow_run, Builtin.firstCells]
    rw [if_neg (by omega), if_neg (by simp [Question.forced]), hmd, hW1]
    have hs1 : W1.heap.size = W.heap.size := by subst hW1; rfl
    rw [hs1]
  · have hx1 : Ext W W1 := by subst hW1; exact Ext.draw W
    have hx2 : Ext W (W1.alloc (.cells (#[] ++ Builtin.zeroCells te.zv.cells n2 ++ Builtin.zeroCells te.zv.cells (m - n2)) e)) := hx1.trans (Ext.alloc _ _)
    have hs1 : W1.heap.size = W.heap.size := by subst hW1; rfl
    refine hm.push (hm.ext.ext hx2) hx2.below.size hx2.below.block ⟨fun _ => rfl, fun _ => ⟨W1.heap.size, _, rfl, .inl (by rw [hs1]; exact hm.ext.size), alloc_new _ _, ?_, Nat.zero_le _, fun j v hj => by simp at hj⟩⟩ ?_
    · simp [zeroCells_size, hz]
      rw [← Nat.add_mul]; congr 1; omega
    · rintro b ⟨_, x, hx, rfl⟩
      cases hx
      rw [hs1]; exact Nat.le_refl _
  · subst hW1; rw [alloc_size]; exact Nat.le_succ _
  · subst hW1; exact alloc_old _ _ hb
/-- append(nil, zeros): a row, of which nothing is said. -/
theorem ox_appz {zs : List Nat} {N : St → Prop} {d : Nat} {ty : TypeId} {pos : String} {af : Array Edge} {g : Option (Nat × Bool)} {x y : Operand} {sT yT e : Nat} {t te ty2 : Ty} {kd : IntKind} {k n2 : Nat} (hd : Nat.blt d nt = true) (hx : ev env x = some (.v (.slice none 0 0))) {z : Int} (hy : ev env y = some (.v (.int .i64 z))) (hzn : z = (n2 : Int))
    (ht : C.ent sT = some t) (hs : t.slc = some (e, k)) (he : C.ent e = some te) (hk : (Nat.blt 0 k && (Nat.beq te.zv.cells.toList.length k && Nat.blt 0 te.bytes)) = true) (hk2 : Nat.ble te.bytes 4096 = true) (ht2 : C.ent yT = some ty2) (hs2 : ty2.int = some kd) (hn : 0 < n2) (hbd : n2 ≤ 34359738368)
    {ℓ : Nat} (hℓ : idxL own = some ℓ) {own' : Nat → Option Addr → Own} (hw : ∀ c' a', forceK (snoc own (.row a' e (c' * k) [])) some = some (own' c' a')) (hN : ∀ c', n2 ≤ c' → ∀ a', N ⟨(d, .s ℓ 0 n2 c') :: env, own' c' a', dfs⟩) : OX C B nt zs ⟨some d, .call ⟨.builtin .append, ⟨[x, y]⟩, ⟨[sT, yT]⟩⟩, ty, pos, af, g⟩ N ⟨env, own, dfs⟩ := by
  subst hzn
  intro act W Z hr hz nxt Q hnx
  simp only [Bool.and_eq_true] at hk
  obtain ⟨hk2', hk3, hk4⟩ := hk
  have hk2' : 0 < k := by simpa using hk2'
  have hk3 := Nat.eq_of_beq_eq_true hk3
  have hk4 : 0 < te.bytes := by simpa using hk4
  have hb : n2 * te.bytes ≤ 34359738368 * 4096 := Nat.mul_le_mul hbd (Nat.le_of_ble_eq_true hk2)
  obtain ⟨a', c', W', h1, h2, h3, h4, h5, h6⟩ := appendz_run (ty := ty) hr.mem ht hs he hk2' (by simpa using hk3) ht2 hs2 hn (by omega) hk4
  unfold Oper.wp
  have hrun : (execOp act.eval ⟨some d, .call ⟨.builtin .append, ⟨[x, y]⟩, ⟨[sT, yT]⟩⟩, ty, pos, af, g⟩).run C.P W = .ok (.value (.slice a' n2 c')) W' := by
    have : (#[x, y] : Array Operand).map act.eval = #[.slice none 0 0, .int .i64 n2] := by simp [hr.atv hx, hr.atv hy]
    show (do let dd ← resolve act.eval ⟨.builtin .append, #[x, y], #[sT, yT]⟩ ty; invoke dd.target dd.args : Sem Next).run C.P W = _
    simp only [resolve, this, Sem.run_bind, Sem.run_pure, Result.andThen_ok, invoke, builtin, h2]
  rw [hrun, Oper.upon_value]
  have hℓ := idxL_eq hℓ
  subst hℓ
  have hNx := hN c' h1 a'
  have hww := hw c' a'
  rw [forceK_eq, snoc_eq] at hww
  rw [← Option.some.inj hww] at hNx
  obtain ⟨b, hb⟩ := h4
  exact hnx _ _ _ hNx (hr.put (by simpa using hd) _ _ (OLe.app _ _) ⟨.row a' e (c' * k) [], a', by simp, rfl, fun _ => ⟨b, 0, hb, hb⟩⟩ h3) hz.app ⟨(fun h => by simp [kind] at h), fun _ => ⟨h3.ext, h5⟩, fun _ q _ hlt' => h6 q hlt'⟩
/-- The result is nil. -/
theorem fin_nil {w : World} {fn : Func} {e : Exit} {r : ResultVar} {T k : Nat} (he : e = .normal ∨ e = .ret) (hf : fn.results = #[r]) (h : ResE C (Bas.of w) nt ⟨env, own, []⟩ r (.v (.slice none 0 0))) (hk : 0 < k) : FendG C (Bas.of w) nt fn (PS T k 0 [] w) e ⟨env, own, []⟩ :=
  fin he (rs := [r]) hf (.cons h .nil) fun W hm vs hd => by
    cases hd with
    | cons h1 hd =>
      cases hd; cases h1
      exact ⟨none, 0, Nat.le_refl _, hk, rfl, hm.ext, fun q hq => by rw [List.mem_singleton] at hq; subst hq; exact ⟨fun _ => rfl, fun h => absurd (by simp) h⟩, List.pairwise_singleton _ _⟩
end rules
end Go.Proofs.YtpfjolckhlgodaaDoor
