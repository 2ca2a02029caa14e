/- Texts behind rows of bytes; the walk of ScriptBounds. -/
import Derived.Test.YtpfjolckhlgodaaDoorSs
import Derived.Lib.AppendStr
namespace Go.Proofs.YtpfjolckhlgodaaDoor
open Go Go.RowKit
set_option linter.unusedSimpArgs false
set_option maxHeartbeats 1000000
set_option linter.unusedVariables false
set_option maxRecDepth 4000
section rules
variable {C : Ctx} {B : Bas} {nt : Nat} {ρ : Option Nat} {env : Env} {own : Own} {dfs : List Deferred} {K : Exit → St → Prop} {σ : St}
theorem append_str_run {W : World} (hm : Mem B own W) {sT yT e : TypeId} {t te : Ty} {ty : TypeId} {k i n c n2 : Nat} {a ad : Option Addr} {xs ys : List Value} (s : ByteArray) (hn2 : s.size = n2) (hpos : 0 < n2) (hysd : Lib.strCells s = ys) (ht : C.ent sT = some t) (hs : t.slc = some (e, k)) (he : C.ent e = some te) (hk0 : 0 < k) (hz : te.zv.cells.size = k) (hy : C.P.underlying yT = some .string)
    (hi : own[i]? = some (.row a e (c * k) xs)) (hxs : xs.length = n * k) (hnc : n ≤ c) (hs1 : c ≠ 0 → ad = a) (hys : ys.length = n2 * k) (hbd : (n + n2) * te.bytes ≤ 140737488355328) (hbd2 : n + n2 ≤ 4611686018427387904) (hb0 : 0 < te.bytes) (hone : ∀ v ∈ ys, v.oneCell = true) :
    ∃ a' c' W', n + n2 ≤ c' ∧ (Builtin.append_ #[sT, yT] ty #[.slice ad n c, .string s]).run C.P W = .ok (.slice a' (n + n2) c') W' ∧ Mem B ((own.set i (.dead a)) ++ [.row a' e (c' * k) (xs ++ ys)]) W' ∧ (c' ≠ 0 → ∃ b, a' = some ⟨b, 0, none⟩) ∧
      W.heap.size ≤ W'.heap.size ∧ ∀ b, b < W.heap.size → ¬ (OB.row a e (c * k) xs).fp b → W'.heap[b]? = W.heap[b]? := by
  have hreg := hm.at hi
  have hlt := (List.getElem?_eq_some_iff.1 hi).1
  have hf : ∀ w, (Builtin.firstCells k n2 (.string s)).run C.P w = .ok ys.toArray w := fun w => by rw [← hn2, ← hysd]; exact Lib.run_firstCells_string w k s
  subst hn2
  obtain ⟨inf, hinf, htyi⟩ := bytes_run (C.ok _ te he)
  have hsz : ∀ w, (sizeOf e).run C.P w = .ok k w := ((C.ok _ t ht).c e k hs).2
  by_cases hle : n + s.size ≤ c
  · -- in place
    by_cases hc0 : c = 0
    · exfalso; omega
    · obtain ⟨b, cs, ha, hfr, hheap, hcs, hxm, hcell⟩ := hreg.2 (Nat.mul_ne_zero hc0 (by omega))
      have had := hs1 hc0
      subst had
      subst ha
      have hmul : n * k + s.size * k ≤ c * k := by rw [← Nat.add_mul]; exact Nat.mul_le_mul_right k hle
      obtain ⟨W', hrun, g2, g3, g4, g5, g6, g7, g8⟩ := storeCells_run (P := C.P) (n := b) (T := e) ys cs.toList (n * k) 0 W (by simpa using hheap) (by simp [hcs, hys]; omega) hone
      have hxt : ExtG B W' := hm.ext.turn (f := fun x => x = b) (fun x hx => by cases hx; exact hfr) g5 g6 g7 (by omega) (Dr.le (by omega)) (fun x _ hx => g4 x hx)
      refine ⟨some ⟨b, 0, none⟩, c, W', hle, ?_, ?_, fun _ => ⟨b, rfl⟩, by omega, fun x _ hx => g4 x fun e => hx ⟨Nat.mul_ne_zero hc0 (by omega), _, rfl, e⟩⟩
      · have h1 := hf W
        have h2 : (storeCells ((⟨b, 0, none⟩ : Addr).add (n * k)) ys).run C.P W = .ok () W' := by rw [addr_add, Nat.zero_add]; exact hrun
        simp [Builtin.append_, underlying_slc ht hs, run_underlying hy, hsz, Builtin.lenOf, hle, h1, h2]
      · refine Mem.move (hm.upd hi (fun x hx => hx) hxt (by omega) (fun x _ hx => g4 x fun e => hx ⟨Nat.mul_ne_zero hc0 (by omega), _, rfl, e⟩) ⟨fun h0 => absurd h0 (Nat.mul_ne_zero hc0 (by omega)), fun _ => ⟨b, _, rfl, hfr, g2, ?_, ?_, ?_⟩⟩) hlt
        · simp [setAt_len, hcs]
        · simp [hxs, hys]; exact hmul
        · intro j v hj
          have hlen : n * k + ys.length ≤ cs.toList.length := by simp [hcs, hys]; omega
          rw [List.getElem?_toArray, Nat.add_zero, setAt_get ys cs.toList (n * k) j hlen]
          rcases Nat.lt_or_ge j xs.length with h1 | h1
          · rw [List.getElem?_append_left h1] at hj
            rw [if_neg (by omega)]
            simpa using hcell j v hj
          · rw [List.getElem?_append_right h1] at hj
            have := (List.getElem?_eq_some_iff.1 hj).1
            rw [if_pos (by omega), ← hxs]; exact hj
  · -- grown
    obtain ⟨m, hmd⟩ : ∃ m, (Question.appendCap (n + s.size) c e).cut (W.tape W.drawn (Question.appendCap (n + s.size) c e)) = m := ⟨_, rfl⟩
    have hm1 : n + s.size ≤ m := by rw [← hmd]; simp only [Question.cut]; omega
    have hno : RdS W ad xs ∧ (c ≠ 0 → ∃ b lo, ad = some ⟨b, lo, none⟩) := by
      by_cases hc0 : c = 0
      · subst hc0
        have hx0 : xs = [] := List.length_eq_zero_iff.1 (by rw [hxs, show n = 0 by omega]; simp)
        subst hx0
        exact ⟨fun j v hj => by simp at hj, fun h => absurd rfl h⟩
      · obtain ⟨b, cs, ha, hfr, hheap, hcs, hxm, hcell⟩ := hreg.2 (Nat.mul_ne_zero hc0 (by omega))
        have had := hs1 hc0
        subst had; subst ha
        refine ⟨fun j v hj => ⟨b, 0, rfl, ?_⟩, fun _ => ⟨b, 0, rfl⟩⟩
        simp only [World.cell?, hheap, Nat.zero_add]
        simpa using hcell j v hj
    obtain ⟨hrx, hcx⟩ := hno
    obtain ⟨W1, hW1⟩ : ∃ W1 : World, W.drew = W1 := ⟨_, rfl⟩
    have rd1 : ∀ {a ys}, RdS W a ys → RdS W1 a ys := fun h j v hj => by subst hW1; exact h j v hj
    have h1 := first_run (P := C.P) (k := k) (rd1 hrx) hxs hcx hnc
    have h2 := hf W1
    have h63 : ¬ (9223372036854775807 < ((n : Int) + (s.size : Int))) := by omega
    have hfit : ¬ (281474976710656 < Builtin.nextslicecap (n + s.size) c * inf.bytes) := by
      have := growslice_fits (need := n + s.size) (old := c) (bytes := inf.bytes) (by omega) (by rw [hinf]; exact hbd)
      omega
    refine ⟨some ⟨W1.heap.size, 0, none⟩, m, W1.alloc (.cells (xs.toArray ++ ys.toArray ++ Builtin.zeroCells te.zv.cells (m - (n + s.size))) e), hm1, ?_, ?_, fun _ => ⟨_, rfl⟩, ?_, fun b hb _ => ?_⟩
    · simp [Builtin.append_, underlying_slc ht hs, hsz, run_underlying hy, Builtin.lenOf, hle, htyi, h63, hfit, askRoom, (C.ok _ te he).z, newRow_run]
      rw [if_neg (by simp [Question.forced]), hmd, hW1, h1, Result.andThen_ok, h2, Result.andThen_ok]
      simp only [Result.ok.injEq, Result.andThen_ok]
      simp
      rw [← Array.append_assoc]
      simp
    · have hx1 : Ext W W1 := by subst hW1; exact Ext.draw W
      have hx2 : Ext W (W1.alloc (.cells (xs.toArray ++ ys.toArray ++ Builtin.zeroCells te.zv.cells (m - (n + s.size))) e)) := hx1.trans (Ext.alloc _ _)
      have hs1 : W1.heap.size = W.heap.size := by subst hW1; rfl
      refine (hm.kill i a).push (hm.ext.ext hx2) hx2.below.size hx2.below.block ⟨fun h0 => ?_, fun h0 => ⟨W1.heap.size, _, rfl, .inl (by rw [hs1]; exact hm.ext.size), alloc_new _ _, ?_, ?_, ?_⟩⟩ ?_
      · have : m = 0 := by rcases Nat.mul_eq_zero.1 h0 with h | h; exact h; omega
        have : n + s.size = 0 := by omega
        exact List.length_eq_zero_iff.1 (by rw [List.length_append, hxs, hys, ← Nat.add_mul, this]; simp)
      · simp [zeroCells_size, hz, hxs, hys]
        rw [← Nat.add_mul, ← Nat.add_mul]; congr 1; omega
      · rw [List.length_append, hxs, hys, ← Nat.add_mul]; exact Nat.mul_le_mul_right k hm1
      · intro j v hj
        have := (List.getElem?_eq_some_iff.1 hj).1
        simp only [List.length_append] at this
        rw [Array.getElem?_append_left (by simpa using this)]
        simpa using hj
      · rintro b ⟨_, x, hx, rfl⟩
        cases hx
        rw [hs1]; exact Nat.le_refl _
    · subst hW1; rw [alloc_size]; exact Nat.le_succ _
    · subst hW1; exact alloc_old _ _ hb
/-- A text's bytes, as cells. -/
def Bc (u : Bs) : List Value := encs Zb.e (u.map fun b => (b.toNat : Int))
theorem Bc_cells (u : Bs) : Bc u = Lib.strCells ⟨u.toArray⟩ := by
  unfold Bc Lib.strCells
  rw [encs_b, List.map_map]
  rfl
theorem Bc_app (u v : Bs) : Bc (u ++ v) = Bc u ++ Lib.strCells ⟨v.toArray⟩ := by
  rw [Bc_cells, Bc_cells]
  unfold Lib.strCells
  simp
theorem Bc_len (u : Bs) : (Bc u).length = u.length * 1 := by
  unfold Bc
  rw [encs_len Zb.el, List.length_map]
theorem bytes_u (u : Bs) : bytesOf (u.map fun b => (b.toNat : Int)) = ⟨u.toArray⟩ := by
  unfold bytesOf
  rw [List.map_map]
  congr 2
  conv => rhs; rw [← List.map_id u]
  refine List.map_congr_left fun b _ => ?_
  show UInt8.ofNat ((b.toNat : Int).toNat) = b
  rw [Int.toNat_natCast]
  exact UInt8.ofNat_toNat
/-- append(row, text...). -/
theorem ox_appstr {zs : List Nat} {N : St → Prop} {d : Nat} {ty : TypeId} {pos : String} {af : Array Edge} {g : Option (Nat × Bool)} {x y : Operand} {sT yT e : Nat} {t te ty2 : Ty} {i c : Nat} {a : Option Addr} (u v : Bs) (hv0 : 0 < v.length) (hd : Nat.blt d nt = true) (hx : ev env x = some (.s i 0 u.length c)) (hy : ev env y = some (.v (strV v)))
    (hi : nth own i = some (.row a e (c * 1) (Bc u))) (hni : notIn zs i = true) (ht : C.ent sT = some t) (hs : t.slc = some (e, 1)) (he : C.ent e = some te) (hk : (Nat.beq te.zv.cells.toList.length 1 && Nat.beq te.bytes 1) = true) (ht2 : C.ent yT = some ty2) (hs2 : Nat.beq ty2.tag 2 = true) (hnc : u.length ≤ c) (hbd : u.length + v.length ≤ 140737488355328)
    {ℓ : Nat} (hℓ : idxL own = some ℓ) {own' : Nat → Option Addr → Own} (hw : ∀ c' a', forceK (snoc (own.set i (.dead a)) (.row a' e (c' * 1) (Bc (u ++ v)))) some = some (own' c' a')) (hN : ∀ c', (u ++ v).length ≤ c' → ∀ a', N ⟨(d, .s ℓ 0 (u ++ v).length c') :: env, own' c' a', dfs⟩) : OX C B nt zs ⟨some d, .call ⟨.builtin .append, ⟨[x, y]⟩, ⟨[sT, yT]⟩⟩, ty, pos, af, g⟩ N ⟨env, own, dfs⟩ := by
  intro act W Z hr hz nxt Q hn
  rw [nth_eq] at hi
  simp only [Bool.and_eq_true] at hk
  have hk3 := Nat.eq_of_beq_eq_true hk.1
  have hk4 := Nat.eq_of_beq_eq_true hk.2
  obtain ⟨o1, ad, ho1, hxe, hc1⟩ := hr.at hx
  rw [hi] at ho1; cases ho1
  have hye : act.eval y = strV v := hr.at hy
  have hlt := (List.getElem?_eq_some_iff.1 hi).1
  have hs1 : c ≠ 0 → ad = a := fun h0 => by
    obtain ⟨b, lo, hk1', rfl⟩ := hc1 h0
    have : a = some ⟨b, lo, none⟩ := hk1'
    rw [this]; rfl
  have hsz : (ByteArray.mk v.toArray).size = v.length := by show v.toArray.size = _; simp
  obtain ⟨a', c', W', h1, h2, h3, h4, h5, h6⟩ := append_str_run (ty := ty) hr.mem (k := 1) (n := u.length) (n2 := v.length) ⟨v.toArray⟩ hsz hv0 rfl ht hs he (by decide) (by simpa using hk3) (underlying_str ht2 hs2) hi (Bc_len u) hnc hs1 (by rw [Lib.strCells_length, hsz, Nat.mul_one]) (by rw [hk4]; omega) (by omega) (by omega) (fun z hz => Lib.strCells_oneCell _ z hz)
  rw [← Bc_app] at h3
  have hll : u.length + v.length = (u ++ v).length := by rw [List.length_append]
  rw [hll] at h1 h2
  unfold Oper.wp
  have hrun : (execOp act.eval ⟨some d, .call ⟨.builtin .append, ⟨[x, y]⟩, ⟨[sT, yT]⟩⟩, ty, pos, af, g⟩).run C.P W = .ok (.value (.slice a' (u ++ v).length c')) W' := by
    have : (#[x, y] : Array Operand).map act.eval = #[.slice ad u.length c, strV v] := by simp [hxe, hye]
    show (do let dd ← resolve act.eval ⟨.builtin .append, #[x, y], #[sT, yT]⟩ ty; invoke dd.target dd.args : Sem Next).run C.P W = _
    simp only [resolve, this, Sem.run_bind, Sem.run_pure, Result.andThen_ok, invoke, builtin]
    rw [show strV v = .string ⟨v.toArray⟩ from rfl, h2]
    rfl
  rw [hrun, Oper.upon_value]
  have hℓ := idxL_eq hℓ
  subst hℓ
  have hNx := hN c' h1 a'
  have hww := hw c' a'
  rw [forceK_eq, snoc_eq] at hww
  rw [← Option.some.inj hww] at hNx
  have hno := notIn_spec hni
  refine hn _ _ _ hNx (hr.put (by simpa using hd) _ _ ((OLe.set (o' := .dead a) hi rfl).trans (OLe.app _ _)) ⟨.row a' e (c' * 1) (Bc (u ++ v)), a', by simp, rfl, fun h0 => ?_⟩ h3) ((hz.setne hno).app) (Kept.mk3 rfl (fun h => by simp [kind] at h) (fun _ => ⟨h3.ext, h5⟩) (fun _ b hb hlt' => h6 b hlt' (hz.apart hr.mem hi hno b hb)))
  obtain ⟨b, hb⟩ := h4 h0
  exact ⟨b, 0, hb, hb⟩
theorem ov_val {o : Oper} {x z : Int} (h : x = z) (hv : pureV C env own o.op = some (.v (.int .i64 x))) : OV C B nt o (.v (.int .i64 z)) ⟨env, own, dfs⟩ := by
  subst h
  exact pure_ov hv
end rules
theorem and3 (a : Int) : ∃ n : Nat, n ≤ 3 ∧ bitsI .and .i64 a 3 = n := by
  have h : ((BitVec.ofInt IntKind.i64.bits a) &&& (BitVec.ofInt IntKind.i64.bits 3)).toNat ≤ 3 := by
    rw [BitVec.toNat_and]
    exact Nat.le_trans Nat.and_le_right (by decide)
  refine ⟨_, h, ?_⟩
  show IntKind.i64.wrap _ = _
  exact i64w _ (by omega) (by omega)
def x4 : Evn := ⟨4, 0, 0, 0, 0, []⟩
def e4 : Ev := ⟨4, 0, 0, 0, 0, ⟨none, 0, 0⟩⟩
def t4 : Bs := [52, 32, 48, 32, 48, 32, 48, 32, 48]
theorem x4_bd : x4.Bd := by
  refine ⟨?_, ?_, ?_, ?_, ?_, fun r hr => by simp [x4] at hr⟩ <;> simp only [x4] <;> unfold I64 <;> decide
theorem x4_line : lineT x4 = t4 := by
  have d : ∀ n : Nat, n < 10 → Lib.itoa (n : Int) = [UInt8.ofNat (48 + n)] := fun n h => by
    unfold Lib.itoa
    rw [if_neg (by omega), Int.toNat_natCast, dec_small h]
  have e0 : Lib.itoa 0 = [48] := d 0 (by decide)
  have e1 : Lib.itoa 4 = [52] := d 4 (by decide)
  simp only [lineT, wordsT, numsT, x4, e0, e1, List.map_nil, List.append_nil, Lib.join_cons, Lib.joinTail, List.map_cons, List.flatten_cons, List.flatten_nil, List.cons_append, List.nil_append]
  rfl
theorem print4 (n : Nat) : printT (List.replicate (n + 1) x4) = printT (List.replicate n x4) ++ (t4 ++ [10]) := by
  rw [List.replicate_succ', printT_snoc, x4_line]
theorem print4_len : ∀ n, (printT (List.replicate n x4)).length = n * 10
  | 0 => rfl
  | n + 1 => by
    rw [print4, List.length_append, print4_len n]
    simp [t4]
    omega
theorem evs4 (W : World) : ∀ n, EvsAt W (List.replicate n e4) (List.replicate n x4)
  | 0 => .nil
  | n + 1 => .cons ⟨rfl, rfl, rfl, rfl, rfl, ⟨rfl, Nat.le_refl _, fun h => absurd rfl h, fun j v hj => by simp [x4, encs] at hj⟩⟩ (evs4 W n)
attribute [local irreducible] JC JL OX OV Kthen Kblock JR FendG
attribute [local irreducible] footE lineT spl parseP printT bitsI
theorem scriptBounds_w (more : Int) (w : World) (hG : Gl w) : Calls C.P 8 [.int .i64 more].toArray w (PV w (.bool true)) := by
  have hsh : ∀ W, Ext w W → Calls C.P 9 ([] : List Value).toArray W (PV W (.bool true)) := fun W hx => shown_c W (hG.ext hx)
  obtain ⟨k, hk, hE⟩ := and3 more
  refine calls_v Tryd.func8 rfl _ Tryd.ntmps8 rfl ?_
  repeat' (first | (guard_target =~ JL _ _ _ _ _ _ _ _; first | refine jl_v rfl rfl rfl rfl (ov_val hE rfl) ?_ | refine jl_nil ?_ | refine jl_same rfl rfl rfl rfl rfl ?_ | refine jl_v rfl rfl rfl rfl (ov_int rfl rfl (by simp only [inK]; omega)) ?_ | refine jl_p rfl rfl rfl rfl rfl ?_ | refine jl_s rfl rfl rfl ?_ | refine jl_st rfl rfl rfl rfl ?_ | refine jl_n rfl rfl rfl rfl rfl (fun n => rfl) (fun n => ?_) | refine jl_x rfl rfl (ox_pvm 9 ((fun W hm => hsh W hm.ext.to)) rfl rfl rfl rfl (fun _ _ => by kernel_rfl) ?_) | ((fail_if_success (refine jl_gt rfl ?_)); first | (refine jl_split_lt rfl rfl rfl (fun hc => ?_) (fun hc => ?_)) | (refine jl_split_ge rfl rfl rfl (fun hc => ?_) (fun hc => ?_)) | (refine jl_split_eq rfl rfl rfl (fun hc => ?_) (fun hc => ?_)) | (refine jl_split_ne rfl rfl rfl (fun hc => ?_) (fun hc => ?_)) | (refine jl_split rfl rfl rfl (fun hc => ?_) (fun hc => ?_)))) | (guard_target =~ JO _ _ _ _ _ _ _ _; first | refine jo_v rfl rfl rfl rfl rfl (ov_val hE rfl) ?_ | refine JO.nil ?_ | refine JO.fork ?_ ?_ | refine jo_same rfl rfl rfl rfl rfl rfl ?_ | refine jo_v rfl rfl rfl rfl rfl (ov_int rfl rfl (by simp only [inK]; omega)) ?_ | refine jo_p rfl rfl rfl rfl rfl rfl ?_ | refine jo_s rfl rfl rfl rfl ?_ | refine jo_st rfl rfl rfl rfl rfl rfl ?_ | refine jo_n rfl rfl rfl rfl rfl rfl (fun n => rfl) (fun n => ?_) | refine jo_x rfl rfl rfl (ox_pvm 9 ((fun W hm => hsh W hm.ext.to)) rfl rfl rfl rfl (fun _ _ => by kernel_rfl) ?_) | ((fail_if_success (refine jo_gt rfl rfl ?_)); first | (refine jo_split_lt rfl rfl rfl rfl (fun hc => ?_) (fun hc => ?_)) | (refine jo_split_ge rfl rfl rfl rfl (fun hc => ?_) (fun hc => ?_)) | (refine jo_split_eq rfl rfl rfl rfl (fun hc => ?_) (fun hc => ?_)) | (refine jo_split_ne rfl rfl rfl rfl (fun hc => ?_) (fun hc => ?_)) | (refine jo_split rfl rfl rfl rfl (fun hc => ?_) (fun hc => ?_)))) | (guard_target =~ JC _ _ _ _ _ _ _; first | refine jc_seq ?_ | refine jc_region ?_ | refine jc_drawn (by kernel_rfl) rfl ?_ | refine jc_cond_t rfl ?_ | refine jc_cond_f rfl ?_ | refine jc_cond_lt rfl (fun hc => ?_) (fun hc => ?_) | refine jc_cond_ge rfl (fun hc => ?_) (fun hc => ?_) | refine jc_cond_eq rfl (fun hc => ?_) (fun hc => ?_) | refine jc_cond_ne rfl (fun hc => ?_) (fun hc => ?_) | refine jc_cond rfl (fun hc => ?_) (fun hc => ?_) | refine jc_skip ?_ | refine jc_ret ?_ | refine jc_exit ?_ | refine jc_block ?_) | (guard_target =~ Kthen _ _ _ _; first | refine k_then ?_ | refine k_then_r ?_ | refine k_then_e ?_) | (guard_target =~ Kblock _ _ _ _; first | refine k_block_n ?_ | refine k_block_r ?_ | refine k_block_hit ?_ | refine k_block_miss rfl ?_) | (guard_target =~ JR _ _ _ _ _ _ _ _; refine jr_step ?_))
  refine jc_inv (fun z : Nat × List Ev × Bs × Option Addr × Nat × Option Addr × Nat => ⟨[(7, .v (.int .i64 z.1)), (6, .s 1 0 z.2.2.1.length z.2.2.2.2.2.2), (5, .s 0 0 z.2.1.length z.2.2.2.2.1), (4, .v (.int .i64 (2046 + (k : Int)))), (3, .v (.bool true))], [.row z.2.2.2.1 31 (z.2.2.2.2.1 * 6) (encs Ev.e z.2.1), .row z.2.2.2.2.2.1 5 (z.2.2.2.2.2.2 * 1) (Bc z.2.2.1)], []⟩) (fun z => z.1 ≤ 2046 + k ∧ z.2.1 = List.replicate z.1 e4 ∧ z.2.2.1 = printT (List.replicate z.1 x4) ∧ z.2.1.length ≤ z.2.2.2.2.1 ∧ z.2.2.1.length ≤ z.2.2.2.2.2.2) (fun z => 2046 + k - z.1) (0, [], [], _, 0, _, 0) ⟨Nat.zero_le _, rfl, by unfold printT; rfl, Nat.le_refl _, Nat.le_refl _⟩ (wk [0, 1] rfl rfl (by repeat' (first | exact EnvIn.nil | refine EnvIn.cons rfl rfl ?_))) ?_
  rintro ⟨i, F, u, a1, c1, a2, c2⟩ ⟨hi, hF, hu, hcF, hcu⟩
  dsimp only at hi hF hu hcF hcu ⊢
  have hul : u.length = i * 10 := by rw [hu, print4_len]
  have hFl : F.length = i := by rw [hF, List.length_replicate]
  by_cases hlt : i < 2046 + k
  · repeat' (first | (guard_target =~ JL _ _ _ _ _ _ _ _; first | refine jl_nil ?_ | refine jl_same rfl rfl rfl rfl rfl ?_ | refine jl_v rfl rfl rfl rfl (ov_int rfl rfl (by simp only [inK]; omega)) ?_ | refine jl_p rfl rfl rfl rfl rfl ?_ | refine jl_s rfl rfl rfl ?_ | refine jl_st rfl rfl rfl rfl ?_ | refine jl_n rfl rfl rfl rfl rfl (fun n => rfl) (fun n => ?_) | refine jl_x rfl rfl (ox_app Ev.el Ev.e1 (L := F) (M := [e4]) rfl rfl rfl rfl rfl rfl rfl rfl rfl rfl rfl rfl rfl (Sub.refl _) (by first | omega | (simp only [List.length_set, List.length_nil, List.length_append, List.length_cons, List.length_drop, List.length_take, List.length_singleton]; done) | (simp only [List.length_set, List.length_nil, List.length_append, List.length_cons, List.length_drop, List.length_take, List.length_singleton]; omega)) (by first | omega | (simp only [List.length_set, List.length_nil, List.length_append, List.length_cons, List.length_drop, List.length_take, List.length_singleton]; done) | (simp only [List.length_set, List.length_nil, List.length_append, List.length_cons, List.length_drop, List.length_take, List.length_singleton]; omega)) (by first | omega | (simp only [List.length_set, List.length_nil, List.length_append, List.length_cons, List.length_drop, List.length_take, List.length_singleton]; done) | (simp only [List.length_set, List.length_nil, List.length_append, List.length_cons, List.length_drop, List.length_take, List.length_singleton]; omega)) (by first | omega | (simp only [List.length_set, List.length_nil, List.length_append, List.length_cons, List.length_drop, List.length_take, List.length_singleton]; done) | (simp only [List.length_set, List.length_nil, List.length_append, List.length_cons, List.length_drop, List.length_take, List.length_singleton]; omega)) rfl (fun _ _ => rfl) (fun c hc a => ?_)) | refine jl_x rfl rfl (ox_appstr u (t4 ++ [10]) (by decide) rfl rfl rfl rfl rfl rfl rfl rfl rfl rfl rfl hcu (by simp [t4]; omega) rfl (fun _ _ => rfl) (fun c hc a => ?_)) | ((fail_if_success (refine jl_gt rfl ?_)); first | (refine jl_split_lt rfl rfl rfl (fun hc => ?_) (fun hc => ?_)) | (refine jl_split_ge rfl rfl rfl (fun hc => ?_) (fun hc => ?_)) | (refine jl_split_eq rfl rfl rfl (fun hc => ?_) (fun hc => ?_)) | (refine jl_split_ne rfl rfl rfl (fun hc => ?_) (fun hc => ?_)) | (refine jl_split rfl rfl rfl (fun hc => ?_) (fun hc => ?_)))) | (guard_target =~ JO _ _ _ _ _ _ _ _; first | refine JO.nil ?_ | refine JO.fork ?_ ?_ | refine jo_same rfl rfl rfl rfl rfl rfl ?_ | refine jo_v rfl rfl rfl rfl rfl (ov_int rfl rfl (by simp only [inK]; omega)) ?_ | refine jo_p rfl rfl rfl rfl rfl rfl ?_ | refine jo_s rfl rfl rfl rfl ?_ | refine jo_st rfl rfl rfl rfl rfl rfl ?_ | refine jo_n rfl rfl rfl rfl rfl rfl (fun n => rfl) (fun n => ?_) | refine jo_x rfl rfl rfl (ox_app Ev.el Ev.e1 (L := F) (M := [e4]) rfl rfl rfl rfl rfl rfl rfl rfl rfl rfl rfl rfl rfl (Sub.refl _) (by first | omega | (simp only [List.length_set, List.length_nil, List.length_append, List.length_cons, List.length_drop, List.length_take, List.length_singleton]; done) | (simp only [List.length_set, List.length_nil, List.length_append, List.length_cons, List.length_drop, List.length_take, List.length_singleton]; omega)) (by first | omega | (simp only [List.length_set, List.length_nil, List.length_append, List.length_cons, List.length_drop, List.length_take, List.length_singleton]; done) | (simp only [List.length_set, List.length_nil, List.length_append, List.length_cons, List.length_drop, List.length_take, List.length_singleton]; omega)) (by first | omega | (simp only [List.length_set, List.length_nil, List.length_append, List.length_cons, List.length_drop, List.length_take, List.length_singleton]; done) | (simp only [List.length_set, List.length_nil, List.length_append, List.length_cons, List.length_drop, List.length_take, List.length_singleton]; omega)) (by first | omega | (simp only [List.length_set, List.length_nil, List.length_append, List.length_cons, List.length_drop, List.length_take, List.length_singleton]; done) | (simp only [List.length_set, List.length_nil, List.length_append, List.length_cons, List.length_drop, List.length_take, List.length_singleton]; omega)) rfl (fun _ _ => rfl) (fun c hc a => ?_)) | refine jo_x rfl rfl rfl (ox_appstr u (t4 ++ [10]) (by decide) rfl rfl rfl rfl rfl rfl rfl rfl rfl rfl rfl hcu (by simp [t4]; omega) rfl (fun _ _ => rfl) (fun c hc a => ?_)) | ((fail_if_success (refine jo_gt rfl rfl ?_)); first | (refine jo_split_lt rfl rfl rfl rfl (fun hc => ?_) (fun hc => ?_)) | (refine jo_split_ge rfl rfl rfl rfl (fun hc => ?_) (fun hc => ?_)) | (refine jo_split_eq rfl rfl rfl rfl (fun hc => ?_) (fun hc => ?_)) | (refine jo_split_ne rfl rfl rfl rfl (fun hc => ?_) (fun hc => ?_)) | (refine jo_split rfl rfl rfl rfl (fun hc => ?_) (fun hc => ?_)))) | (guard_target =~ JC _ _ _ _ _ _ _; first | (exfalso; omega) | refine jc_seq ?_ | refine jc_region ?_ | refine jc_drawn (by kernel_rfl) rfl ?_ | refine jc_cond_t rfl ?_ | refine jc_cond_f rfl ?_ | refine jc_cond_lt rfl (fun hc => ?_) (fun hc => ?_) | refine jc_cond_ge rfl (fun hc => ?_) (fun hc => ?_) | refine jc_cond_eq rfl (fun hc => ?_) (fun hc => ?_) | refine jc_cond_ne rfl (fun hc => ?_) (fun hc => ?_) | refine jc_cond rfl (fun hc => ?_) (fun hc => ?_) | refine jc_skip ?_ | refine jc_ret ?_ | refine jc_exit ?_ | refine jc_block ?_) | (guard_target =~ Kthen _ _ _ _; first | refine k_then ?_ | refine k_then_r ?_ | refine k_then_e ?_) | (guard_target =~ Kblock _ _ _ _; first | refine k_block_n ?_ | refine k_block_r ?_ | refine k_block_hit ?_ | refine k_block_miss rfl ?_) | (guard_target =~ JR _ _ _ _ _ _ _ _; refine jr_step ?_))
    have hF2 : F ++ [e4] = List.replicate (i + 1) e4 := by rw [hF, List.replicate_succ']
    have hu2 : u ++ (t4 ++ [10]) = printT (List.replicate (i + 1) x4) := by rw [hu, print4]
    exact ⟨(i + 1, F ++ [e4], u ++ (t4 ++ [10]), _, _, a, c), by dsimp only; exact ⟨by omega, hF2, hu2, by assumption, hc⟩, by dsimp only; omega, (wk [3, 4] rfl rfl (by repeat' (first | exact EnvIn.nil | refine EnvIn.cons rfl rfl ?_)))⟩
  · have hi2 : i = 2046 + k := by omega
    have hM : EvsAt w F (List.replicate i x4) := by rw [hF]; exact evs4 w i
    have hbd : ∀ x ∈ List.replicate i x4, x.Bd ∧ x.rs.length ≤ 1000000 := fun x hx => by
      rw [List.eq_of_mem_replicate hx]
      exact ⟨x4_bd, by simp [x4]⟩
    have hp1 := fun (t : Sv) W (hx : Ext w W) (h : RowAt W t F (List.replicate i x4)) => print_c t F _ hbd (by omega) W (hG.ext hx) h
    have hpar : ∀ W, Ext w W → Calls C.P 10 [strV u].toArray W (PG (parI (parseP u)) (parG (parseP u)) (parO (parseP u)) W) := fun W hx => parse_c u (by omega) W (hG.ext hx)
    by_cases hbig : 2048 < i
    · have hpT : prT (List.replicate i x4) = ([], 3) := by unfold prT; rw [if_pos (by rw [List.length_replicate]; exact hbig)]
      have hpP : parseP u = ([], 0, 3) := by unfold parseP; rw [if_pos (.inr (by rw [hu, count_print, List.length_replicate]; exact hbig))]
      rw [hpT] at hp1
      rw [hpP] at hpar
      dsimp only at hp1
      repeat' (first | (guard_target =~ JL _ _ _ _ _ _ _ _; first | refine jl_nil ?_ | refine jl_same rfl rfl rfl rfl rfl ?_ | refine jl_v rfl rfl rfl rfl (ov_int rfl rfl (by simp only [inK]; omega)) ?_ | refine jl_p rfl rfl rfl rfl rfl ?_ | refine jl_s rfl rfl rfl ?_ | refine jl_st rfl rfl rfl rfl ?_ | refine jl_n rfl rfl rfl rfl rfl (fun n => rfl) (fun n => ?_) | refine jl_name 31 rfl rfl (by decide) (fun _ => rfl) (fun ad => ?_) | refine jl_x rfl rfl (ox_pvm 15 ((fun W hm => hp1 ⟨ad, F.length, c1⟩ W hm.ext.to (rowAt_row hm (i := 2) rfl hcF (hM.ext hm.ext.to)))) rfl rfl rfl rfl (fun _ _ => by kernel_rfl) ?_) | refine jl_v rfl rfl rfl rfl ((ov_b2s (u.map fun b => (b.toNat : Int)) rfl rfl rfl rfl rfl rfl rfl rfl (Sub.refl _) (by rw [List.length_map]) hcu).as (congrArg Value.string (bytes_u u))) ?_ | refine jl_x rfl rfl (ox_gm 10 (fun _ _ => by kernel_rfl) ((fun W hm => hpar W hm.ext.to)) rfl rfl rfl rfl (fun _ => by first | exact trivial | exact And.intro trivial trivial | exact And.intro trivial (And.intro (loc_evs _ _) trivial)) (fun _ => rfl) (fun q hq => ?_)) | ((fail_if_success (refine jl_gt rfl ?_)); first | (refine jl_split_lt rfl rfl rfl (fun hc => ?_) (fun hc => ?_)) | (refine jl_split_ge rfl rfl rfl (fun hc => ?_) (fun hc => ?_)) | (refine jl_split_eq rfl rfl rfl (fun hc => ?_) (fun hc => ?_)) | (refine jl_split_ne rfl rfl rfl (fun hc => ?_) (fun hc => ?_)) | (refine jl_split rfl rfl rfl (fun hc => ?_) (fun hc => ?_)))) | (guard_target =~ JO _ _ _ _ _ _ _ _; first | refine JO.nil ?_ | refine JO.fork ?_ ?_ | refine jo_same rfl rfl rfl rfl rfl rfl ?_ | refine jo_v rfl rfl rfl rfl rfl (ov_int rfl rfl (by simp only [inK]; omega)) ?_ | refine jo_p rfl rfl rfl rfl rfl rfl ?_ | refine jo_s rfl rfl rfl rfl ?_ | refine jo_st rfl rfl rfl rfl rfl rfl ?_ | refine jo_n rfl rfl rfl rfl rfl rfl (fun n => rfl) (fun n => ?_) | refine jo_x rfl rfl rfl (ox_pvm 15 ((fun W hm => hp1 ⟨ad, F.length, c1⟩ W hm.ext.to (rowAt_row hm (i := 2) rfl hcF (hM.ext hm.ext.to)))) rfl rfl rfl rfl (fun _ _ => by kernel_rfl) ?_) | refine jo_v rfl rfl rfl rfl rfl ((ov_b2s (u.map fun b => (b.toNat : Int)) rfl rfl rfl rfl rfl rfl rfl rfl (Sub.refl _) (by rw [List.length_map]) hcu).as (congrArg Value.string (bytes_u u))) ?_ | refine jo_x rfl rfl rfl (ox_gm 10 (fun _ _ => by kernel_rfl) ((fun W hm => hpar W hm.ext.to)) rfl rfl rfl rfl (fun _ => by first | exact trivial | exact And.intro trivial trivial | exact And.intro trivial (And.intro (loc_evs _ _) trivial)) (fun _ => rfl) (fun q hq => ?_)) | ((fail_if_success (refine jo_gt rfl rfl ?_)); first | (refine jo_split_lt rfl rfl rfl rfl (fun hc => ?_) (fun hc => ?_)) | (refine jo_split_ge rfl rfl rfl rfl (fun hc => ?_) (fun hc => ?_)) | (refine jo_split_eq rfl rfl rfl rfl (fun hc => ?_) (fun hc => ?_)) | (refine jo_split_ne rfl rfl rfl rfl (fun hc => ?_) (fun hc => ?_)) | (refine jo_split rfl rfl rfl rfl (fun hc => ?_) (fun hc => ?_)))) | (guard_target =~ JC _ _ _ _ _ _ _; first | (exfalso; omega) | refine jc_seq ?_ | refine jc_region ?_ | refine jc_drawn (by kernel_rfl) rfl ?_ | refine jc_cond_t rfl ?_ | refine jc_cond_f rfl ?_ | refine jc_cond_lt rfl (fun hc => ?_) (fun hc => ?_) | refine jc_cond_ge rfl (fun hc => ?_) (fun hc => ?_) | refine jc_cond_eq rfl (fun hc => ?_) (fun hc => ?_) | refine jc_cond_ne rfl (fun hc => ?_) (fun hc => ?_) | refine jc_cond rfl (fun hc => ?_) (fun hc => ?_) | refine jc_skip ?_ | refine jc_ret ?_ | refine jc_exit ?_ | refine jc_block ?_) | (guard_target =~ Kthen _ _ _ _; first | refine k_then ?_ | refine k_then_r ?_ | refine k_then_e ?_) | (guard_target =~ Kblock _ _ _ _; first | refine k_block_n ?_ | refine k_block_r ?_ | refine k_block_hit ?_ | refine k_block_miss rfl ?_) | (guard_target =~ JR _ _ _ _ _ _ _ _; refine jr_step ?_))
      all_goals
        have hz : q.1.length = 0 := hq.1
        first
          | (exfalso; omega)
          | exact fin1 (.inr rfl) rfl (ris rfl) (fin_pv rfl)
    · have hpT : prT (List.replicate i x4) = (u, 0) := by rw [prT_few (by rw [List.length_replicate]; omega), hu]
      have hpP : parseP u = (List.replicate i x4, 0, 0) := by rw [hu]; exact parseP_print (fun x hx => (hbd x hx).1) (by rw [print4_len]; omega) (by rw [List.length_replicate]; omega)
      rw [hpT] at hp1
      rw [hpP] at hpar
      dsimp only at hp1
      repeat' (first | (guard_target =~ JL _ _ _ _ _ _ _ _; first | refine jl_nil ?_ | refine jl_same rfl rfl rfl rfl rfl ?_ | refine jl_v rfl rfl rfl rfl (ov_int rfl rfl (by simp only [inK]; omega)) ?_ | refine jl_p rfl rfl rfl rfl rfl ?_ | refine jl_s rfl rfl rfl ?_ | refine jl_st rfl rfl rfl rfl ?_ | refine jl_n rfl rfl rfl rfl rfl (fun n => rfl) (fun n => ?_) | refine jl_name 31 rfl rfl (by decide) (fun _ => rfl) (fun ad => ?_) | refine jl_x rfl rfl (ox_pvm 15 ((fun W hm => hp1 ⟨ad, F.length, c1⟩ W hm.ext.to (rowAt_row hm (i := 2) rfl hcF (hM.ext hm.ext.to)))) rfl rfl rfl rfl (fun _ _ => by kernel_rfl) ?_) | refine jl_v rfl rfl rfl rfl ((ov_b2s (u.map fun b => (b.toNat : Int)) rfl rfl rfl rfl rfl rfl rfl rfl (Sub.refl _) (by rw [List.length_map]) hcu).as (congrArg Value.string (bytes_u u))) ?_ | refine jl_x rfl rfl (ox_gm 10 (fun _ _ => by kernel_rfl) ((fun W hm => hpar W hm.ext.to)) rfl rfl rfl rfl (fun _ => by first | exact trivial | exact And.intro trivial trivial | exact And.intro trivial (And.intro (loc_evs _ _) trivial)) (fun _ => rfl) (fun q hq => ?_)) | ((fail_if_success (refine jl_gt rfl ?_)); first | (refine jl_split_lt rfl rfl rfl (fun hc => ?_) (fun hc => ?_)) | (refine jl_split_ge rfl rfl rfl (fun hc => ?_) (fun hc => ?_)) | (refine jl_split_eq rfl rfl rfl (fun hc => ?_) (fun hc => ?_)) | (refine jl_split_ne rfl rfl rfl (fun hc => ?_) (fun hc => ?_)) | (refine jl_split rfl rfl rfl (fun hc => ?_) (fun hc => ?_)))) | (guard_target =~ JO _ _ _ _ _ _ _ _; first | refine JO.nil ?_ | refine JO.fork ?_ ?_ | refine jo_same rfl rfl rfl rfl rfl rfl ?_ | refine jo_v rfl rfl rfl rfl rfl (ov_int rfl rfl (by simp only [inK]; omega)) ?_ | refine jo_p rfl rfl rfl rfl rfl rfl ?_ | refine jo_s rfl rfl rfl rfl ?_ | refine jo_st rfl rfl rfl rfl rfl rfl ?_ | refine jo_n rfl rfl rfl rfl rfl rfl (fun n => rfl) (fun n => ?_) | refine jo_x rfl rfl rfl (ox_pvm 15 ((fun W hm => hp1 ⟨ad, F.length, c1⟩ W hm.ext.to (rowAt_row hm (i := 2) rfl hcF (hM.ext hm.ext.to)))) rfl rfl rfl rfl (fun _ _ => by kernel_rfl) ?_) | refine jo_v rfl rfl rfl rfl rfl ((ov_b2s (u.map fun b => (b.toNat : Int)) rfl rfl rfl rfl rfl rfl rfl rfl (Sub.refl _) (by rw [List.length_map]) hcu).as (congrArg Value.string (bytes_u u))) ?_ | refine jo_x rfl rfl rfl (ox_gm 10 (fun _ _ => by kernel_rfl) ((fun W hm => hpar W hm.ext.to)) rfl rfl rfl rfl (fun _ => by first | exact trivial | exact And.intro trivial trivial | exact And.intro trivial (And.intro (loc_evs _ _) trivial)) (fun _ => rfl) (fun q hq => ?_)) | ((fail_if_success (refine jo_gt rfl rfl ?_)); first | (refine jo_split_lt rfl rfl rfl rfl (fun hc => ?_) (fun hc => ?_)) | (refine jo_split_ge rfl rfl rfl rfl (fun hc => ?_) (fun hc => ?_)) | (refine jo_split_eq rfl rfl rfl rfl (fun hc => ?_) (fun hc => ?_)) | (refine jo_split_ne rfl rfl rfl rfl (fun hc => ?_) (fun hc => ?_)) | (refine jo_split rfl rfl rfl rfl (fun hc => ?_) (fun hc => ?_)))) | (guard_target =~ JC _ _ _ _ _ _ _; first | (exfalso; omega) | refine jc_seq ?_ | refine jc_region ?_ | refine jc_drawn (by kernel_rfl) rfl ?_ | refine jc_cond_t rfl ?_ | refine jc_cond_f rfl ?_ | refine jc_cond_lt rfl (fun hc => ?_) (fun hc => ?_) | refine jc_cond_ge rfl (fun hc => ?_) (fun hc => ?_) | refine jc_cond_eq rfl (fun hc => ?_) (fun hc => ?_) | refine jc_cond_ne rfl (fun hc => ?_) (fun hc => ?_) | refine jc_cond rfl (fun hc => ?_) (fun hc => ?_) | refine jc_skip ?_ | refine jc_ret ?_ | refine jc_exit ?_ | refine jc_block ?_) | (guard_target =~ Kthen _ _ _ _; first | refine k_then ?_ | refine k_then_r ?_ | refine k_then_e ?_) | (guard_target =~ Kblock _ _ _ _; first | refine k_block_n ?_ | refine k_block_r ?_ | refine k_block_hit ?_ | refine k_block_miss rfl ?_) | (guard_target =~ JR _ _ _ _ _ _ _ _; refine jr_step ?_))
      all_goals
        have hz : q.1.length = i := hq.1.trans List.length_replicate
        first
          | (exfalso; omega)
          | exact fin1 (.inr rfl) rfl (ris rfl) (fin_pv rfl)
end Go.Proofs.YtpfjolckhlgodaaDoor
