/- Bytes taken apart: bytes.Equal, numbers of bytes; calls that lean on memory at an offset. -/
import Derived.Test.YtkdfdbjcfhmkaaaPu
import Derived.Test.YtkdfdbjcfhmkaaaPs
import Derived.Test.YtkdfdbjcfhmkaaaPr
namespace Go.Proofs.Ytkdfdbjcfhmkaaa
open Go Go.RowKit
set_option linter.unusedSimpArgs false
set_option maxHeartbeats 4000000
set_option linter.unusedVariables false
set_option maxRecDepth 4000
section rules
variable {C : Ctx} {B : Bas} {nt : Nat} {ρ : Option Nat} {env : Env} {own : Own} {dfs : List Deferred} {K : Exit → St → Prop} {σ : St}
/-- A slice that is told as a value lies in a region that is known. -/
theorem rel_unname_at {a : Act} {W : World} {d i off n c b lo : Nat} {o : OB} (hr : Rel B nt ⟨env, own, dfs⟩ a W) (hd : eget env d = some (.v (.slice (some ⟨b, lo + off, none⟩) n c))) (hi : nth own i = some o) (hk : o.key = some ⟨b, lo, none⟩) : Rel B nt ⟨(d, .s i off n c) :: env, own, dfs⟩ a W := by
  refine ⟨hr.size, hr.defers, fun d' e he => ?_, hr.mem⟩
  by_cases h : d = d'
  · subst h
    rw [eget_cons_self] at he; cases he
    rw [nth_eq] at hi
    exact ⟨_, _, hi, hr.env d _ hd, fun _ => ⟨b, lo, hk, rfl⟩⟩
  · rw [eget_cons_ne h] at he
    exact hr.env d' e he
theorem jl_unname_at {ops : Array Oper} {l : List Oper} (d i off : Nat) {n c b lo : Nat} {o : OB} (hd : eget env d = some (.v (.slice (some ⟨b, lo + off, none⟩) n c))) (hi : nth own i = some o) (hk : o.key = some ⟨b, lo, none⟩) (h : JL C B nt ρ ops K l ⟨(d, .s i off n c) :: env, own, dfs⟩) : JL C B nt ρ ops K l ⟨env, own, dfs⟩ :=
  fun a W hr => h a W (rel_unname_at hr hd hi hk)
theorem jc_unname_at {z : Code} (d i off : Nat) {n c b lo : Nat} {o : OB} (hd : eget env d = some (.v (.slice (some ⟨b, lo + off, none⟩) n c))) (hi : nth own i = some o) (hk : o.key = some ⟨b, lo, none⟩) (h : JC C B nt ρ z K ⟨(d, .s i off n c) :: env, own, dfs⟩) : JC C B nt ρ z K ⟨env, own, dfs⟩ :=
  fun a W hr => h a W (rel_unname_at hr hd hi hk)
/-- Calls with plain values that lean on memory at any offset. -/
theorem ox_gM {zs : List Nat} {ι : Type} {φ : ι → Prop} {G : ι → Value} {O : ι → Own} {N : St → Prop} {d : Nat} {ty : TypeId} {pos : String} {af : Array Edge} {g : Option (Nat × Bool)} (f : Nat) {first cap : List Value} {fo : Operand} {xs : List Operand} {vs us : List Value} {at_ : Array TypeId} (he : Enters C.P f)
    {mem : Mems} (hc : ConM C.P f us mem (PG φ G O)) (hmo : ∀ W, Mem B own W → MemR W mem) (hf : ev env fo = some (.v (.func (.func f) ⟨first⟩ ⟨cap⟩))) (hxs : argsV env own xs = some vs) (hus : appL first (appL vs cap) = us) (hd : Nat.blt d nt = true) (ho : ∀ x, (O x).all notRo = true)
    {own' : ι → Own} (hw : ∀ x, forceK (appL own (O x)) some = some (own' x)) (hN : ∀ x, φ x → N ⟨(d, .v (G x)) :: env, own' x, dfs⟩) : OX C B nt zs ⟨some d, .call ⟨.value fo, ⟨xs⟩, at_⟩, ty, pos, af, g⟩ N ⟨env, own, dfs⟩ := by
  intro a W Z hr hz nxt Q hn
  unfold Oper.wp
  rw [run_call hr hf he rfl _ rfl, Oper.upon_enter, argsV_eval hr hxs]
  have hcall := hc W (hmo W hr.mem)
  rw [← hus, appL_eq, appL_eq] at hcall
  rw [show (⟨first⟩ : Array Value) ++ vs.toArray ++ ⟨cap⟩ = (first ++ (vs ++ cap)).toArray by simp]
  refine hcall.mono ?_
  rintro e W' ⟨x, hx, rfl, hm⟩
  have hNx := hN x hx
  have hww := hw x
  rw [forceK_eq, appL_eq] at hww
  rw [← Option.some.inj hww] at hNx
  have hall : ∀ o ∈ O x, notRo o = true := List.all_eq_true.1 (ho x)
  exact hn _ _ _ hNx (hr.put (by simpa using hd) _ _ (OLe.app _ _) rfl (hr.mem.join hm hall)) hz.app (Kept.ext (by simp [kind]) hm.ext.to)
theorem fin_svx {w : World} {fn : Func} {e : Exit} {r s : ResultVar} {i n c T k : Nat} {a : Option Addr} {xs : List Value} {x : Value} (he : e = .normal ∨ e = .ret) (hf : fn.results = #[r, s]) (h : ResIs C (Bas.of w) nt ⟨env, own, []⟩ r (.slice a n c)) (h' : ResIs C (Bas.of w) nt ⟨env, own, []⟩ s x) (hi : nth own i = some (.row a T (c * k) xs)) (hn : n ≤ c) :
    FendG C (Bas.of w) nt fn (PSX T k n xs x w) e ⟨env, own, []⟩ :=
  fin2 he hf h h' fun W hm => ⟨(a, c), hn, rfl, hm.ext, fun q hq => by
    rw [List.mem_singleton] at hq; subst hq
    rw [nth_eq] at hi
    exact hm.at hi, List.pairwise_singleton _ _⟩
theorem ov_subN {a b : Nat} {o : Oper} (hv : pureV C env own o.op = some (.v (.int .i64 (IntKind.i64.wrap ((a : Int) - (b : Int)))))) (h : b ≤ a) (hl : a ≤ 4611686018427387904) : OV C B nt o (.v (.int .i64 ((a - b : Nat) : Int))) ⟨env, own, dfs⟩ :=
  OV.as (pure_ov hv) (by rw [i64w _ (by omega) (by omega)]; congr 1; omega)
/-- A slice from the very end on. -/
theorem ov_slicee (l : Nat) {dst : Option Tmp} {T : TypeId} {x : Operand} {lo hi mx : Option Operand} {ty : TypeId} {pos : String} {af : Array Edge} {g : Option (Nat × Bool)} {a0 : Option Addr} {n c es : Nat} {t : Ty} (hx : ev env x = some (.v (.slice a0 n c))) (ht : C.ent T = some t) (he : elemSize C t = some es) (hl : loB env 0 lo = some l) (hh : loB env n hi = some l) (hm : loB env c mx = some l) (hs : mxHi mx hi = true) (h3 : l ≤ c) :
    OV C B nt ⟨dst, .slice T x lo hi mx, ty, pos, af, g⟩ (.v (.slice a0 0 0)) ⟨env, own, dfs⟩ := by
  intro a W hr
  obtain ⟨e, hu, hsz⟩ := elemSize_spec ht he
  refine ⟨_, rfl, fun w _ => ?_⟩
  have hb := bounds_run (P := C.P) (s := true) (len := n) (cap := c) (loB_isB hr hl) (loB_isB hr hh) (loB_isB hr hm) (Nat.le_refl l) (Nat.le_refl l) h3 (by cases mx <;> cases hi <;> simp_all [mxHi]) w
  have hsl : (Instr.sliceAt T (.slice a0 n c) (lo.map a.eval) (hi.map a.eval) (mx.map a.eval)).run C.P w = .ok (.slice a0 0 0) w := by
    unfold Instr.sliceAt
    simp only [Sem.run_bind, run_underlying hu, Result.andThen_ok, Instr.slice, hb, hsz, Sem.run_pure]
    simp
  simp only [execOp, hr.atv hx, Sem.run_bind, hsl, Result.andThen_ok]
  rfl
end rules
/-- A row beside a value, and where it lies. -/
theorem PSX.at {T k n : Nat} {xs : List Value} {x : Value} {W W' : World} {e : Ending} (hk : 0 < k) (h : PSX T k n xs x W e W') : PG (fun q : Option Addr × Nat => n ≤ q.2 ∧ (q.2 ≠ 0 → ∃ b lo, q.1 = some ⟨b, lo, none⟩)) (fun q => .tuple #[.slice q.1 n q.2, x]) (fun q => [.row q.1 T (q.2 * k) xs]) W e W' := by
  obtain ⟨q, h1, h2, h3⟩ := h
  refine ⟨q, ⟨h1, fun h0 => ?_⟩, h2, h3⟩
  obtain ⟨b, cs, ha, _⟩ := (h3.reg _ (List.mem_singleton.2 rfl)).2 (Nat.mul_ne_zero h0 (by omega))
  exact ⟨b, 0, ha⟩
theorem ConM.at {P : Program} {f : FuncId} {us : List Value} {mem : Mems} {T k n : Nat} {xs : List Value} {x : Value} (hk : 0 < k) (h : ConM P f us mem (PSX T k n xs x)) : ConM P f us mem (PG (fun q : Option Addr × Nat => n ≤ q.2 ∧ (q.2 ≠ 0 → ∃ b lo, q.1 = some ⟨b, lo, none⟩)) (fun q => .tuple #[.slice q.1 n q.2, x]) (fun q => [.row q.1 T (q.2 * k) xs])) := fun W hm => (h W hm).mono fun _ _ h => h.at hk
theorem conM_of {P : Program} {f : FuncId} {ss : List AS} {us : List Value} {mem : Mems} {R : World → Ending → World → Prop} (h : Con P f ss R) (hu : ∀ W, MemR W mem → ASs W ss us) : ConM P f us mem R := fun W hm => h W us (hu W hm)
theorem drop_sub {L : List Int} {o n : Nat} : Sub (encs Zb.e L) o (encs Zb.e ((L.drop o).take n)) := by
  have := sub_encs Zb.el L (l := o) (n := n) (off := o) (by omega)
  exact this
theorem at_b {L : List Int} {i off : Nat} (h : i < L.length) (ho : off = i) : At (encs Zb.e L) off (Zb.e L[i]) := at_elem Zb.el h (by omega)
attribute [local irreducible] JC JL OX OV Kthen Kblock JR FendG strB
theorem bytesEqual_c (A D : List Int) (c c' : Nat) (hA : ∀ z ∈ A, isByte z) (hD : ∀ z ∈ D, isByte z) : Con C.P 54 [.r A.length c (encs Zb.e A), .r D.length c' (encs Zb.e D)] (fun W => PV W (.bool (decide (A = D)))) := by
  have h := strB_bytes hA hD
  refine con_b Try.func54 rfl _ Try.ntmps54 rfl (fun W α hB => ?_)
  have hB := hB; simp only [AsB] at hB; obtain ⟨hc1, hc2, -⟩ := hB
  repeat' (first | (guard_target =~ JL _ _ _ _ _ _ _ _; first | refine jl_nil ?_ | refine jl_same rfl rfl rfl rfl rfl ?_ | refine jl_v rfl rfl rfl rfl (ov_int rfl rfl (by simp only [inK]; omega)) ?_ | refine jl_p rfl rfl rfl rfl rfl ?_ | refine jl_s rfl rfl rfl ?_ | refine jl_st rfl rfl rfl rfl ?_ | refine jl_n rfl rfl rfl rfl rfl (fun n => rfl) (fun n => ?_) | refine jl_v rfl rfl rfl rfl (ov_b2s (A) rfl rfl rfl rfl rfl rfl rfl rfl (Sub.refl _) rfl (by first | assumption | omega)) ?_ | refine jl_v rfl rfl rfl rfl (ov_b2s (D) rfl rfl rfl rfl rfl rfl rfl rfl (Sub.refl _) rfl (by first | assumption | omega)) ?_ | ((fail_if_success (refine jl_gt rfl ?_)); first | (refine jl_split_lt rfl rfl rfl (fun hc => ?_) (fun hc => ?_)) | (refine jl_split_ge rfl rfl rfl (fun hc => ?_) (fun hc => ?_)) | (refine jl_split_eq rfl rfl rfl (fun hc => ?_) (fun hc => ?_)) | (refine jl_split_ne rfl rfl rfl (fun hc => ?_) (fun hc => ?_)) | (refine jl_split rfl rfl rfl (fun hc => ?_) (fun hc => ?_)))) | (guard_target =~ JO _ _ _ _ _ _ _ _; first | refine JO.nil ?_ | refine JO.fork ?_ ?_ | refine jo_same rfl rfl rfl rfl rfl rfl ?_ | refine jo_v rfl rfl rfl rfl rfl (ov_int rfl rfl (by simp only [inK]; omega)) ?_ | refine jo_p rfl rfl rfl rfl rfl rfl ?_ | refine jo_s rfl rfl rfl rfl ?_ | refine jo_st rfl rfl rfl rfl rfl rfl ?_ | refine jo_n rfl rfl rfl rfl rfl rfl (fun n => rfl) (fun n => ?_) | refine jo_v rfl rfl rfl rfl rfl (ov_b2s (A) rfl rfl rfl rfl rfl rfl rfl rfl (Sub.refl _) rfl (by first | assumption | omega)) ?_ | refine jo_v rfl rfl rfl rfl rfl (ov_b2s (D) rfl rfl rfl rfl rfl rfl rfl rfl (Sub.refl _) rfl (by first | assumption | omega)) ?_ | ((fail_if_success (refine jo_gt rfl rfl ?_)); first | (refine jo_split_lt rfl rfl rfl rfl (fun hc => ?_) (fun hc => ?_)) | (refine jo_split_ge rfl rfl rfl rfl (fun hc => ?_) (fun hc => ?_)) | (refine jo_split_eq rfl rfl rfl rfl (fun hc => ?_) (fun hc => ?_)) | (refine jo_split_ne rfl rfl rfl rfl (fun hc => ?_) (fun hc => ?_)) | (refine jo_split rfl rfl rfl rfl (fun hc => ?_) (fun hc => ?_)))) | (guard_target =~ JC _ _ _ _ _ _ _; first | refine jc_seq ?_ | refine jc_region ?_ | refine jc_drawn (by kernel_rfl) rfl ?_ | refine jc_cond_t rfl ?_ | refine jc_cond_f rfl ?_ | refine jc_cond_lt rfl (fun hc => ?_) (fun hc => ?_) | refine jc_cond_ge rfl (fun hc => ?_) (fun hc => ?_) | refine jc_cond_eq rfl (fun hc => ?_) (fun hc => ?_) | refine jc_cond_ne rfl (fun hc => ?_) (fun hc => ?_) | refine jc_cond rfl (fun hc => ?_) (fun hc => ?_) | refine jc_skip ?_ | refine jc_ret ?_ | refine jc_exit ?_ | refine jc_block ?_) | (guard_target =~ Kthen _ _ _ _; first | refine k_then ?_ | refine k_then_r ?_ | refine k_then_e ?_) | (guard_target =~ Kblock _ _ _ _; first | refine k_block_n ?_ | refine k_block_r ?_ | refine k_block_hit ?_ | refine k_block_miss rfl ?_) | (guard_target =~ JR _ _ _ _ _ _ _ _; refine jr_step ?_))
  exact fin1 (.inr rfl) rfl (ris rfl) (fin_pv (by rw [h]))
theorem bytesEqual_n {A D : List Int} {c c' n m : Nat} (hn : A.length = n) (hm : D.length = m) (hA : ∀ z ∈ A, isByte z) (hD : ∀ z ∈ D, isByte z) : Con C.P 54 [.r n c (encs Zb.e A), .r m c' (encs Zb.e D)] (fun W => PV W (.bool (decide (A = D)))) := by
  subst hn hm
  exact bytesEqual_c A D c c' hA hD
theorem sum_n' {L : List Int} {c n : Nat} (hn : L.length = n) (hL : n ≤ 4611686018427387904) : Con C.P 10 [.r n c (encs Zb.e L)] (fun W => PV W (.int .u32 (U (crcSum L)))) := by
  subst hn
  exact sum_c L c hL
/-- One byte more. -/
theorem shl_or {x c : Int} (h0 : 0 ≤ x) (h1 : x < 72057594037927936) (hc : isByte c) : bitsI .or .u64 (shI .shl .u64 x 8) (IntKind.u64.wrap c) = 256 * x + c := by
  obtain ⟨h2, h3⟩ := hc
  have e1 : shI .shl .u64 x 8 = x * 256 := by
    show IntKind.u64.wrap (x * 2 ^ 8) = _
    exact wrap_in (show inK .u64 _ from ⟨by omega, by omega⟩)
  have e2 : IntKind.u64.wrap c = c := wrap_in (show inK .u64 _ from ⟨by omega, by omega⟩)
  rw [e1, e2]
  obtain ⟨n, rfl⟩ : ∃ n : Nat, x = n := ⟨x.toNat, by omega⟩
  obtain ⟨m, rfl⟩ : ∃ n : Nat, c = n := ⟨c.toNat, by omega⟩
  show IntKind.u64.wrap ((BitVec.ofInt 64 (n * 256) ||| BitVec.ofInt 64 m).toNat : Int) = _
  have b1 : BitVec.ofInt 64 ((n : Int) * 256) = BitVec.ofNat 64 (n * 256) := by
    rw [show ((n : Int) * 256) = ((n * 256 : Nat) : Int) by omega]; exact BitVec.ofInt_natCast 64 _
  have b2 : BitVec.ofInt 64 (m : Int) = BitVec.ofNat 64 m := BitVec.ofInt_natCast 64 _
  rw [b1, b2, BitVec.toNat_or, BitVec.toNat_ofNat, BitVec.toNat_ofNat, Nat.mod_eq_of_lt (by omega), Nat.mod_eq_of_lt (by omega)]
  have e3 : n * 256 ||| m = 256 * n + m := by
    rw [show n * 256 = n <<< 8 by rw [Nat.shiftLeft_eq], ← Nat.shiftLeft_add_eq_or_of_lt (show m < 2 ^ 8 by omega), Nat.shiftLeft_eq]
    omega
  rw [e3]
  exact wrap_in (show inK .u64 _ from ⟨by omega, by omega⟩)
theorem unB_snoc (L : List Int) (c : Int) : unB (L ++ [c]) = 256 * unB L + c := by simp [unB]
theorem unB_range {L : List Int} (h : ∀ z ∈ L, isByte z) : ∀ k, k ≤ L.length → 0 ≤ unB (L.take k) ∧ unB (L.take k) < 256 ^ k
  | 0, _ => ⟨Int.le_refl 0, by show (0 : Int) < 256 ^ 0; decide⟩
  | k + 1, hk => by
    obtain ⟨h1, h2⟩ := unB_range h k (by omega)
    obtain ⟨h3, h4⟩ := h L[k] (List.getElem_mem _)
    rw [List.take_succ_eq_append_getElem (by omega), unB_snoc, Int.pow_succ]
    omega
theorem unB_take7 {L : List Int} (h : ∀ z ∈ L, isByte z) {k : Nat} (hk : k ≤ L.length) (h7 : k ≤ 7) : 0 ≤ unB (L.take k) ∧ unB (L.take k) < 72057594037927936 := by
  obtain ⟨h1, h2⟩ := unB_range h k hk
  have h3 : (256 : Nat) ^ k ≤ 256 ^ 7 := Nat.pow_le_pow_right (by decide) h7
  have e : (256 : Nat) ^ 7 = 72057594037927936 := by decide
  have e2 : (256 : Int) ^ k = ((256 ^ k : Nat) : Int) := by simp
  rw [e2] at h2
  omega
end Go.Proofs.Ytkdfdbjcfhmkaaa
