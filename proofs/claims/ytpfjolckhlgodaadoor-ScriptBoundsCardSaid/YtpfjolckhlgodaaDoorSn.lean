/- Rows of events in memory; scripts parsed. -/
import Derived.Test.YtpfjolckhlgodaaDoorSm
namespace Go.Proofs.YtpfjolckhlgodaaDoor
open Go Go.RowKit
set_option linter.unusedSimpArgs false
set_option maxHeartbeats 1000000
set_option linter.unusedVariables false
set_option maxRecDepth 4000
inductive EvsAt (W : World) : List Ev → List Evn → Prop
  | nil : EvsAt W [] []
  | cons {e x E L} : EvAt W e x → EvsAt W E L → EvsAt W (e :: E) (x :: L)
theorem EvsAt.len {W : World} {E : List Ev} {L : List Evn} (h : EvsAt W E L) : E.length = L.length := by
  induction h with
  | nil => rfl
  | cons _ _ ih => simp [ih]
theorem EvsAt.snoc {W : World} {E : List Ev} {L : List Evn} {e : Ev} {x : Evn} (h : EvsAt W E L) (k : EvAt W e x) : EvsAt W (E ++ [e]) (L ++ [x]) := by
  induction h with
  | nil => exact .cons k .nil
  | cons h1 _ ih => exact .cons h1 ih
theorem EvsAt.get {W : World} {E : List Ev} {L : List Evn} (h : EvsAt W E L) : ∀ (i : Nat) (h1 : i < E.length) (h2 : i < L.length), EvAt W E[i] L[i] := by
  induction h with
  | nil => intro i h1; simp at h1
  | cons k _ ih =>
    intro i h1 h2
    cases i with
    | zero => exact k
    | succ i => exact ih i (by simpa using h1) (by simpa using h2)
/-- The blocks that hold a slice's cells. -/
def footS (s : Sv) (b : Nat) : Prop := s.c ≠ 0 ∧ ∃ a, s.a = some a ∧ b = a.block
def footE (E : List Ev) (b : Nat) : Prop := ∃ e ∈ E, footS e.s b
theorem rds_kept {W W' : World} {a : Option Addr} {ys : List Value} (h : RdS W a ys) (hb : ∀ x : Addr, a = some x → W'.heap[x.block]? = W.heap[x.block]?) : RdS W' a ys := fun j v hj => by
  obtain ⟨b, lo, h1, h2⟩ := h j v hj
  refine ⟨b, lo, h1, ?_⟩
  have := hb _ h1
  unfold World.cell? at h2 ⊢
  simp only at h2 this ⊢
  rw [this]
  exact h2
theorem RsAt.kept {W W' : World} {s : Sv} {L : List Rc} (h : RsAt W s L) (hb : ∀ b, footS s b → W'.heap[b]? = W.heap[b]?) : RsAt W' s L := by
  refine ⟨h.n, h.c, h.a, ?_⟩
  by_cases hc : s.c = 0
  · rw [h.nil hc]
    intro j v hj
    simp [encs] at hj
  · exact rds_kept h.r fun x hx => hb _ ⟨hc, x, hx, rfl⟩
theorem EvAt.kept {W W' : World} {e : Ev} {x : Evn} (h : EvAt W e x) (hb : ∀ b, footS e.s b → W'.heap[b]? = W.heap[b]?) : EvAt W' e x := ⟨h.k, h.w, h.n, h.f, h.m, h.rs.kept hb⟩
theorem EvsAt.kept {W W' : World} {E : List Ev} {L : List Evn} (h : EvsAt W E L) (hb : ∀ b, footE E b → W'.heap[b]? = W.heap[b]?) : EvsAt W' E L := by
  induction h with
  | nil => exact .nil
  | cons h1 _ ih => exact .cons (h1.kept fun b hf => hb b ⟨_, by simp, hf⟩) (ih fun b ⟨e, he, hf⟩ => hb b ⟨e, by simp [he], hf⟩)
theorem footE_nil {b : Nat} : ¬ footE [] b := fun ⟨e, he, _⟩ => by simp at he
theorem reg_evs0 (B : Bas) (W : World) : Reg B W (.abs (footE []) (fun W => EvsAt W [] [])) := ⟨fun b h => (footE_nil h).elim, EvsAt.nil, fun _ _ _ _ => EvsAt.nil⟩
theorem loc_evs (E : List Ev) (L : List Evn) : Loc (footE E) (fun W => EvsAt W E L) := fun W W' hb h => h.kept hb
/-- What was there when the call began stays. -/
theorem RsAt.ext {w W : World} {s : Sv} {L : List Rc} (h : RsAt w s L) (hx : Ext w W) : RsAt W s L := by
  refine ⟨h.n, h.c, h.a, fun j v hj => ?_⟩
  obtain ⟨b, lo, h1, h2⟩ := h.r j v hj
  exact ⟨b, lo, h1, cell_kept h2 hx.below.block⟩
theorem EvAt.ext {w W : World} {e : Ev} {x : Evn} (h : EvAt w e x) (hx : Ext w W) : EvAt W e x := ⟨h.k, h.w, h.n, h.f, h.m, h.rs.ext hx⟩
theorem EvsAt.ext {w W : World} {E : List Ev} {L : List Evn} (h : EvsAt w E L) (hx : Ext w W) : EvsAt W E L := by
  induction h with
  | nil => exact .nil
  | cons h1 _ ih => exact .cons (h1.ext hx) ih
abbrev evsO (L : List Evn) (q : List Ev × Option Addr × Nat) : Own := [.row q.2.1 31 (q.2.2 * 6) (encs Ev.e q.1), .abs (footE q.1) (fun W => EvsAt W q.1 L)]
abbrev parG (r : PR) (q : List Ev × Option Addr × Nat) : Value := .tuple #[.slice q.2.1 q.1.length q.2.2, .int .i64 r.2.1, .int .i64 r.2.2]
abbrev parO (r : PR) (q : List Ev × Option Addr × Nat) : Own := evsO r.1 q
abbrev parI (r : PR) (q : List Ev × Option Addr × Nat) : Prop := q.1.length = r.1.length ∧ q.1.length ≤ q.2.2 ∧ ∃ W, EvsAt W q.1 r.1
theorem mem_evs0 {B : Bas} {W : World} (hx : ExtG B W) : Mem B (evsO [] ([], none, 0)) W := by
  refine ⟨hx, fun q hq => ?_, ?_⟩
  · rcases List.mem_cons.1 hq with rfl | hq
    · exact ⟨fun _ => rfl, fun h => absurd rfl h⟩
    · rw [List.mem_singleton] at hq; subst hq
      exact reg_evs0 _ _
  · refine List.pairwise_pair.2 fun b hb => absurd rfl hb.1
theorem par_nil {w W : World} {own : Own} (hm : Mem (Bas.of w) own W) {r : PR} {k e : Int} (h : r = ([], k, e)) : PG (parI r) (parG r) (parO r) w (.returned (.tuple #[.slice none 0 0, .int .i64 k, .int .i64 e])) W := by
  subst h
  exact ⟨([], none, 0), ⟨rfl, Nat.le_refl _, W, .nil⟩, rfl, mem_evs0 hm.ext⟩
theorem par_fin {w W : World} {own : Own} (hm : Mem (Bas.of w) own W) (i j : Nat) (hij : Nat.beq i j = false) {r : PR} {L : List Evn} {E : List Ev} {ad : Option Addr} {c : Nat} (hi : nth own i = some (.row ad 31 (c * 6) (encs Ev.e E))) (hj : nth own j = some (.abs (footE E) (fun W => EvsAt W E L))) (hl : E.length = L.length) (hc : E.length ≤ c) (h : r = (L, 0, 0)) :
    PG (parI r) (parG r) (parO r) w (.returned (.tuple #[.slice ad E.length c, .int .i64 0, .int .i64 0])) W := by
  subst h
  refine ⟨(E, ad, c), ⟨hl, hc, W, ((hm.at (by rw [nth_eq] at hj; exact hj) : Reg (Bas.of w) W (.abs (footE E) (fun W => EvsAt W E L))).2.1)⟩, rfl, hm.sel (is := [i, j]) (by simp only [pick, hi, hj]) (by simp [nodupB, hij])⟩
theorem cut_cases {s p r : Bs} {two : Bool} {c : UInt8} (h : Lib.cut s [c] = (p, r, two)) : (two = true ∧ s = p ++ c :: r ∧ c ∉ p) ∨ (two = false ∧ c ∉ s ∧ p = s) := by
  by_cases hc : c ∈ s
  · obtain ⟨p', r', rfl, hp⟩ := split_at hc
    rw [cut_app r' hp] at h
    cases h
    exact .inl ⟨rfl, rfl, hp⟩
  · rw [cut_none hc] at h
    cases h
    exact .inr ⟨rfl, hc, rfl⟩
section rules
variable {C : Ctx} {B : Bas} {nt : Nat} {env : Env} {own : Own} {dfs : List Deferred}
/-- A slice among the results is told as a value. -/
theorem fend_name (d : Nat) {fn : Func} {R : Ending → World → Prop} {e : Exit} {i n c T k : Nat} {ad : Option Addr} {xs : List Value} (hd : eget env d = some (.s i 0 n c)) (hi : nth own i = some (.row ad T (c * k) xs)) (hk : 0 < k) {own' : Option Addr → Own} (hw : ∀ a, forceK (snoc (own.set i (.dead ad)) (.row a T (c * k) xs)) some = some (own' a))
    (h : ∀ a, FendG C B nt fn R e ⟨(d, .v (.slice a n c)) :: env, own' a, dfs⟩) : FendG C B nt fn R e ⟨env, own, dfs⟩ :=
  ⟨(h none).1, fun a W hr => by
    obtain ⟨ad', hr'⟩ := rel_name hr hd hi hk
    have := hw ad'
    rw [forceK_eq] at this
    rw [Option.some.inj this] at hr'
    exact (h ad').2 a W hr'⟩
theorem wk_evs (i j : Nat) {E : List Ev} {L : List Evn} {a : Option Addr} {c : Nat} (e : Ev) (x : Evn) (hi : nth own i = some (.abs (footE E) (fun W => EvsAt W E L))) (hj : nth own j = some (.row a 42 (c * 2) (encs Rc.e x.rs))) (hij : Nat.beq i j = false) (ha : e.s = ⟨a, x.rs.length, c⟩) (hc : x.rs.length ≤ c) (hx : e.k = x.k ∧ e.w = x.w ∧ e.n = x.n ∧ e.f = x.f ∧ e.m = x.m)
    {own' : Own} (hw : (own.set j (.dead a)).set i (.abs (footE (E ++ [e])) (fun W => EvsAt W (E ++ [e]) (L ++ [x]))) = own') : Wk B nt ⟨env, own, dfs⟩ ⟨env, own', dfs⟩ := by
  refine wk_absorb i j (footE (E ++ [e])) (fun W => EvsAt W (E ++ [e]) (L ++ [x])) hi hj hij (fun b ⟨q, hq, hf⟩ => ?_) (fun W h hr => ?_) (loc_evs _ _) hw
  · rcases List.mem_append.1 hq with hq | hq
    · exact .inl ⟨q, hq, hf⟩
    · rw [List.mem_singleton] at hq; subst hq
      obtain ⟨h0, y, h1, h2⟩ := hf
      rw [ha] at h0 h1
      exact .inr ⟨by show c * 2 ≠ 0; simp only at h0; omega, y, h1, h2⟩
  · refine h.snoc ⟨hx.1, hx.2.1, hx.2.2.1, hx.2.2.2.1, hx.2.2.2.2, ?_⟩
    rw [ha]
    refine ⟨rfl, hc, fun h0 => ?_, fun j v hj => ?_⟩
    · obtain ⟨b, cs, h1, _⟩ := hr.2 (show c * 2 ≠ 0 by simp only at h0; omega)
      exact ⟨b, 0, h1⟩
    · have hne : c * 2 ≠ 0 := fun e => by
        have : x.rs = [] := List.length_eq_zero_iff.1 (by omega)
        rw [this] at hj; simp [encs] at hj
      obtain ⟨b, cs, h1, _, h2, _, _, h3⟩ := hr.2 hne
      refine ⟨b, 0, h1, ?_⟩
      have := h3 j v hj
      simp [World.cell?, h2, this]
end rules
attribute [local irreducible] JC JL OX OV Kthen Kblock JR FendG
attribute [local irreducible] Lib.cut spl evOf footE
theorem parse_c (s : Bs) (hs : s.length ≤ 70000) (w : World) (hG : Gl w) : Calls C.P 10 [strV s].toArray w (PG (parI (parseP s)) (parG (parseP s)) (parO (parseP s)) w) := by
  have hcb : Lib.countByte s 10 = s.count 10 := rfl
  refine calls_v Tryd.func10 rfl _ Tryd.ntmps10 rfl ?_
  repeat' (first | (guard_target =~ JL _ _ _ _ _ _ _ _; first | refine jl_v rfl rfl rfl rfl (ov_strlen s rfl rfl rfl) ?_ | refine jl_nil ?_ | refine jl_same rfl rfl rfl rfl rfl ?_ | refine jl_v rfl rfl rfl rfl (ov_int rfl rfl (by simp only [inK]; omega)) ?_ | refine jl_p rfl rfl rfl rfl rfl ?_ | refine jl_s rfl rfl rfl ?_ | refine jl_st rfl rfl rfl rfl ?_ | refine jl_n rfl rfl rfl rfl rfl (fun n => rfl) (fun n => ?_) | refine jl_x rfl rfl (ox_pvf 18 (count_c s 10) rfl rfl rfl rfl (fun _ _ => by kernel_rfl) ?_) | ((fail_if_success (refine jl_gt rfl ?_)); first | (refine jl_split_lt rfl rfl rfl (fun hc => ?_) (fun hc => ?_)) | (refine jl_split_ge rfl rfl rfl (fun hc => ?_) (fun hc => ?_)) | (refine jl_split_eq rfl rfl rfl (fun hc => ?_) (fun hc => ?_)) | (refine jl_split_ne rfl rfl rfl (fun hc => ?_) (fun hc => ?_)) | (refine jl_split rfl rfl rfl (fun hc => ?_) (fun hc => ?_)))) | (guard_target =~ JO _ _ _ _ _ _ _ _; first | refine jo_v rfl rfl rfl rfl rfl (ov_strlen s rfl rfl rfl) ?_ | refine JO.nil ?_ | refine JO.fork ?_ ?_ | refine jo_same rfl rfl rfl rfl rfl rfl ?_ | refine jo_v rfl rfl rfl rfl rfl (ov_int rfl rfl (by simp only [inK]; omega)) ?_ | refine jo_p rfl rfl rfl rfl rfl rfl ?_ | refine jo_s rfl rfl rfl rfl ?_ | refine jo_st rfl rfl rfl rfl rfl rfl ?_ | refine jo_n rfl rfl rfl rfl rfl rfl (fun n => rfl) (fun n => ?_) | refine jo_x rfl rfl rfl (ox_pvf 18 (count_c s 10) rfl rfl rfl rfl (fun _ _ => by kernel_rfl) ?_) | ((fail_if_success (refine jo_gt rfl rfl ?_)); first | (refine jo_split_lt rfl rfl rfl rfl (fun hc => ?_) (fun hc => ?_)) | (refine jo_split_ge rfl rfl rfl rfl (fun hc => ?_) (fun hc => ?_)) | (refine jo_split_eq rfl rfl rfl rfl (fun hc => ?_) (fun hc => ?_)) | (refine jo_split_ne rfl rfl rfl rfl (fun hc => ?_) (fun hc => ?_)) | (refine jo_split rfl rfl rfl rfl (fun hc => ?_) (fun hc => ?_)))) | (guard_target =~ JC _ _ _ _ _ _ _; first | refine jc_seq ?_ | refine jc_region ?_ | refine jc_drawn (by kernel_rfl) rfl ?_ | refine jc_cond_t rfl ?_ | refine jc_cond_f rfl ?_ | refine jc_cond_lt rfl (fun hc => ?_) (fun hc => ?_) | refine jc_cond_ge rfl (fun hc => ?_) (fun hc => ?_) | refine jc_cond_eq rfl (fun hc => ?_) (fun hc => ?_) | refine jc_cond_ne rfl (fun hc => ?_) (fun hc => ?_) | refine jc_cond rfl (fun hc => ?_) (fun hc => ?_) | refine jc_skip ?_ | refine jc_ret ?_ | refine jc_exit ?_ | refine jc_block ?_) | (guard_target =~ Kthen _ _ _ _; first | refine k_then ?_ | refine k_then_r ?_ | refine k_then_e ?_) | (guard_target =~ Kblock _ _ _ _; first | refine k_block_n ?_ | refine k_block_r ?_ | refine k_block_hit ?_ | refine k_block_miss rfl ?_) | (guard_target =~ JR _ _ _ _ _ _ _ _; refine jr_step ?_))
  · refine fin3 (.inr rfl) rfl (ris rfl) (ris rfl) (ris rfl) (fun W hm => par_nil hm ?_)
    unfold parseP
    rw [if_pos (.inl (by omega))]
  · refine fin3 (.inr rfl) rfl (ris rfl) (ris rfl) (ris rfl) (fun W hm => par_nil hm ?_)
    unfold parseP
    rw [if_pos (.inr (by omega))]
  have hP : parseP s = parseL [] (spl 10 s) := by
    unfold parseP
    rw [if_neg (by omega)]
  refine jc_nilrow 5 31 rfl rfl rfl ?_
  refine jc_wk (wk_push (o := .abs (footE []) (fun W => EvsAt W [] [])) (fun W hm => reg_evs0 _ _) (fun b h => footE_nil h) rfl) ?_
  refine jc_inv (fun z : Bs × List Ev × List Evn × Option Addr × Nat => ⟨[(5, .s 0 0 z.2.1.length z.2.2.2.2), (0, .v (strV z.1))], [.row z.2.2.2.1 31 (z.2.2.2.2 * 6) (encs Ev.e z.2.1), .abs (footE z.2.1) (fun W => EvsAt W z.2.1 z.2.2.1)], []⟩)
    (fun z => parseL z.2.2.1 (spl 10 z.1) = parseL [] (spl 10 s) ∧ z.2.1.length = z.2.2.1.length ∧ z.2.1.length ≤ z.2.2.2.2 ∧ z.2.1.length + z.1.length ≤ s.length) (fun z => z.1.length) (s, [], [], none, 0) ⟨rfl, rfl, Nat.le_refl _, by simp⟩ (wk [0, 1] rfl rfl (by repeat' (first | exact EnvIn.nil | refine EnvIn.cons rfl rfl ?_))) ?_
  rintro ⟨s', E, L, ad, cc⟩ ⟨hp, hl, hcap, hb⟩
  dsimp only at hp hl hcap hb ⊢
  have hs' : s'.length ≤ 65536 := by omega
  have hC := fun W hg => cut_c s' 10 (by omega) W hg
  obtain ⟨p, r, two, hcut⟩ : ∃ a b c, Lib.cut s' [10] = (a, b, c) := ⟨_, _, _, rfl⟩
  have hcu := cut_len s' 10
  rw [hcut] at hcu hC
  simp only at hcu hC
  repeat' (first | (guard_target =~ JL _ _ _ _ _ _ _ _; first | refine jl_v rfl rfl rfl rfl (ov_strne s' [] rfl rfl) ?_ | refine jl_nil ?_ | refine jl_same rfl rfl rfl rfl rfl ?_ | refine jl_v rfl rfl rfl rfl (ov_int rfl rfl (by simp only [inK]; omega)) ?_ | refine jl_p rfl rfl rfl rfl rfl ?_ | refine jl_s rfl rfl rfl ?_ | refine jl_st rfl rfl rfl rfl ?_ | refine jl_n rfl rfl rfl rfl rfl (fun n => rfl) (fun n => ?_) | refine jl_x rfl rfl (ox_pvm 19 ((fun W hm => hC W (hG.m hm))) rfl rfl rfl rfl (fun _ _ => by kernel_rfl) ?_) | refine jl_x rfl rfl (ox_gm 20 (fun _ _ => by kernel_rfl) ((fun W hm => event_c p (by omega) W (hG.m hm))) rfl rfl rfl rfl (fun _ => by first | exact trivial | exact And.intro trivial trivial | exact And.intro trivial (And.intro (loc_evs _ _) trivial)) (fun _ => rfl) (fun q hq => ?_)) | refine jl_x rfl rfl (ox_app Ev.el Ev.e1 (L := E) (M := [q.1]) rfl rfl rfl rfl rfl rfl rfl rfl rfl rfl rfl rfl rfl (Sub.refl _) (by first | omega | (simp only [List.length_set, List.length_nil, List.length_append, List.length_cons, List.length_drop, List.length_take, List.length_singleton]; done) | (simp only [List.length_set, List.length_nil, List.length_append, List.length_cons, List.length_drop, List.length_take, List.length_singleton]; omega)) (by first | omega | (simp only [List.length_set, List.length_nil, List.length_append, List.length_cons, List.length_drop, List.length_take, List.length_singleton]; done) | (simp only [List.length_set, List.length_nil, List.length_append, List.length_cons, List.length_drop, List.length_take, List.length_singleton]; omega)) (by first | omega | (simp only [List.length_set, List.length_nil, List.length_append, List.length_cons, List.length_drop, List.length_take, List.length_singleton]; done) | (simp only [List.length_set, List.length_nil, List.length_append, List.length_cons, List.length_drop, List.length_take, List.length_singleton]; omega)) (by first | omega | (simp only [List.length_set, List.length_nil, List.length_append, List.length_cons, List.length_drop, List.length_take, List.length_singleton]; done) | (simp only [List.length_set, List.length_nil, List.length_append, List.length_cons, List.length_drop, List.length_take, List.length_singleton]; omega)) rfl (fun _ _ => rfl) (fun c hc a => ?_)) | ((fail_if_success (refine jl_gt rfl ?_)); first | (refine jl_split_lt rfl rfl rfl (fun hc => ?_) (fun hc => ?_)) | (refine jl_split_ge rfl rfl rfl (fun hc => ?_) (fun hc => ?_)) | (refine jl_split_eq rfl rfl rfl (fun hc => ?_) (fun hc => ?_)) | (refine jl_split_ne rfl rfl rfl (fun hc => ?_) (fun hc => ?_)) | (refine jl_split rfl rfl rfl (fun hc => ?_) (fun hc => ?_)))) | (guard_target =~ JO _ _ _ _ _ _ _ _; first | refine jo_v rfl rfl rfl rfl rfl (ov_strne s' [] rfl rfl) ?_ | refine JO.nil ?_ | refine JO.fork ?_ ?_ | refine jo_same rfl rfl rfl rfl rfl rfl ?_ | refine jo_v rfl rfl rfl rfl rfl (ov_int rfl rfl (by simp only [inK]; omega)) ?_ | refine jo_p rfl rfl rfl rfl rfl rfl ?_ | refine jo_s rfl rfl rfl rfl ?_ | refine jo_st rfl rfl rfl rfl rfl rfl ?_ | refine jo_n rfl rfl rfl rfl rfl rfl (fun n => rfl) (fun n => ?_) | refine jo_x rfl rfl rfl (ox_pvm 19 ((fun W hm => hC W (hG.m hm))) rfl rfl rfl rfl (fun _ _ => by kernel_rfl) ?_) | refine jo_x rfl rfl rfl (ox_gm 20 (fun _ _ => by kernel_rfl) ((fun W hm => event_c p (by omega) W (hG.m hm))) rfl rfl rfl rfl (fun _ => by first | exact trivial | exact And.intro trivial trivial | exact And.intro trivial (And.intro (loc_evs _ _) trivial)) (fun _ => rfl) (fun q hq => ?_)) | refine jo_x rfl rfl rfl (ox_app Ev.el Ev.e1 (L := E) (M := [q.1]) rfl rfl rfl rfl rfl rfl rfl rfl rfl rfl rfl rfl rfl (Sub.refl _) (by first | omega | (simp only [List.length_set, List.length_nil, List.length_append, List.length_cons, List.length_drop, List.length_take, List.length_singleton]; done) | (simp only [List.length_set, List.length_nil, List.length_append, List.length_cons, List.length_drop, List.length_take, List.length_singleton]; omega)) (by first | omega | (simp only [List.length_set, List.length_nil, List.length_append, List.length_cons, List.length_drop, List.length_take, List.length_singleton]; done) | (simp only [List.length_set, List.length_nil, List.length_append, List.length_cons, List.length_drop, List.length_take, List.length_singleton]; omega)) (by first | omega | (simp only [List.length_set, List.length_nil, List.length_append, List.length_cons, List.length_drop, List.length_take, List.length_singleton]; done) | (simp only [List.length_set, List.length_nil, List.length_append, List.length_cons, List.length_drop, List.length_take, List.length_singleton]; omega)) (by first | omega | (simp only [List.length_set, List.length_nil, List.length_append, List.length_cons, List.length_drop, List.length_take, List.length_singleton]; done) | (simp only [List.length_set, List.length_nil, List.length_append, List.length_cons, List.length_drop, List.length_take, List.length_singleton]; omega)) rfl (fun _ _ => rfl) (fun c hc a => ?_)) | ((fail_if_success (refine jo_gt rfl rfl ?_)); first | (refine jo_split_lt rfl rfl rfl rfl (fun hc => ?_) (fun hc => ?_)) | (refine jo_split_ge rfl rfl rfl rfl (fun hc => ?_) (fun hc => ?_)) | (refine jo_split_eq rfl rfl rfl rfl (fun hc => ?_) (fun hc => ?_)) | (refine jo_split_ne rfl rfl rfl rfl (fun hc => ?_) (fun hc => ?_)) | (refine jo_split rfl rfl rfl rfl (fun hc => ?_) (fun hc => ?_)))) | (guard_target =~ JC _ _ _ _ _ _ _; first | refine jc_seq ?_ | refine jc_region ?_ | refine jc_drawn (by kernel_rfl) rfl ?_ | refine jc_cond_t rfl ?_ | refine jc_cond_f rfl ?_ | refine jc_cond_lt rfl (fun hc => ?_) (fun hc => ?_) | refine jc_cond_ge rfl (fun hc => ?_) (fun hc => ?_) | refine jc_cond_eq rfl (fun hc => ?_) (fun hc => ?_) | refine jc_cond_ne rfl (fun hc => ?_) (fun hc => ?_) | refine jc_cond rfl (fun hc => ?_) (fun hc => ?_) | refine jc_skip ?_ | refine jc_ret ?_ | refine jc_exit ?_ | refine jc_block ?_) | (guard_target =~ Kthen _ _ _ _; first | refine k_then ?_ | refine k_then_r ?_ | refine k_then_e ?_) | (guard_target =~ Kblock _ _ _ _; first | refine k_block_n ?_ | refine k_block_r ?_ | refine k_block_hit ?_ | refine k_block_miss rfl ?_) | (guard_target =~ JR _ _ _ _ _ _ _ _; refine jr_step ?_))
  · have hne : (!decide (s' = [])) = true := by assumption
    refine fin3 (.inr rfl) rfl (ris rfl) (ris rfl) (ris rfl) (fun W hm => par_nil hm ?_)
    rw [hP, ← hp, hl]
    rcases cut_cases hcut with ⟨_, h1, h2⟩ | ⟨_, h1, h2⟩
    · rw [h1, parseL_cut h2]
      cases he : evOf p with
      | none => rfl
      | some x => rw [he] at hc; simp at hc
    · exact parseL_end h1 (by simpa using hne)
  · have hne : (!decide (s' = [])) = true := by assumption
    refine fin3 (.inr rfl) rfl (ris rfl) (ris rfl) (ris rfl) (fun W hm => par_nil hm ?_)
    rw [hP, ← hp, hl]
    rcases cut_cases hcut with ⟨h0, h1, h2⟩ | ⟨_, h1, h2⟩
    · rw [h0] at hc; simp at hc
    · exact parseL_end h1 (by simpa using hne)
  · have hok : (!(evOf p).isSome) = false := by assumption
    have htwo : (!two) = false := by assumption
    rcases cut_cases hcut with ⟨h0, h1, h2⟩ | ⟨h0, h1, h2⟩
    · obtain ⟨x, hx⟩ : ∃ x, evOf p = some x := by
        cases he : evOf p with
        | none => rw [he] at hok; simp at hok
        | some x => exact ⟨x, rfl⟩
      have hb' := hq.x x hx
      have hn := hq.n
      have hqc := hq.c
      obtain ⟨⟨e1, e2, e3, e4, e5, ⟨ea, en, ec⟩⟩, rs⟩ := q
      simp only at hb' hn hqc
      obtain ⟨b1, b2, b3, b4, b5, rfl⟩ := hb'
      subst hn
      refine ⟨(r, _, L ++ [x], a, c), ⟨?_, ?_, by assumption, ?_⟩, ?_, Wk.trans (wk_evs 1 2 ⟨e1, e2, e3, e4, e5, ⟨ea, x.rs.length, ec⟩⟩ x rfl rfl rfl rfl hqc ⟨b1, b2, b3, b4, b5⟩ rfl) (wk [5, 1] rfl rfl (by repeat' (first | exact EnvIn.nil | refine EnvIn.cons rfl rfl ?_)))⟩
      · dsimp only
        rw [← hp, h1, parseL_cut h2, hx]
      · dsimp only
        simp [hl]
      · dsimp only
        rw [h1] at hb
        simp at hb ⊢
        omega
      · dsimp only
        rw [h1]
        simp
        omega
    · rw [h0] at htwo; simp at htwo
  · refine fend_name 2 rfl rfl (by decide) (fun _ => rfl) (fun ad' => ?_)
    refine fin3 (.inr rfl) rfl (ris rfl) (ris rfl) (ris rfl) (fun W hm => par_fin hm 2 1 rfl rfl rfl hl hcap ?_)
    have h0 : s' = [] := by simpa using hc
    rw [hP, ← hp, h0, parseL_nil]
end Go.Proofs.YtpfjolckhlgodaaDoor
