/- The event of a line, as the program finds it. -/
import Derived.Test.YtpfjolckhlgodaaDoorSi
namespace Go.Proofs.YtpfjolckhlgodaaDoor
open Go Go.RowKit
set_option linter.unusedSimpArgs false
set_option maxHeartbeats 4000000
set_option linter.unusedVariables false
set_option maxRecDepth 4000
theorem decode_w (s : ByteArray) (p : Nat) : 1 ≤ (Utf8.decode s p).2 := by
  simp only [Utf8.decode]
  repeat' split
  all_goals simp
theorem decode_ok {s : Bs} {p : Nat} (h : p < s.length) (ho : okc s[p]) : Utf8.decode ⟨s.toArray⟩ p = (s[p].toNat, 1) := by
  have e : (ByteArray.mk s.toArray).get! (p + 0) = s[p] := by
    show s.toArray[p]! = s[p]
    simp [h]
  have hb : ((ByteArray.mk s.toArray).get! (p + 0)).toNat < 128 := by
    rw [e]
    rcases ho with ho | ho | ho
    · omega
    · rw [ho]; decide
    · rw [ho]; decide
  unfold Utf8.decode
  simp only []
  rw [if_pos hb, e]
/-- A call's result of which something is known, and nothing made. -/
theorem pg_none {ι : Type} {φ : ι → Prop} {G : ι → Value} (x : ι) (hx : φ x) {w W : World} {own : Own} (hm : Mem (Bas.of w) own W) : PG φ G (fun _ => []) w (.returned (G x)) W :=
  ⟨x, hx, rfl, hm.ext, fun _ h => absurd h (by simp), List.Pairwise.nil⟩
attribute [local irreducible] JC JL OX OV Kthen Kblock JR FendG
theorem plain_c (s : Bs) (w : World) : Calls C.P 33 [strV s].toArray w (PG (fun b : Bool => (∀ c ∈ s, okc c) → b = true) (fun b => .bool b) (fun _ => []) w) := by
  refine calls_v Tryd.func33 rfl _ Tryd.ntmps33 rfl ?_
  repeat' (first | (guard_target =~ JL _ _ _ _ _ _ _ _; first | refine jl_nil ?_ | refine jl_same rfl rfl rfl rfl rfl ?_ | refine jl_v rfl rfl rfl rfl (ov_int rfl rfl (by simp only [inK]; omega)) ?_ | refine jl_p rfl rfl rfl rfl rfl ?_ | refine jl_s rfl rfl rfl ?_ | refine jl_st rfl rfl rfl rfl ?_ | refine jl_n rfl rfl rfl rfl rfl (fun n => rfl) (fun n => ?_) | refine jl_range s rfl rfl rfl rfl rfl (fun _ => rfl) (fun n => ?_) | ((fail_if_success (refine jl_gt rfl ?_)); first | (refine jl_split_lt rfl rfl rfl (fun hc => ?_) (fun hc => ?_)) | (refine jl_split_ge rfl rfl rfl (fun hc => ?_) (fun hc => ?_)) | (refine jl_split_eq rfl rfl rfl (fun hc => ?_) (fun hc => ?_)) | (refine jl_split_ne rfl rfl rfl (fun hc => ?_) (fun hc => ?_)) | (refine jl_split rfl rfl rfl (fun hc => ?_) (fun hc => ?_)))) | (guard_target =~ JO _ _ _ _ _ _ _ _; first | refine JO.nil ?_ | refine JO.fork ?_ ?_ | refine jo_same rfl rfl rfl rfl rfl rfl ?_ | refine jo_v rfl rfl rfl rfl rfl (ov_int rfl rfl (by simp only [inK]; omega)) ?_ | refine jo_p rfl rfl rfl rfl rfl rfl ?_ | refine jo_s rfl rfl rfl rfl ?_ | refine jo_st rfl rfl rfl rfl rfl rfl ?_ | refine jo_n rfl rfl rfl rfl rfl rfl (fun n => rfl) (fun n => ?_) | ((fail_if_success (refine jo_gt rfl rfl ?_)); first | (refine jo_split_lt rfl rfl rfl rfl (fun hc => ?_) (fun hc => ?_)) | (refine jo_split_ge rfl rfl rfl rfl (fun hc => ?_) (fun hc => ?_)) | (refine jo_split_eq rfl rfl rfl rfl (fun hc => ?_) (fun hc => ?_)) | (refine jo_split_ne rfl rfl rfl rfl (fun hc => ?_) (fun hc => ?_)) | (refine jo_split rfl rfl rfl rfl (fun hc => ?_) (fun hc => ?_)))) | (guard_target =~ JC _ _ _ _ _ _ _; first | refine jc_seq ?_ | refine jc_region ?_ | refine jc_drawn (by kernel_rfl) rfl ?_ | refine jc_cond_t rfl ?_ | refine jc_cond_f rfl ?_ | refine jc_cond_lt rfl (fun hc => ?_) (fun hc => ?_) | refine jc_cond_ge rfl (fun hc => ?_) (fun hc => ?_) | refine jc_cond_eq rfl (fun hc => ?_) (fun hc => ?_) | refine jc_cond_ne rfl (fun hc => ?_) (fun hc => ?_) | refine jc_cond rfl (fun hc => ?_) (fun hc => ?_) | refine jc_skip ?_ | refine jc_ret ?_ | refine jc_exit ?_ | refine jc_block ?_) | (guard_target =~ Kthen _ _ _ _; first | refine k_then ?_ | refine k_then_r ?_ | refine k_then_e ?_) | (guard_target =~ Kblock _ _ _ _; first | refine k_block_n ?_ | refine k_block_r ?_ | refine k_block_hit ?_ | refine k_block_miss rfl ?_) | (guard_target =~ JR _ _ _ _ _ _ _ _; refine jr_step ?_))
  refine jc_inv (fun p : Nat => ⟨[(6, .v (.pointer (some ⟨n, 0, none⟩)))], [.obj n (.stringIter ⟨s.toArray⟩ p)], []⟩) (fun _ => True) (fun p => s.length - p) 0 trivial (wk [0] rfl rfl (by repeat' (first | exact EnvIn.nil | refine EnvIn.cons rfl rfl ?_))) ?_
  rintro p -
  have hw := decode_w ⟨s.toArray⟩ p
  repeat' (first | (guard_target =~ JL _ _ _ _ _ _ _ _; first | refine jl_nil ?_ | refine jl_same rfl rfl rfl rfl rfl ?_ | refine jl_v rfl rfl rfl rfl (ov_int rfl rfl (by simp only [inK]; omega)) ?_ | refine jl_p rfl rfl rfl rfl rfl ?_ | refine jl_s rfl rfl rfl ?_ | refine jl_st rfl rfl rfl rfl ?_ | refine jl_n rfl rfl rfl rfl rfl (fun n => rfl) (fun n => ?_) | refine jl_next s 0 p rfl rfl rfl rfl rfl (fun hp => ?_) (fun hp => ?_) | ((fail_if_success (refine jl_gt rfl ?_)); first | (refine jl_split_lt rfl rfl rfl (fun hc => ?_) (fun hc => ?_)) | (refine jl_split_ge rfl rfl rfl (fun hc => ?_) (fun hc => ?_)) | (refine jl_split_eq rfl rfl rfl (fun hc => ?_) (fun hc => ?_)) | (refine jl_split_ne rfl rfl rfl (fun hc => ?_) (fun hc => ?_)) | (refine jl_split rfl rfl rfl (fun hc => ?_) (fun hc => ?_)))) | (guard_target =~ JO _ _ _ _ _ _ _ _; first | refine JO.nil ?_ | refine JO.fork ?_ ?_ | refine jo_same rfl rfl rfl rfl rfl rfl ?_ | refine jo_v rfl rfl rfl rfl rfl (ov_int rfl rfl (by simp only [inK]; omega)) ?_ | refine jo_p rfl rfl rfl rfl rfl rfl ?_ | refine jo_s rfl rfl rfl rfl ?_ | refine jo_st rfl rfl rfl rfl rfl rfl ?_ | refine jo_n rfl rfl rfl rfl rfl rfl (fun n => rfl) (fun n => ?_) | ((fail_if_success (refine jo_gt rfl rfl ?_)); first | (refine jo_split_lt rfl rfl rfl rfl (fun hc => ?_) (fun hc => ?_)) | (refine jo_split_ge rfl rfl rfl rfl (fun hc => ?_) (fun hc => ?_)) | (refine jo_split_eq rfl rfl rfl rfl (fun hc => ?_) (fun hc => ?_)) | (refine jo_split_ne rfl rfl rfl rfl (fun hc => ?_) (fun hc => ?_)) | (refine jo_split rfl rfl rfl rfl (fun hc => ?_) (fun hc => ?_)))) | (guard_target =~ JC _ _ _ _ _ _ _; first | refine jc_seq ?_ | refine jc_region ?_ | refine jc_drawn (by kernel_rfl) rfl ?_ | refine jc_cond_t rfl ?_ | refine jc_cond_f rfl ?_ | refine jc_cond_lt rfl (fun hc => ?_) (fun hc => ?_) | refine jc_cond_ge rfl (fun hc => ?_) (fun hc => ?_) | refine jc_cond_eq rfl (fun hc => ?_) (fun hc => ?_) | refine jc_cond_ne rfl (fun hc => ?_) (fun hc => ?_) | refine jc_cond rfl (fun hc => ?_) (fun hc => ?_) | refine jc_skip ?_ | refine jc_ret ?_ | refine jc_exit ?_ | refine jc_block ?_) | (guard_target =~ Kthen _ _ _ _; first | refine k_then ?_ | refine k_then_r ?_ | refine k_then_e ?_) | (guard_target =~ Kblock _ _ _ _; first | refine k_block_n ?_ | refine k_block_r ?_ | refine k_block_hit ?_ | refine k_block_miss rfl ?_) | (guard_target =~ JR _ _ _ _ _ _ _ _; refine jr_step ?_))
  all_goals first
    | (refine ⟨_, trivial, ?_, (wk [0] rfl rfl (by repeat' (first | exact EnvIn.nil | refine EnvIn.cons rfl rfl ?_)))⟩; dsimp only; omega)
    | (refine fin1 (.inr rfl) rfl (ris rfl) (fun W hm => ?_); exact pg_none (φ := fun b : Bool => (∀ c ∈ s, okc c) → b = true) true (fun _ => rfl) hm)
    | (refine fin1 (.inr rfl) rfl (ris rfl) (fun W hm => ?_)
       refine pg_none (φ := fun b : Bool => (∀ c ∈ s, okc c) → b = true) false (fun ho => ?_) hm
       exfalso
       have h1 := ho _ (List.getElem_mem hp)
       rw [decode_ok hp h1] at *
       rcases h1 with h1 | h1 | h1
       · simp only at *; omega
       · have e : s[p].toNat = 32 := by rw [h1]; rfl
         simp only at *; omega
       · have e : s[p].toNat = 45 := by rw [h1]; rfl
         simp only at *; omega)
/-! ### the event of a line -/
theorem ws_line {s : Bs} {x : Evn} (h : evOf s = some x) : spl 32 s = wordsT x ∧ ∀ c ∈ s, okc c := by
  obtain ⟨_, rfl⟩ := evOf_some h
  exact ⟨spl_line x, line_ok x⟩
theorem cut_len (s : Bs) (c : UInt8) : (Lib.cut s [c]).1.length ≤ s.length ∧ (Lib.cut s [c]).2.1.length ≤ s.length := by
  unfold Lib.cut
  split
  · simp
    omega
  · simp
/-- What a part of a line comes to. -/
def recV (w : Bs) : Rc := ⟨atoiV (Lib.cut w [58]).1, atoiV (Lib.cut w [58]).2.1⟩
theorem recV_recT {r : Rc} (h : I64 r.k ∧ I64 r.v) : recV (recT r) = r := by
  unfold recV
  rw [cut_rec, atoi_itoa h.1, atoi_itoa h.2]
def evV (s : Bs) : Evn := ⟨atoiV ((spl 32 s).getD 0 []), atoiV ((spl 32 s).getD 1 []), atoiV ((spl 32 s).getD 2 []), atoiV ((spl 32 s).getD 3 []), atoiV ((spl 32 s).getD 4 []), ((spl 32 s).drop 5).map recV⟩
theorem evV0 {s : Bs} (h : 0 < (spl 32 s).length) : (evV s).k = atoiV (spl 32 s)[0] := by simp [evV, List.getD_eq_getElem?_getD, h]
theorem evV1 {s : Bs} (h : 1 < (spl 32 s).length) : (evV s).w = atoiV (spl 32 s)[1] := by simp [evV, List.getD_eq_getElem?_getD, h]
theorem evV2 {s : Bs} (h : 2 < (spl 32 s).length) : (evV s).n = atoiV (spl 32 s)[2] := by simp [evV, List.getD_eq_getElem?_getD, h]
theorem evV3 {s : Bs} (h : 3 < (spl 32 s).length) : (evV s).f = atoiV (spl 32 s)[3] := by simp [evV, List.getD_eq_getElem?_getD, h]
theorem evV4 {s : Bs} (h : 4 < (spl 32 s).length) : (evV s).m = atoiV (spl 32 s)[4] := by simp [evV, List.getD_eq_getElem?_getD, h]
theorem evV_rs (s : Bs) : (evV s).rs = ((spl 32 s).drop 5).map recV := rfl
theorem evV_bd (s : Bs) : (evV s).Bd := ⟨atoi_i64 _, atoi_i64 _, atoi_i64 _, atoi_i64 _, atoi_i64 _, fun r hr => by
  obtain ⟨w, _, rfl⟩ := List.mem_map.1 hr
  exact ⟨atoi_i64 _, atoi_i64 _⟩⟩
theorem evV_of {s : Bs} {x : Evn} (h : evOf s = some x) : evV s = x := by
  have hb := (evOf_some h).1
  unfold evV
  rw [(ws_line h).1]
  have e : ((wordsT x).drop 5).map recV = x.rs := by
    show ((x.rs.map recT)).map recV = x.rs
    rw [List.map_map]
    conv => rhs; rw [← List.map_id x.rs]
    exact List.map_congr_left fun r hr => recV_recT (hb.rs r hr)
  rw [e]
  show Evn.mk (atoiV (Lib.itoa x.k)) (atoiV (Lib.itoa x.w)) (atoiV (Lib.itoa x.n)) (atoiV (Lib.itoa x.f)) (atoiV (Lib.itoa x.m)) x.rs = x
  rw [atoi_itoa hb.k, atoi_itoa hb.w, atoi_itoa hb.n, atoi_itoa hb.f, atoi_itoa hb.m]
theorem evOf_V (s : Bs) : (evOf s).isSome = decide (lineT (evV s) = s) := by
  rw [Bool.eq_iff_iff, decide_eq_true_eq, Option.isSome_iff_exists]
  constructor
  · rintro ⟨x, h⟩
    rw [evV_of h]
    exact (evOf_some h).2
  · intro h
    exact ⟨evV s, by conv => lhs; rw [← h]
                     exact evOf_line (evV_bd s)⟩
/-- The event that comes of a line: its cells, and its records beside. -/
structure EvIs (s : Bs) (q : Ev × List Rc) : Prop where
  n : q.1.s.n = q.2.length
  c : q.2.length ≤ q.1.s.c
  x : ∀ x, evOf s = some x → q.1.k = x.k ∧ q.1.w = x.w ∧ q.1.n = x.n ∧ q.1.f = x.f ∧ q.1.m = x.m ∧ q.2 = x.rs
noncomputable abbrev evG (s : Bs) (q : Ev × List Rc) : Value := .tuple #[q.1.g, .bool (evOf s).isSome]
abbrev evO (q : Ev × List Rc) : Own := [.row q.1.s.a 42 (q.1.s.c * 2) (encs Rc.e q.2)]
theorem mem_nilrow {B : Bas} {W : World} (hx : ExtG B W) (T : Nat) : Mem B [.row none T (0 * 2) []] W :=
  ⟨hx, fun q hq => by rw [List.mem_singleton] at hq; subst hq; exact ⟨fun _ => rfl, fun h => absurd rfl h⟩, List.pairwise_singleton _ _⟩
theorem ev_none {s : Bs} {w W : World} {own : Own} (hm : Mem (Bas.of w) own W) (E : Ev) (hE : E.s = ⟨none, 0, 0⟩) (h : evOf s = none) : PG (EvIs s) (evG s) evO w (.returned (.tuple #[E.g, .bool false])) W := by
  refine ⟨(E, []), ⟨by rw [hE]; rfl, by rw [hE]; exact Nat.le_refl _, fun x hx => by rw [h] at hx; cases hx⟩, by simp only [evG, h]; rfl, ?_⟩
  simp only [evO, hE]
  exact mem_nilrow hm.ext _
theorem rsAt_row {B : Bas} {own : Own} {W : World} (hm : Mem B own W) {i T : Nat} {a : Option Addr} {c : Nat} {L : List Rc} (hi : nth own i = some (.row a T (c * 2) (encs Rc.e L))) (hc : L.length ≤ c) : RsAt W ⟨a, L.length, c⟩ L := by
  refine ⟨rfl, hc, fun h0 => ?_, ((MOk.cons i hi rfl rfl (Sub.refl _) .nil).mem hm).1⟩
  rw [nth_eq] at hi
  obtain ⟨b, cs, h1, _⟩ := (hm.at hi).2 (fun e => h0 (by show c = 0; omega))
  exact ⟨b, 0, h1⟩
theorem ev_fin {s : Bs} {w W : World} {own : Own} (hm : Mem (Bas.of w) own W) (i : Nat) (E : Ev) (L : List Rc) (hi : nth own i = some (.row E.s.a 42 (E.s.c * 2) (encs Rc.e L))) (hn : E.s.n = L.length) (hc : L.length ≤ E.s.c) (b : Bool) (hb : (evOf s).isSome = b)
    (hx : ∀ x, evOf s = some x → E.k = x.k ∧ E.w = x.w ∧ E.n = x.n ∧ E.f = x.f ∧ E.m = x.m ∧ L = x.rs) : PG (EvIs s) (evG s) evO w (.returned (.tuple #[E.g, .bool b])) W :=
  ⟨(E, L), ⟨hn, hc, hx⟩, by rw [← hb], hm.sel (is := [i]) (by simp only [pick, hi]) rfl⟩
theorem evOf_cases (s : Bs) : evOf s = none ∨ (∃ x, evOf s = some x) := by cases evOf s with | none => exact .inl rfl | some x => exact .inr ⟨x, rfl⟩
attribute [local irreducible] atoiV Lib.cut spl lineT evV
theorem event_c (s : Bs) (hs : s.length ≤ 65536) (w : World) (hG : Gl w) : Calls C.P 20 [strV s].toArray w (PG (EvIs s) (evG s) evO w) := by
  have hwl : (spl 32 s).length ≤ 65537 := by have := spl_len_le (c := 32) s; omega
  have hww : ∀ u ∈ spl 32 s, u.length ≤ 65536 := fun u hu => by have := spl_mem_le s u hu; omega
  have hA : ∀ (u : Bs), u.length ≤ 65536 → ∀ W, Gl W → Calls C.P 34 #[strV u] W (PG (fun _ : Value => True) (fun v => .tuple #[.int .i64 (atoiV u), v]) (fun _ => []) W) := fun u hu W hg => atoi_c u (by omega) W hg
  refine calls_v Tryd.func20 rfl _ Tryd.ntmps20 rfl ?_
  repeat' (first | (guard_target =~ JL _ _ _ _ _ _ _ _; first | refine jl_nil ?_ | refine jl_same rfl rfl rfl rfl rfl ?_ | refine jl_v rfl rfl rfl rfl (ov_int rfl rfl (by simp only [inK]; omega)) ?_ | refine jl_p rfl rfl rfl rfl rfl ?_ | refine jl_s rfl rfl rfl ?_ | refine jl_st rfl rfl rfl rfl ?_ | refine jl_n rfl rfl rfl rfl rfl (fun n => rfl) (fun n => ?_) | refine jl_x rfl rfl (ox_sm 32 (fun _ _ => by kernel_rfl) ((fun W hm => split_c s 32 (by omega) W (hG.m hm))) rfl rfl rfl rfl rfl (fun _ _ => rfl) (fun c hc a => ?_)) | refine jl_x rfl rfl (ox_gm 33 (fun _ _ => by kernel_rfl) ((fun W hm => plain_c s W)) rfl rfl rfl rfl (fun _ => by first | exact trivial | exact And.intro trivial trivial | exact And.intro trivial (And.intro (loc_evs _ _) trivial)) (fun _ => rfl) (fun b hb => ?_)) | refine jl_x rfl rfl (ox_pvf 23 (numbers_c _ _) rfl rfl rfl rfl (fun _ _ => by kernel_rfl) ?_) | ((fail_if_success (refine jl_gt rfl ?_)); first | (refine jl_split_lt rfl rfl rfl (fun hc => ?_) (fun hc => ?_)) | (refine jl_split_ge rfl rfl rfl (fun hc => ?_) (fun hc => ?_)) | (refine jl_split_eq rfl rfl rfl (fun hc => ?_) (fun hc => ?_)) | (refine jl_split_ne rfl rfl rfl (fun hc => ?_) (fun hc => ?_)) | (refine jl_split rfl rfl rfl (fun hc => ?_) (fun hc => ?_)))) | (guard_target =~ JO _ _ _ _ _ _ _ _; first | refine JO.nil ?_ | refine JO.fork ?_ ?_ | refine jo_same rfl rfl rfl rfl rfl rfl ?_ | refine jo_v rfl rfl rfl rfl rfl (ov_int rfl rfl (by simp only [inK]; omega)) ?_ | refine jo_p rfl rfl rfl rfl rfl rfl ?_ | refine jo_s rfl rfl rfl rfl ?_ | refine jo_st rfl rfl rfl rfl rfl rfl ?_ | refine jo_n rfl rfl rfl rfl rfl rfl (fun n => rfl) (fun n => ?_) | refine jo_x rfl rfl rfl (ox_sm 32 (fun _ _ => by kernel_rfl) ((fun W hm => split_c s 32 (by omega) W (hG.m hm))) rfl rfl rfl rfl rfl (fun _ _ => rfl) (fun c hc a => ?_)) | refine jo_x rfl rfl rfl (ox_gm 33 (fun _ _ => by kernel_rfl) ((fun W hm => plain_c s W)) rfl rfl rfl rfl (fun _ => by first | exact trivial | exact And.intro trivial trivial | exact And.intro trivial (And.intro (loc_evs _ _) trivial)) (fun _ => rfl) (fun b hb => ?_)) | refine jo_x rfl rfl rfl (ox_pvf 23 (numbers_c _ _) rfl rfl rfl rfl (fun _ _ => by kernel_rfl) ?_) | ((fail_if_success (refine jo_gt rfl rfl ?_)); first | (refine jo_split_lt rfl rfl rfl rfl (fun hc => ?_) (fun hc => ?_)) | (refine jo_split_ge rfl rfl rfl rfl (fun hc => ?_) (fun hc => ?_)) | (refine jo_split_eq rfl rfl rfl rfl (fun hc => ?_) (fun hc => ?_)) | (refine jo_split_ne rfl rfl rfl rfl (fun hc => ?_) (fun hc => ?_)) | (refine jo_split rfl rfl rfl rfl (fun hc => ?_) (fun hc => ?_)))) | (guard_target =~ JC _ _ _ _ _ _ _; first | refine jc_seq ?_ | refine jc_region ?_ | refine jc_draw (id := 20) (.step 2 0 (.step 2 1 (.step 1 3 (.step 1 2 (.step 1 4 (.step 1 5 (.step 2 6 .nil))))))) (by kernel_rfl) rfl ?_ | refine jc_drawn (by kernel_rfl) rfl ?_ | refine jc_cond_t rfl ?_ | refine jc_cond_f rfl ?_ | refine jc_cond_lt rfl (fun hc => ?_) (fun hc => ?_) | refine jc_cond_ge rfl (fun hc => ?_) (fun hc => ?_) | refine jc_cond_eq rfl (fun hc => ?_) (fun hc => ?_) | refine jc_cond_ne rfl (fun hc => ?_) (fun hc => ?_) | refine jc_cond rfl (fun hc => ?_) (fun hc => ?_) | refine jc_skip ?_ | refine jc_ret ?_ | refine jc_exit ?_ | refine jc_block ?_) | (guard_target =~ Kthen _ _ _ _; first | refine k_then ?_ | refine k_then_r ?_ | refine k_then_e ?_) | (guard_target =~ Kblock _ _ _ _; first | refine k_block_n ?_ | refine k_block_r ?_ | refine k_block_hit ?_ | refine k_block_miss rfl ?_) | (guard_target =~ JR _ _ _ _ _ _ _ _; refine jr_step ?_))
  · refine fin2 (.inr rfl) rfl (ris rfl) (ris rfl) (fun W hm => ev_none hm ⟨0, 0, 0, 0, 0, ⟨none, 0, 0⟩⟩ rfl ?_)
    rcases evOf_cases s with h | ⟨x, h⟩
    · exact h
    · have := hb (ws_line h).2
      simp_all
  · refine fin2 (.inr rfl) rfl (ris rfl) (ris rfl) (fun W hm => ev_none hm ⟨0, 0, 0, 0, 0, ⟨none, 0, 0⟩⟩ rfl ?_)
    rcases evOf_cases s with h | ⟨x, h⟩
    · exact h
    · rw [(ws_line h).1] at *
      simp [wordsT, numsT] at *
      omega
  have h5 : 5 ≤ (spl 32 s).length := by omega
  refine jc_rounds 6 ?_
  repeat' (first | (guard_target =~ JL _ _ _ _ _ _ _ _; first | refine jl_nil ?_ | refine jl_same rfl rfl rfl rfl rfl ?_ | refine jl_v rfl rfl rfl rfl (ov_int rfl rfl (by simp only [inK]; omega)) ?_ | refine jl_p rfl rfl rfl rfl rfl ?_ | refine jl_s rfl rfl rfl ?_ | refine jl_st rfl rfl rfl rfl ?_ | refine jl_n rfl rfl rfl rfl rfl (fun n => rfl) (fun n => ?_) | refine jl_unptr 30 0 rfl rfl ?_ | refine jl_v rfl rfl rfl rfl (ov_nilckp rfl) ?_ | refine jl_v rfl rfl rfl rfl (ov_index rfl rfl rfl rfl rfl (by first | omega | (simp only []; omega)) (by first | omega | (simp only []; omega))) ?_ | refine jl_v rfl rfl rfl rfl (ov_load rfl rfl rfl (at0 St.el (by first | omega | (simp only []; omega))) rfl rfl) ?_ | refine jl_x rfl rfl (ox_gm 34 (fun _ _ => by kernel_rfl) ((fun W hm => hA _ (hww _ (List.getElem_mem _)) W (hG.m hm))) rfl rfl rfl rfl (fun _ => by first | exact trivial | exact And.intro trivial trivial | exact And.intro trivial (And.intro (loc_evs _ _) trivial)) (fun _ => rfl) (fun v hv => ?_)) | refine jl_v rfl rfl rfl rfl (ov_slice rfl rfl rfl rfl rfl (by first | omega | (simp only []; omega)) (by first | omega | (simp only []; omega))) ?_ | ((fail_if_success (refine jl_gt rfl ?_)); first | (refine jl_split_lt rfl rfl rfl (fun hc => ?_) (fun hc => ?_)) | (refine jl_split_ge rfl rfl rfl (fun hc => ?_) (fun hc => ?_)) | (refine jl_split_eq rfl rfl rfl (fun hc => ?_) (fun hc => ?_)) | (refine jl_split_ne rfl rfl rfl (fun hc => ?_) (fun hc => ?_)) | (refine jl_split rfl rfl rfl (fun hc => ?_) (fun hc => ?_)))) | (guard_target =~ JO _ _ _ _ _ _ _ _; first | refine JO.nil ?_ | refine JO.fork ?_ ?_ | refine jo_same rfl rfl rfl rfl rfl rfl ?_ | refine jo_v rfl rfl rfl rfl rfl (ov_int rfl rfl (by simp only [inK]; omega)) ?_ | refine jo_p rfl rfl rfl rfl rfl rfl ?_ | refine jo_s rfl rfl rfl rfl ?_ | refine jo_st rfl rfl rfl rfl rfl rfl ?_ | refine jo_n rfl rfl rfl rfl rfl rfl (fun n => rfl) (fun n => ?_) | refine jo_v rfl rfl rfl rfl rfl (ov_nilckp rfl) ?_ | refine jo_v rfl rfl rfl rfl rfl (ov_index rfl rfl rfl rfl rfl (by first | omega | (simp only []; omega)) (by first | omega | (simp only []; omega))) ?_ | refine jo_v rfl rfl rfl rfl rfl (ov_load rfl rfl rfl (at0 St.el (by first | omega | (simp only []; omega))) rfl rfl) ?_ | refine jo_x rfl rfl rfl (ox_gm 34 (fun _ _ => by kernel_rfl) ((fun W hm => hA _ (hww _ (List.getElem_mem _)) W (hG.m hm))) rfl rfl rfl rfl (fun _ => by first | exact trivial | exact And.intro trivial trivial | exact And.intro trivial (And.intro (loc_evs _ _) trivial)) (fun _ => rfl) (fun v hv => ?_)) | refine jo_v rfl rfl rfl rfl rfl (ov_slice rfl rfl rfl rfl rfl (by first | omega | (simp only []; omega)) (by first | omega | (simp only []; omega))) ?_ | ((fail_if_success (refine jo_gt rfl rfl ?_)); first | (refine jo_split_lt rfl rfl rfl rfl (fun hc => ?_) (fun hc => ?_)) | (refine jo_split_ge rfl rfl rfl rfl (fun hc => ?_) (fun hc => ?_)) | (refine jo_split_eq rfl rfl rfl rfl (fun hc => ?_) (fun hc => ?_)) | (refine jo_split_ne rfl rfl rfl rfl (fun hc => ?_) (fun hc => ?_)) | (refine jo_split rfl rfl rfl rfl (fun hc => ?_) (fun hc => ?_)))) | (guard_target =~ JC _ _ _ _ _ _ _; first | refine jc_seq ?_ | refine jc_region ?_ | refine jc_draw (id := 20) (.step 2 0 (.step 2 1 (.step 1 3 (.step 1 2 (.step 1 4 (.step 1 5 (.step 2 6 .nil))))))) (by kernel_rfl) rfl ?_ | refine jc_drawn (by kernel_rfl) rfl ?_ | refine jc_cond_t rfl ?_ | refine jc_cond_f rfl ?_ | refine jc_cond_lt rfl (fun hc => ?_) (fun hc => ?_) | refine jc_cond_ge rfl (fun hc => ?_) (fun hc => ?_) | refine jc_cond_eq rfl (fun hc => ?_) (fun hc => ?_) | refine jc_cond_ne rfl (fun hc => ?_) (fun hc => ?_) | refine jc_cond rfl (fun hc => ?_) (fun hc => ?_) | refine jc_skip ?_ | refine jc_ret ?_ | refine jc_exit ?_ | refine jc_block ?_) | (guard_target =~ Kthen _ _ _ _; first | refine k_then ?_ | refine k_then_r ?_ | refine k_then_e ?_) | (guard_target =~ Kblock _ _ _ _; first | refine k_block_n ?_ | refine k_block_r ?_ | refine k_block_hit ?_ | refine k_block_miss rfl ?_) | (guard_target =~ JR _ _ _ _ _ _ _ _; refine jr_step ?_))
  refine jc_wk (wk_push (o := .row none 42 (0 * 2) []) (fun _ _ => ⟨fun _ => rfl, fun h => absurd rfl h⟩) (fun b h => absurd rfl h.1) rfl) ?_
  refine jc_inv (fun z : Nat × Ev × List Rc => ⟨[(43, .v (.int .i64 z.1)), (42, .v (.int .i64 ((spl 32 s).length - 5 : Nat))), (41, .s 1 (0 + 5 * 1) ((spl 32 s).length - 5) (c - 5)), (2, .p 0 0), (0, .v (strV s))], [.blk n 31 [.int .i64 z.2.1.k, .int .i64 z.2.1.w, .int .i64 z.2.1.n, .int .i64 z.2.1.f, .int .i64 z.2.1.m, .slice z.2.1.s.a z.2.2.length z.2.1.s.c], .row a 9 (c * 1) (encs St.e (spl 32 s)), .row z.2.1.s.a 42 (z.2.1.s.c * 2) (encs Rc.e z.2.2)], []⟩)
    (fun z => z.1 ≤ (spl 32 s).length - 5 ∧ z.2.2.length ≤ z.2.1.s.c ∧ z.2.2 = (((spl 32 s).drop 5).take z.1).map recV ∧ z.2.1.k = (evV s).k ∧ z.2.1.w = (evV s).w ∧ z.2.1.n = (evV s).n ∧ z.2.1.f = (evV s).f ∧ z.2.1.m = (evV s).m) (fun z => (spl 32 s).length - 5 - z.1) (0, ⟨_, _, _, _, _, ⟨none, 0, 0⟩⟩, []) ⟨Nat.zero_le _, Nat.le_refl _, rfl, ?_, ?_, ?_, ?_, ?_⟩ (wk [0, 1, 2] rfl rfl (by repeat' (first | exact EnvIn.nil | refine EnvIn.cons rfl rfl ?_))) ?_
  · exact (evV0 (by omega)).symm
  · exact (evV1 (by omega)).symm
  · exact (evV2 (by omega)).symm
  · exact (evV3 (by omega)).symm
  · exact (evV4 (by omega)).symm
  rintro ⟨j, ⟨e1, e2, e3, e4, e5, ⟨ad, sn, sc⟩⟩, L⟩ ⟨hj, hcap, hL, h1, h2, h3, h4, h6⟩
  dsimp only at hj hcap hL h1 h2 h3 h4 h6 ⊢
  have hLl : L.length = j := by rw [hL]; simp; omega
  by_cases hlt : j < (spl 32 s).length - 5
  · have hjl : 5 + j < (spl 32 s).length := by omega
    have hu := hww _ (List.getElem_mem hjl)
    have hcu := cut_len (spl 32 s)[5 + j] 58
    have hC := fun W hg => cut_c (spl 32 s)[5 + j] 58 (by omega) W hg
    have hrv : recV (spl 32 s)[5 + j] = ⟨atoiV (Lib.cut (spl 32 s)[5 + j] [58]).1, atoiV (Lib.cut (spl 32 s)[5 + j] [58]).2.1⟩ := rfl
    obtain ⟨kT, vT, two, hcut⟩ : ∃ a b c, Lib.cut (spl 32 s)[5 + j] [58] = (a, b, c) := ⟨_, _, _, rfl⟩
    rw [hcut] at hcu hC hrv
    simp only at hcu hC hrv
    repeat' (first | (guard_target =~ JL _ _ _ _ _ _ _ _; first | refine jl_nil ?_ | refine jl_same rfl rfl rfl rfl rfl ?_ | refine jl_v rfl rfl rfl rfl (ov_int rfl rfl (by simp only [inK]; omega)) ?_ | refine jl_p rfl rfl rfl rfl rfl ?_ | refine jl_s rfl rfl rfl ?_ | refine jl_st rfl rfl rfl rfl ?_ | refine jl_n rfl rfl rfl rfl rfl (fun n => rfl) (fun n => ?_) | refine jl_v rfl rfl rfl rfl (ov_index rfl rfl rfl rfl rfl (by first | omega | (simp only []; omega)) (by first | omega | (simp only []; omega))) ?_ | refine jl_v rfl rfl rfl rfl (ov_load rfl rfl rfl (at1 St.el (l := 5) (m := j) (by omega)) rfl rfl) ?_ | refine jl_x rfl rfl (ox_pvm 19 ((fun W hm => hC W (hG.m hm))) rfl rfl rfl rfl (fun _ _ => by kernel_rfl) ?_) | refine jl_x rfl rfl (ox_gm 34 (fun _ _ => by kernel_rfl) ((fun W hm => hA kT (by omega) W (hG.m hm))) rfl rfl rfl rfl (fun _ => by first | exact trivial | exact And.intro trivial trivial | exact And.intro trivial (And.intro (loc_evs _ _) trivial)) (fun _ => rfl) (fun v hv => ?_)) | refine jl_x rfl rfl (ox_gm 34 (fun _ _ => by kernel_rfl) ((fun W hm => hA vT (by omega) W (hG.m hm))) rfl rfl rfl rfl (fun _ => by first | exact trivial | exact And.intro trivial trivial | exact And.intro trivial (And.intro (loc_evs _ _) trivial)) (fun _ => rfl) (fun v hv => ?_)) | refine jl_unname 69 2 rfl rfl (by decide) ?_ | refine jl_x rfl rfl (ox_app Rc.el Rc.e1 (L := L) (M := [⟨atoiV kT, atoiV vT⟩]) rfl rfl rfl rfl rfl rfl rfl rfl rfl rfl rfl rfl rfl (Sub.refl _) (by first | omega | (simp only [List.length_set, List.length_nil, List.length_append, List.length_cons, List.length_drop, List.length_take, List.length_singleton]; done) | (simp only [List.length_set, List.length_nil, List.length_append, List.length_cons, List.length_drop, List.length_take, List.length_singleton]; omega)) (by first | omega | (simp only [List.length_set, List.length_nil, List.length_append, List.length_cons, List.length_drop, List.length_take, List.length_singleton]; done) | (simp only [List.length_set, List.length_nil, List.length_append, List.length_cons, List.length_drop, List.length_take, List.length_singleton]; omega)) (by first | omega | (simp only [List.length_set, List.length_nil, List.length_append, List.length_cons, List.length_drop, List.length_take, List.length_singleton]; done) | (simp only [List.length_set, List.length_nil, List.length_append, List.length_cons, List.length_drop, List.length_take, List.length_singleton]; omega)) (by first | omega | (simp only [List.length_set, List.length_nil, List.length_append, List.length_cons, List.length_drop, List.length_take, List.length_singleton]; done) | (simp only [List.length_set, List.length_nil, List.length_append, List.length_cons, List.length_drop, List.length_take, List.length_singleton]; omega)) rfl (fun _ _ => rfl) (fun c hc a => ?_)) | refine jl_name 72 rfl rfl (by decide) (fun _ => rfl) (fun ad' => ?_) | ((fail_if_success (refine jl_gt rfl ?_)); first | (refine jl_split_lt rfl rfl rfl (fun hc => ?_) (fun hc => ?_)) | (refine jl_split_ge rfl rfl rfl (fun hc => ?_) (fun hc => ?_)) | (refine jl_split_eq rfl rfl rfl (fun hc => ?_) (fun hc => ?_)) | (refine jl_split_ne rfl rfl rfl (fun hc => ?_) (fun hc => ?_)) | (refine jl_split rfl rfl rfl (fun hc => ?_) (fun hc => ?_)))) | (guard_target =~ JO _ _ _ _ _ _ _ _; first | refine JO.nil ?_ | refine JO.fork ?_ ?_ | refine jo_same rfl rfl rfl rfl rfl rfl ?_ | refine jo_v rfl rfl rfl rfl rfl (ov_int rfl rfl (by simp only [inK]; omega)) ?_ | refine jo_p rfl rfl rfl rfl rfl rfl ?_ | refine jo_s rfl rfl rfl rfl ?_ | refine jo_st rfl rfl rfl rfl rfl rfl ?_ | refine jo_n rfl rfl rfl rfl rfl rfl (fun n => rfl) (fun n => ?_) | refine jo_v rfl rfl rfl rfl rfl (ov_index rfl rfl rfl rfl rfl (by first | omega | (simp only []; omega)) (by first | omega | (simp only []; omega))) ?_ | refine jo_v rfl rfl rfl rfl rfl (ov_load rfl rfl rfl (at1 St.el (l := 5) (m := j) (by omega)) rfl rfl) ?_ | refine jo_x rfl rfl rfl (ox_pvm 19 ((fun W hm => hC W (hG.m hm))) rfl rfl rfl rfl (fun _ _ => by kernel_rfl) ?_) | refine jo_x rfl rfl rfl (ox_gm 34 (fun _ _ => by kernel_rfl) ((fun W hm => hA kT (by omega) W (hG.m hm))) rfl rfl rfl rfl (fun _ => by first | exact trivial | exact And.intro trivial trivial | exact And.intro trivial (And.intro (loc_evs _ _) trivial)) (fun _ => rfl) (fun v hv => ?_)) | refine jo_x rfl rfl rfl (ox_gm 34 (fun _ _ => by kernel_rfl) ((fun W hm => hA vT (by omega) W (hG.m hm))) rfl rfl rfl rfl (fun _ => by first | exact trivial | exact And.intro trivial trivial | exact And.intro trivial (And.intro (loc_evs _ _) trivial)) (fun _ => rfl) (fun v hv => ?_)) | refine jo_x rfl rfl rfl (ox_app Rc.el Rc.e1 (L := L) (M := [⟨atoiV kT, atoiV vT⟩]) rfl rfl rfl rfl rfl rfl rfl rfl rfl rfl rfl rfl rfl (Sub.refl _) (by first | omega | (simp only [List.length_set, List.length_nil, List.length_append, List.length_cons, List.length_drop, List.length_take, List.length_singleton]; done) | (simp only [List.length_set, List.length_nil, List.length_append, List.length_cons, List.length_drop, List.length_take, List.length_singleton]; omega)) (by first | omega | (simp only [List.length_set, List.length_nil, List.length_append, List.length_cons, List.length_drop, List.length_take, List.length_singleton]; done) | (simp only [List.length_set, List.length_nil, List.length_append, List.length_cons, List.length_drop, List.length_take, List.length_singleton]; omega)) (by first | omega | (simp only [List.length_set, List.length_nil, List.length_append, List.length_cons, List.length_drop, List.length_take, List.length_singleton]; done) | (simp only [List.length_set, List.length_nil, List.length_append, List.length_cons, List.length_drop, List.length_take, List.length_singleton]; omega)) (by first | omega | (simp only [List.length_set, List.length_nil, List.length_append, List.length_cons, List.length_drop, List.length_take, List.length_singleton]; done) | (simp only [List.length_set, List.length_nil, List.length_append, List.length_cons, List.length_drop, List.length_take, List.length_singleton]; omega)) rfl (fun _ _ => rfl) (fun c hc a => ?_)) | ((fail_if_success (refine jo_gt rfl rfl ?_)); first | (refine jo_split_lt rfl rfl rfl rfl (fun hc => ?_) (fun hc => ?_)) | (refine jo_split_ge rfl rfl rfl rfl (fun hc => ?_) (fun hc => ?_)) | (refine jo_split_eq rfl rfl rfl rfl (fun hc => ?_) (fun hc => ?_)) | (refine jo_split_ne rfl rfl rfl rfl (fun hc => ?_) (fun hc => ?_)) | (refine jo_split rfl rfl rfl rfl (fun hc => ?_) (fun hc => ?_)))) | (guard_target =~ JC _ _ _ _ _ _ _; first | (exfalso; omega) | refine jc_seq ?_ | refine jc_region ?_ | refine jc_draw (id := 20) (.step 2 0 (.step 2 1 (.step 1 3 (.step 1 2 (.step 1 4 (.step 1 5 (.step 2 6 .nil))))))) (by kernel_rfl) rfl ?_ | refine jc_drawn (by kernel_rfl) rfl ?_ | refine jc_cond_t rfl ?_ | refine jc_cond_f rfl ?_ | refine jc_cond_lt rfl (fun hc => ?_) (fun hc => ?_) | refine jc_cond_ge rfl (fun hc => ?_) (fun hc => ?_) | refine jc_cond_eq rfl (fun hc => ?_) (fun hc => ?_) | refine jc_cond_ne rfl (fun hc => ?_) (fun hc => ?_) | refine jc_cond rfl (fun hc => ?_) (fun hc => ?_) | refine jc_skip ?_ | refine jc_ret ?_ | refine jc_exit ?_ | refine jc_block ?_) | (guard_target =~ Kthen _ _ _ _; first | refine k_then ?_ | refine k_then_r ?_ | refine k_then_e ?_) | (guard_target =~ Kblock _ _ _ _; first | refine k_block_n ?_ | refine k_block_r ?_ | refine k_block_hit ?_ | refine k_block_miss rfl ?_) | (guard_target =~ JR _ _ _ _ _ _ _ _; refine jr_step ?_))
    · refine fin2 (.inr rfl) rfl (ris rfl) (ris rfl) (fun W hm => ?_)
      have hno : evOf s = none := by
        rcases evOf_cases s with h | ⟨x, h⟩
        · exact h
        · exfalso
          have hx := (ws_line h).1
          have hjx : j < x.rs.length := by
            rw [hx] at hjl
            simp [wordsT, numsT] at hjl
            omega
          have e : (spl 32 s)[5 + j] = recT x.rs[j] := by
            have : (wordsT x)[5 + j]? = some (recT x.rs[j]) := by
              unfold wordsT
              rw [List.getElem?_append_right (by simp [numsT])]
              simp [numsT, hjx]
            rw [← hx, List.getElem?_eq_getElem hjl] at this
            exact Option.some.inj this
          rw [e, cut_rec] at hcut
          simp at hcut
          rw [← hcut.2.2] at hc
          simp at hc
      exact ev_fin hm 2 ⟨e1, e2, e3, e4, e5, ⟨ad, L.length, sc⟩⟩ L rfl rfl hcap false (by rw [hno]; rfl) (fun x hx => by rw [hno] at hx; cases hx)
    · refine ⟨(j + 1, ⟨e1, e2, e3, e4, e5, ⟨ad', 0, c⟩⟩, L ++ [⟨atoiV kT, atoiV vT⟩]), ⟨by dsimp only; omega, by assumption, ?_, h1, h2, h3, h4, h6⟩, by dsimp only; omega, (wk [0, 1, 6] rfl rfl (by repeat' (first | exact EnvIn.nil | refine EnvIn.cons rfl rfl ?_)))⟩
      dsimp only
      rw [hL, List.take_succ_eq_append_getElem (by rw [List.length_drop]; omega), List.map_append, List.map_singleton, List.getElem_drop, hrv]
  · have hrs : L = (evV s).rs := by rw [hL, evV_rs, List.take_of_length_le (by rw [List.length_drop]; omega)]
    have hrl : (evV s).rs.length ≤ 1000000 := by rw [← hrs]; omega
    have hat : ∀ W, RsAt W ⟨ad, L.length, sc⟩ L → EvAt W ⟨e1, e2, e3, e4, e5, ⟨ad, L.length, sc⟩⟩ (evV s) := fun W h => ⟨h1, h2, h3, h4, h6, by rw [← hrs]; exact h⟩
    repeat' (first | (guard_target =~ JL _ _ _ _ _ _ _ _; first | refine jl_v rfl rfl rfl rfl (ov_streq (lineT (evV s)) s rfl rfl) ?_ | refine jl_nil ?_ | refine jl_same rfl rfl rfl rfl rfl ?_ | refine jl_v rfl rfl rfl rfl (ov_int rfl rfl (by simp only [inK]; omega)) ?_ | refine jl_p rfl rfl rfl rfl rfl ?_ | refine jl_s rfl rfl rfl ?_ | refine jl_st rfl rfl rfl rfl ?_ | refine jl_n rfl rfl rfl rfl rfl (fun n => rfl) (fun n => ?_) | refine jl_x rfl rfl (ox_pvm 14 ((fun W hm => line_c ⟨e1, e2, e3, e4, e5, ⟨ad, L.length, sc⟩⟩ (evV s) (evV_bd s) hrl W (hG.m hm) (hat W (rsAt_row hm (i := 2) rfl hcap)))) rfl rfl rfl rfl (fun _ _ => by kernel_rfl) ?_) | ((fail_if_success (refine jl_gt rfl ?_)); first | (refine jl_split_lt rfl rfl rfl (fun hc => ?_) (fun hc => ?_)) | (refine jl_split_ge rfl rfl rfl (fun hc => ?_) (fun hc => ?_)) | (refine jl_split_eq rfl rfl rfl (fun hc => ?_) (fun hc => ?_)) | (refine jl_split_ne rfl rfl rfl (fun hc => ?_) (fun hc => ?_)) | (refine jl_split rfl rfl rfl (fun hc => ?_) (fun hc => ?_)))) | (guard_target =~ JO _ _ _ _ _ _ _ _; first | refine jo_v rfl rfl rfl rfl rfl (ov_streq (lineT (evV s)) s rfl rfl) ?_ | refine JO.nil ?_ | refine JO.fork ?_ ?_ | refine jo_same rfl rfl rfl rfl rfl rfl ?_ | refine jo_v rfl rfl rfl rfl rfl (ov_int rfl rfl (by simp only [inK]; omega)) ?_ | refine jo_p rfl rfl rfl rfl rfl rfl ?_ | refine jo_s rfl rfl rfl rfl ?_ | refine jo_st rfl rfl rfl rfl rfl rfl ?_ | refine jo_n rfl rfl rfl rfl rfl rfl (fun n => rfl) (fun n => ?_) | refine jo_x rfl rfl rfl (ox_pvm 14 ((fun W hm => line_c ⟨e1, e2, e3, e4, e5, ⟨ad, L.length, sc⟩⟩ (evV s) (evV_bd s) hrl W (hG.m hm) (hat W (rsAt_row hm (i := 2) rfl hcap)))) rfl rfl rfl rfl (fun _ _ => by kernel_rfl) ?_) | ((fail_if_success (refine jo_gt rfl rfl ?_)); first | (refine jo_split_lt rfl rfl rfl rfl (fun hc => ?_) (fun hc => ?_)) | (refine jo_split_ge rfl rfl rfl rfl (fun hc => ?_) (fun hc => ?_)) | (refine jo_split_eq rfl rfl rfl rfl (fun hc => ?_) (fun hc => ?_)) | (refine jo_split_ne rfl rfl rfl rfl (fun hc => ?_) (fun hc => ?_)) | (refine jo_split rfl rfl rfl rfl (fun hc => ?_) (fun hc => ?_)))) | (guard_target =~ JC _ _ _ _ _ _ _; first | (exfalso; omega) | refine jc_drawz (id := 20) (.step 2 0 (.step 2 1 (.step 1 3 (.step 1 2 (.step 1 4 (.step 1 5 (.step 2 6 .nil))))))) [] rfl (by kernel_rfl) ?_ | refine jc_seq ?_ | refine jc_region ?_ | refine jc_draw (id := 20) (.step 2 0 (.step 2 1 (.step 1 3 (.step 1 2 (.step 1 4 (.step 1 5 (.step 2 6 .nil))))))) (by kernel_rfl) rfl ?_ | refine jc_drawn (by kernel_rfl) rfl ?_ | refine jc_cond_t rfl ?_ | refine jc_cond_f rfl ?_ | refine jc_cond_lt rfl (fun hc => ?_) (fun hc => ?_) | refine jc_cond_ge rfl (fun hc => ?_) (fun hc => ?_) | refine jc_cond_eq rfl (fun hc => ?_) (fun hc => ?_) | refine jc_cond_ne rfl (fun hc => ?_) (fun hc => ?_) | refine jc_cond rfl (fun hc => ?_) (fun hc => ?_) | refine jc_skip ?_ | refine jc_ret ?_ | refine jc_exit ?_ | refine jc_block ?_) | (guard_target =~ Kthen _ _ _ _; first | refine k_then ?_ | refine k_then_r ?_ | refine k_then_e ?_) | (guard_target =~ Kblock _ _ _ _; first | refine k_block_n ?_ | refine k_block_r ?_ | refine k_block_hit ?_ | refine k_block_miss rfl ?_) | (guard_target =~ JR _ _ _ _ _ _ _ _; refine jr_step ?_))
    refine fin2 (.inr rfl) rfl (ris rfl) (ris rfl) (fun W hm => ?_)
    exact ev_fin hm 2 ⟨e1, e2, e3, e4, e5, ⟨ad, L.length, sc⟩⟩ L rfl rfl hcap _ (evOf_V s) (fun x hx => by rw [← evV_of hx]; exact ⟨h1, h2, h3, h4, h6, hrs⟩)
end Go.Proofs.YtpfjolckhlgodaaDoor
