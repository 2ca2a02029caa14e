/- The document's example. -/
import Derived.Test.YtpfjolckhlgodaaDoorSq
namespace Go.Proofs.YtpfjolckhlgodaaDoor
open Go Go.RowKit
set_option linter.unusedSimpArgs false
set_option maxHeartbeats 1000000
set_option linter.unusedVariables false
set_option maxRecDepth 4000
def shX : Evn := ⟨1, 1, 0, 0, 0, [⟨3, -4⟩]⟩
def shL : Bs := [49, 32, 49, 32, 48, 32, 48, 32, 48, 32, 51, 58, 45, 52]
theorem shX_bd : shX.Bd := by
  refine ⟨?_, ?_, ?_, ?_, ?_, fun r hr => ?_⟩ <;> simp only [shX, List.mem_singleton] at * <;> (try subst hr) <;> unfold I64 <;> decide
theorem shX_line : lineT shX = shL := by
  have d : ∀ n : Nat, n < 10 → Lib.itoa (n : Int) = [UInt8.ofNat (48 + n)] := fun n h => by
    unfold Lib.itoa
    rw [if_neg (by omega), Int.toNat_natCast, dec_small h]
  have e0 : Lib.itoa 0 = [48] := d 0 (by decide)
  have e1 : Lib.itoa 1 = [49] := d 1 (by decide)
  have e3 : Lib.itoa 3 = [51] := d 3 (by decide)
  have e4 : Lib.itoa (-4) = [45, 52] := by
    unfold Lib.itoa
    rw [if_pos (by decide)]
    have : (-4 : Int).natAbs = 4 := rfl
    rw [this, dec_small (by decide)]
    rfl
  simp only [lineT, wordsT, numsT, shX, recT, e0, e1, e3, e4, List.map_cons, List.map_nil, List.cons_append, List.nil_append, Lib.join_cons, Lib.joinTail, List.flatten_cons, List.flatten_nil, List.append_nil]
  rfl
theorem shX_parse : parseP (shL ++ [10]) = ([shX], 0, 0) := by
  have h : printT [shX] = shL ++ [10] := by unfold printT; simp [shX_line]
  rw [← h]
  exact parseP_print (fun x hx => by rw [List.mem_singleton] at hx; rw [hx]; exact shX_bd) (by rw [h]; decide) (by decide)
theorem rowAt_row {B : Bas} {own : Own} {W : World} (hm : Mem B own W) {i T : Nat} {a : Option Addr} {c : Nat} {E : List Ev} {L : List Evn} (hi : nth own i = some (.row a T (c * 6) (encs Ev.e E))) (hc : E.length ≤ c) (he : EvsAt W E L) : RowAt W ⟨a, E.length, c⟩ E L := by
  refine ⟨rfl, hc, fun h0 => ?_, ((MOk.cons i hi rfl rfl (Sub.refl _) .nil).mem hm).1, he⟩
  rw [nth_eq] at hi
  obtain ⟨b, cs, h1, _⟩ := (hm.at hi).2 (fun e => h0 (by show c = 0; omega))
  exact ⟨b, 0, h1⟩
theorem evs_abs {B : Bas} {own : Own} {W : World} (hm : Mem B own W) {i : Nat} {f : Nat → Prop} {E : List Ev} {L : List Evn} (hi : nth own i = some (.abs f (fun W => EvsAt W E L))) : EvsAt W E L := by
  rw [nth_eq] at hi
  exact (hm.at hi).2.1
section rules
variable {C : Ctx} {B : Bas} {nt : Nat} {ρ : Option Nat} {env : Env} {own : Own} {dfs : List Deferred} {K : Exit → St → Prop}
/-- The address of an element of a slice that is told as a value and whose place is known. -/
theorem ov_idxa {dst : Option Tmp} {T : TypeId} {x y : Operand} {ty : TypeId} {pos : String} {af : Array Edge} {g : Option (Nat × Bool)} {ad : Option Addr} {b lo n c m es : Nat} {k : IntKind} {z : Int} {t : Ty} (ha : ad = some ⟨b, lo, none⟩) (hx : ev env x = some (.v (.slice ad n c))) (hy : ev env y = some (.v (.int k z))) (ht : C.ent T = some t) (he : elemSize C t = some es) (hz : intOf2 z = some m) (hm : m < n) (hc : n ≤ c) :
    OV C B nt ⟨dst, .indexAddr T x y, ty, pos, af, g⟩ (.v (.pointer (some ⟨b, lo + m * es, none⟩))) ⟨env, own, dfs⟩ := by
  subst ha
  exact ov_idxp hx hy ht he hz hm hc
end rules
attribute [local irreducible] JC JL OX OV Kthen Kblock JR FendG
attribute [local irreducible] footE lineT
theorem shown_c (w : World) (hG : Gl w) : Calls C.P 9 ([] : List Value).toArray w (PV w (.bool true)) := by
  have hpc : ∀ W, Ext w W → Calls C.P 10 [strV (shL ++ [10])].toArray W (PG (parI ([shX], 0, 0)) (parG ([shX], 0, 0)) (parO ([shX], 0, 0)) W) := fun W hx => by
    rw [← shX_parse]
    exact parse_c _ (by decide) W (hG.ext hx)
  have hlc : ∀ W (a : Option Addr), Ext w W → RsAt W ⟨a, 1, 1⟩ [⟨3, -4⟩] → Calls C.P 14 [(⟨1, 1, 0, 0, 0, ⟨a, 1, 1⟩⟩ : Ev).g].toArray W (PV W (strV shL)) := fun W a hx hr => by
    rw [← shX_line]
    exact line_c _ shX shX_bd (by decide) W (hG.ext hx) ⟨rfl, rfl, rfl, rfl, rfl, hr⟩
  refine calls_v Tryd.func9 rfl _ Tryd.ntmps9 rfl ?_
  repeat' (first | (guard_target =~ JL _ _ _ _ _ _ _ _; first | refine jl_nil ?_ | refine jl_same rfl rfl rfl rfl rfl ?_ | refine jl_v rfl rfl rfl rfl (ov_int rfl rfl (by simp only [inK]; omega)) ?_ | refine jl_p rfl rfl rfl rfl rfl ?_ | refine jl_s rfl rfl rfl ?_ | refine jl_st rfl rfl rfl rfl ?_ | refine jl_n rfl rfl rfl rfl rfl (fun n => rfl) (fun n => ?_) | refine jl_x rfl rfl (ox_gm 10 (fun _ _ => by kernel_rfl) ((fun W hm => hpc W hm.ext.to)) rfl rfl rfl rfl (fun _ => by first | exact trivial | exact And.intro trivial trivial | exact And.intro trivial (And.intro (loc_evs _ _) trivial)) (fun _ => rfl) (fun q hq => ?_)) | refine jl_name 10 rfl rfl (by decide) (fun _ => rfl) (fun ad' => ?_) | refine jl_x rfl rfl (ox_pvm 14 ((fun W hm => hlc W _ hm.ext.to (rsAt_row (L := [⟨3, -4⟩]) hm (i := 3) rfl (by decide)))) rfl rfl rfl rfl (fun _ _ => by kernel_rfl) ?_) | ((fail_if_success (refine jl_gt rfl ?_)); first | (refine jl_split_lt rfl rfl rfl (fun hc => ?_) (fun hc => ?_)) | (refine jl_split_ge rfl rfl rfl (fun hc => ?_) (fun hc => ?_)) | (refine jl_split_eq rfl rfl rfl (fun hc => ?_) (fun hc => ?_)) | (refine jl_split_ne rfl rfl rfl (fun hc => ?_) (fun hc => ?_)) | (refine jl_split rfl rfl rfl (fun hc => ?_) (fun hc => ?_)))) | (guard_target =~ JO _ _ _ _ _ _ _ _; first | refine JO.nil ?_ | refine JO.fork ?_ ?_ | refine jo_same rfl rfl rfl rfl rfl rfl ?_ | refine jo_v rfl rfl rfl rfl rfl (ov_int rfl rfl (by simp only [inK]; omega)) ?_ | refine jo_p rfl rfl rfl rfl rfl rfl ?_ | refine jo_s rfl rfl rfl rfl ?_ | refine jo_st rfl rfl rfl rfl rfl rfl ?_ | refine jo_n rfl rfl rfl rfl rfl rfl (fun n => rfl) (fun n => ?_) | refine jo_x rfl rfl rfl (ox_gm 10 (fun _ _ => by kernel_rfl) ((fun W hm => hpc W hm.ext.to)) rfl rfl rfl rfl (fun _ => by first | exact trivial | exact And.intro trivial trivial | exact And.intro trivial (And.intro (loc_evs _ _) trivial)) (fun _ => rfl) (fun q hq => ?_)) | refine jo_x rfl rfl rfl (ox_pvm 14 ((fun W hm => hlc W _ hm.ext.to (rsAt_row (L := [⟨3, -4⟩]) hm (i := 3) rfl (by decide)))) rfl rfl rfl rfl (fun _ _ => by kernel_rfl) ?_) | ((fail_if_success (refine jo_gt rfl rfl ?_)); first | (refine jo_split_lt rfl rfl rfl rfl (fun hc => ?_) (fun hc => ?_)) | (refine jo_split_ge rfl rfl rfl rfl (fun hc => ?_) (fun hc => ?_)) | (refine jo_split_eq rfl rfl rfl rfl (fun hc => ?_) (fun hc => ?_)) | (refine jo_split_ne rfl rfl rfl rfl (fun hc => ?_) (fun hc => ?_)) | (refine jo_split rfl rfl rfl rfl (fun hc => ?_) (fun hc => ?_)))) | (guard_target =~ JC _ _ _ _ _ _ _; first | refine jc_seq ?_ | refine jc_region ?_ | refine jc_drawn (by kernel_rfl) rfl ?_ | refine jc_cond_t rfl ?_ | refine jc_cond_f rfl ?_ | refine jc_cond_lt rfl (fun hc => ?_) (fun hc => ?_) | refine jc_cond_ge rfl (fun hc => ?_) (fun hc => ?_) | refine jc_cond_eq rfl (fun hc => ?_) (fun hc => ?_) | refine jc_cond_ne rfl (fun hc => ?_) (fun hc => ?_) | refine jc_cond rfl (fun hc => ?_) (fun hc => ?_) | refine jc_skip ?_ | refine jc_ret ?_ | refine jc_exit ?_ | refine jc_block ?_) | (guard_target =~ Kthen _ _ _ _; first | refine k_then ?_ | refine k_then_r ?_ | refine k_then_e ?_) | (guard_target =~ Kblock _ _ _ _; first | refine k_block_n ?_ | refine k_block_r ?_ | refine k_block_hit ?_ | refine k_block_miss rfl ?_) | (guard_target =~ JR _ _ _ _ _ _ _ _; refine jr_step ?_))
  · obtain ⟨E, ad, c⟩ := q
    obtain ⟨h1, h2, W0, h3⟩ := hq
    dsimp only at h1 h2 h3 hc ⊢
    cases h3 with
    | @cons e x E' L' he hE =>
      cases hE
      obtain ⟨g1, g2, g3, g4, g5, ⟨g6, g7, g8, g9⟩⟩ := he
      obtain ⟨e1, e2, e3, e4, e5, ⟨ea, en, ec⟩⟩ := e
      simp only [shX] at g1 g2 g3 g4 g5 g6 g7 g8
      subst g1 g2 g3 g4 g5 g6
      simp only [List.length_cons, List.length_nil] at g7
      obtain ⟨b, lo, rfl⟩ := g8 (by omega)
      have hlab : ∀ W, EvsAt W [⟨1, 1, 0, 0, 0, ⟨some ⟨b, lo, none⟩, 1, ec⟩⟩] [shX] → ∀ (j : Nat) (v : Value), [Value.int .i64 (-4)][j]? = some v → W.cell? ⟨b, lo + 0 * 2 + 1 + j, none⟩ = some v := fun W h j v hj => by
        cases h with
        | cons k _ =>
          cases j with
          | succ j => simp at hj
          | zero =>
            obtain ⟨b', lo', k1, k2⟩ := k.rs.r 1 (.int .i64 (-4)) rfl
            cases k1
            simp at hj
            subst hj
            simpa using k2
      have hl1 : ([⟨1, 1, 0, 0, 0, ⟨some ⟨b, lo, none⟩, 1, ec⟩⟩] : List Ev).length = 1 := rfl
      have h2' : 1 ≤ c := h2
      repeat' (first | (guard_target =~ JL _ _ _ _ _ _ _ _; first | refine jl_nil ?_ | refine jl_same rfl rfl rfl rfl rfl ?_ | refine jl_v rfl rfl rfl rfl (ov_int rfl rfl (by simp only [inK]; omega)) ?_ | refine jl_p rfl rfl rfl rfl rfl ?_ | refine jl_s rfl rfl rfl ?_ | refine jl_st rfl rfl rfl rfl ?_ | refine jl_n rfl rfl rfl rfl rfl (fun n => rfl) (fun n => ?_) | refine jl_unname 20 0 rfl rfl (by decide) ?_ | refine jl_unname 28 0 rfl rfl (by decide) ?_ | refine jl_v rfl rfl rfl rfl (ov_index rfl rfl rfl rfl rfl (by first | omega | (simp only []; omega)) (by first | omega | (simp only []; omega))) ?_ | refine jl_v rfl rfl rfl rfl (ov_idxp (b := b) (lo := lo) (n := 1) (c := ec) (m := 0) rfl rfl rfl rfl rfl (by omega) (by omega)) ?_ | refine jl_v rfl rfl rfl rfl (ov_fldv rfl rfl rfl) ?_ | refine jl_v rfl rfl rfl rfl (ov_labs (i := 1) rfl rfl rfl rfl rfl hlab) ?_ | ((fail_if_success (refine jl_gt rfl ?_)); first | (refine jl_split_lt rfl rfl rfl (fun hc => ?_) (fun hc => ?_)) | (refine jl_split_ge rfl rfl rfl (fun hc => ?_) (fun hc => ?_)) | (refine jl_split_eq rfl rfl rfl (fun hc => ?_) (fun hc => ?_)) | (refine jl_split_ne rfl rfl rfl (fun hc => ?_) (fun hc => ?_)) | (refine jl_split rfl rfl rfl (fun hc => ?_) (fun hc => ?_)))) | (guard_target =~ JO _ _ _ _ _ _ _ _; first | refine JO.nil ?_ | refine JO.fork ?_ ?_ | refine jo_same rfl rfl rfl rfl rfl rfl ?_ | refine jo_v rfl rfl rfl rfl rfl (ov_int rfl rfl (by simp only [inK]; omega)) ?_ | refine jo_p rfl rfl rfl rfl rfl rfl ?_ | refine jo_s rfl rfl rfl rfl ?_ | refine jo_st rfl rfl rfl rfl rfl rfl ?_ | refine jo_n rfl rfl rfl rfl rfl rfl (fun n => rfl) (fun n => ?_) | refine jo_v rfl rfl rfl rfl rfl (ov_index rfl rfl rfl rfl rfl (by first | omega | (simp only []; omega)) (by first | omega | (simp only []; omega))) ?_ | refine jo_v rfl rfl rfl rfl rfl (ov_idxp (b := b) (lo := lo) (n := 1) (c := ec) (m := 0) rfl rfl rfl rfl rfl (by omega) (by omega)) ?_ | refine jo_v rfl rfl rfl rfl rfl (ov_fldv rfl rfl rfl) ?_ | refine jo_v rfl rfl rfl rfl rfl (ov_labs (i := 1) rfl rfl rfl rfl rfl hlab) ?_ | ((fail_if_success (refine jo_gt rfl rfl ?_)); first | (refine jo_split_lt rfl rfl rfl rfl (fun hc => ?_) (fun hc => ?_)) | (refine jo_split_ge rfl rfl rfl rfl (fun hc => ?_) (fun hc => ?_)) | (refine jo_split_eq rfl rfl rfl rfl (fun hc => ?_) (fun hc => ?_)) | (refine jo_split_ne rfl rfl rfl rfl (fun hc => ?_) (fun hc => ?_)) | (refine jo_split rfl rfl rfl rfl (fun hc => ?_) (fun hc => ?_)))) | (guard_target =~ JC _ _ _ _ _ _ _; first | refine jc_seq ?_ | refine jc_region ?_ | refine jc_drawn (by kernel_rfl) rfl ?_ | refine jc_cond_t rfl ?_ | refine jc_cond_f rfl ?_ | refine jc_cond_lt rfl (fun hc => ?_) (fun hc => ?_) | refine jc_cond_ge rfl (fun hc => ?_) (fun hc => ?_) | refine jc_cond_eq rfl (fun hc => ?_) (fun hc => ?_) | refine jc_cond_ne rfl (fun hc => ?_) (fun hc => ?_) | refine jc_cond rfl (fun hc => ?_) (fun hc => ?_) | refine jc_skip ?_ | refine jc_ret ?_ | refine jc_exit ?_ | refine jc_block ?_) | (guard_target =~ Kthen _ _ _ _; first | refine k_then ?_ | refine k_then_r ?_ | refine k_then_e ?_) | (guard_target =~ Kblock _ _ _ _; first | refine k_block_n ?_ | refine k_block_r ?_ | refine k_block_hit ?_ | refine k_block_miss rfl ?_) | (guard_target =~ JR _ _ _ _ _ _ _ _; refine jr_step ?_))
      exact fin1 (.inr rfl) rfl (ris rfl) (fin_pv rfl)
  · exfalso
    have := hq.1
    simp at this
    omega
end Go.Proofs.YtpfjolckhlgodaaDoor
