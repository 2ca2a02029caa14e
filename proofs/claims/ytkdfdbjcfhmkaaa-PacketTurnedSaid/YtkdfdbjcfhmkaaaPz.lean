/- What TakeData makes of bytes: package packet. -/
import Derived.Test.YtkdfdbjcfhmkaaaPy
import Derived.Test.YtkdfdbjcfhmkaaaPp
namespace Go.Proofs.Ytkdfdbjcfhmkaaa
open Go Go.RowKit
set_option linter.unusedSimpArgs false
set_option maxHeartbeats 4000000
set_option linter.unusedVariables false
set_option maxRecDepth 4000
def rcAt (L : List Int) (k : Nat) : Rc := ⟨L.getD (8 + 2 * k) 0, L.getD (8 + 2 * k + 1) 0⟩
def rcsOf (L : List Int) : List Rc := (List.range ((L.length - 8) / 2)).map fun k => rcAt L k
def shapeD (L : List Int) : Bool := decide (8 ≤ L.length) && (decide (0 ≤ L.getD 7 0) && (decide (L.getD 7 0 ≤ 64) && decide ((L.length : Int) = 8 + 2 * L.getD 7 0)))
/-- A batch as a plain value. -/
structure Bd where
  (p q : Int)
  t : Tm
  R : List Rc
def Bd.nil : Bd := ⟨0, 0, ⟨0, 0, 0, 0, 0⟩, []⟩
def bdOf (L : List Int) : Bd := ⟨L.getD 0 0, L.getD 1 0, tmAt L 2, rcsOf L⟩
def Bd.err (b : Bd) : Int := derr b.p b.q b.t b.R
def takeOkD (B : List Int) : Bool := openOk 68 B && (shapeD (openL 68 B) && decide ((bdOf (openL 68 B)).err = 0))
def takeD (B : List Int) : Bd := if takeOkD B then bdOf (openL 68 B) else Bd.nil
/-- A batch with its row, and a number beside it, as a result. -/
def PBX (b : Bd) (x : Value) (W : World) : Ending → World → Prop := PG (fun q : Option Addr × Nat => b.R.length ≤ q.2 ∧ (q.2 ≠ 0 → ∃ b lo, q.1 = some ⟨b, lo, none⟩)) (fun q => .tuple #[bvV b.p b.q b.t q.1 b.R.length q.2, x]) (fun q => [.row q.1 55 (q.2 * 2) (encs Rc.e b.R)]) W
section rules
variable {C : Ctx} {B : Bas} {nt : Nat} {ρ : Option Nat} {env : Env} {own : Own} {dfs : List Deferred} {K : Exit → St → Prop}
/-- A row of nothing is always there. -/
theorem jc_row0 {c : Code} (T : Nat) {own' : Own} (hw : forceK (snoc own (.row none T 0 [])) some = some own') (h : JC C B nt ρ c K ⟨env, own', dfs⟩) : JC C B nt ρ c K ⟨env, own, dfs⟩ := by
  rw [forceK_eq, snoc_eq] at hw
  cases hw
  exact fun a W hr => h a W ⟨hr.size, hr.defers, fun d' e he => (hr.env d' e he).le (OLe.app _ _), hr.mem.push hr.mem.ext (Nat.le_refl _) (fun _ _ => rfl) ⟨fun _ => rfl, fun h => absurd rfl h⟩ (fun b hb => absurd rfl hb.1)⟩
/-- Where a row lies. -/
theorem jc_rowat {c : Code} (i : Nat) {a : Option Addr} {T m : Nat} {xs : List Value} (hi : nth own i = some (.row a T m xs)) (h : (m ≠ 0 → ∃ b lo, a = some ⟨b, lo, none⟩) → JC C B nt ρ c K ⟨env, own, dfs⟩) : JC C B nt ρ c K ⟨env, own, dfs⟩ := fun act W hr => h (fun h0 => by
  rw [nth_eq] at hi
  obtain ⟨b, cs, ha, _⟩ := (hr.mem.at hi).2 h0
  exact ⟨b, 0, ha⟩) act W hr
theorem fin_bx {w : World} {fn : Func} {e : Exit} {r s : ResultVar} {i c : Nat} {a : Option Addr} {b : Bd} {x : Value} (he : e = .normal ∨ e = .ret) (hf : fn.results = #[r, s]) (h : ResIs C (Bas.of w) nt ⟨env, own, []⟩ r (bvV b.p b.q b.t a b.R.length c)) (h' : ResIs C (Bas.of w) nt ⟨env, own, []⟩ s x) (hi : nth own i = some (.row a 55 (c * 2) (encs Rc.e b.R))) (hn : b.R.length ≤ c) :
    FendG C (Bas.of w) nt fn (PBX b x w) e ⟨env, own, []⟩ :=
  fin2 he hf h h' fun W hm => by
    rw [nth_eq] at hi
    have hreg := hm.at hi
    refine ⟨(a, c), ⟨hn, fun h0 => ?_⟩, rfl, hm.ext, fun q hq => ?_, List.pairwise_singleton _ _⟩
    · obtain ⟨b', cs, ha, _⟩ := hreg.2 (Nat.mul_ne_zero h0 (by decide))
      exact ⟨b', 0, ha⟩
    · rw [List.mem_singleton] at hq; subst hq; exact hreg
theorem fin_bnil {w : World} {fn : Func} {e : Exit} {r s : ResultVar} {x : Value} (he : e = .normal ∨ e = .ret) (hf : fn.results = #[r, s]) (h : ResIs C (Bas.of w) nt ⟨env, own, []⟩ r (bvV 0 0 ⟨0, 0, 0, 0, 0⟩ none 0 0)) (h' : ResIs C (Bas.of w) nt ⟨env, own, []⟩ s x) : FendG C (Bas.of w) nt fn (PBX Bd.nil x w) e ⟨env, own, []⟩ :=
  fin2 he hf h h' fun W hm => ⟨(none, 0), ⟨Nat.le_refl _, fun h0 => absurd rfl h0⟩, rfl, hm.ext, fun q hq => by
    rw [List.mem_singleton] at hq; subst hq
    exact ⟨fun _ => rfl, fun h0 => absurd (by simp) h0⟩, List.pairwise_singleton _ _⟩
end rules
theorem rcAt_part (L : List Int) (q : Nat) : rcAt L q = ⟨L.getD (8 + q * 2 + 0) 0, L.getD (8 + q * 2 + 1) 0⟩ := by
  simp [rcAt, Nat.mul_comm]
attribute [local irreducible] JC JL OX OV Kthen Kblock JR FendG openL openOk
theorem takeData_c (B : List Int) (hb : ∀ z ∈ B, isByte z) (ad : Option Addr) (cB : Nat) (had : cB ≠ 0 → ∃ b lo, ad = some ⟨b, lo, none⟩) (hn : B.length ≤ cB) (hl : B.length ≤ 100000) :
    ConM C.P 20 [.slice ad B.length cB] [(ad, encs Zb.e B)] (PBX (takeD B) (.int .i64 (takeE (takeOkD B)))) := by
  have ho := (opened_c 68 B hb ad cB had hn (by omega)).at (by decide)
  obtain ⟨L, hL⟩ : ∃ L, openL 68 B = L := ⟨_, rfl⟩
  obtain ⟨ok, hok⟩ : ∃ o, openOk 68 B = o := ⟨_, rfl⟩
  have hLl : L.length ≤ 100000 := by rw [← hL]; unfold openL; split; simp [openN]; omega; simp
  have htk : takeOkD B = (ok && (shapeD L && decide ((bdOf L).err = 0))) := by unfold takeOkD; rw [hok, hL]
  have htp : takeD B = if takeOkD B then bdOf L else Bd.nil := by unfold takeD; rw [hL]
  rw [hL, hok] at ho
  rw [htp, htk]
  clear htp htk
  obtain ⟨r, hr⟩ : ∃ r, (ok && (shapeD L && decide ((bdOf L).err = 0))) = r := ⟨_, rfl⟩
  rw [hr]
  have hf : r = false → (if r = true then bdOf L else Bd.nil) = Bd.nil := fun h => by rw [h]; rfl
  refine con_m Try.func20 rfl _ Try.ntmps20 rfl (fun W => ?_)
  repeat' (first | (guard_target =~ JL _ _ _ _ _ _ _ _; first | refine jl_nil ?_ | refine jl_same rfl rfl rfl rfl rfl ?_ | refine jl_v rfl rfl rfl rfl (ov_int rfl rfl (by simp only [inK]; omega)) ?_ | refine jl_p rfl rfl rfl rfl rfl ?_ | refine jl_s rfl rfl rfl ?_ | refine jl_st rfl rfl rfl rfl ?_ | refine jl_n rfl rfl rfl rfl rfl (fun n => rfl) (fun n => ?_) | refine jl_x rfl rfl (ox_g 40 (fun _ _ => by kernel_rfl) (ho) (MOk.cons 0 rfl rfl rfl (Sub.refl _) MOk.nil) rfl rfl rfl rfl (fun _ => rfl) (fun _ => rfl) (fun x hx => ?_)) | ((fail_if_success (refine jl_gt rfl ?_)); first | (refine jl_split_lt rfl rfl rfl (fun hc => ?_) (fun hc => ?_)) | (refine jl_split_ge rfl rfl rfl (fun hc => ?_) (fun hc => ?_)) | (refine jl_split_eq rfl rfl rfl (fun hc => ?_) (fun hc => ?_)) | (refine jl_split_ne rfl rfl rfl (fun hc => ?_) (fun hc => ?_)) | (refine jl_split rfl rfl rfl (fun hc => ?_) (fun hc => ?_)))) | (guard_target =~ JO _ _ _ _ _ _ _ _; first | refine JO.nil ?_ | refine JO.fork ?_ ?_ | refine jo_same rfl rfl rfl rfl rfl rfl ?_ | refine jo_v rfl rfl rfl rfl rfl (ov_int rfl rfl (by simp only [inK]; omega)) ?_ | refine jo_p rfl rfl rfl rfl rfl rfl ?_ | refine jo_s rfl rfl rfl rfl ?_ | refine jo_st rfl rfl rfl rfl rfl rfl ?_ | refine jo_n rfl rfl rfl rfl rfl rfl (fun n => rfl) (fun n => ?_) | refine jo_x rfl rfl rfl (ox_g 40 (fun _ _ => by kernel_rfl) (ho) (MOk.cons 0 rfl rfl rfl (Sub.refl _) MOk.nil) rfl rfl rfl rfl (fun _ => rfl) (fun _ => rfl) (fun x hx => ?_)) | ((fail_if_success (refine jo_gt rfl rfl ?_)); first | (refine jo_split_lt rfl rfl rfl rfl (fun hc => ?_) (fun hc => ?_)) | (refine jo_split_ge rfl rfl rfl rfl (fun hc => ?_) (fun hc => ?_)) | (refine jo_split_eq rfl rfl rfl rfl (fun hc => ?_) (fun hc => ?_)) | (refine jo_split_ne rfl rfl rfl rfl (fun hc => ?_) (fun hc => ?_)) | (refine jo_split rfl rfl rfl rfl (fun hc => ?_) (fun hc => ?_)))) | (guard_target =~ JC _ _ _ _ _ _ _; first | refine jc_seq ?_ | refine jc_region ?_ | refine jc_draw (id := 8) (.step 2 0 (.step 2 1 (.step 1 2 (.step 1 3 (.step 2 4 (.step 1 5 (.step 1 6 (.step 2 7 (.step 2 8 (.step 1 9 (.step 1 10 (.step 2 11 (.step 1 12 .nil))))))))))))) (by kernel_rfl) rfl ?_ | refine jc_drawn (by kernel_rfl) rfl ?_ | refine jc_cond_t rfl ?_ | refine jc_cond_f rfl ?_ | refine jc_cond_lt rfl (fun hc => ?_) (fun hc => ?_) | refine jc_cond_ge rfl (fun hc => ?_) (fun hc => ?_) | refine jc_cond_eq rfl (fun hc => ?_) (fun hc => ?_) | refine jc_cond_ne rfl (fun hc => ?_) (fun hc => ?_) | refine jc_cond rfl (fun hc => ?_) (fun hc => ?_) | refine jc_skip ?_ | refine jc_ret ?_ | refine jc_exit ?_ | refine jc_block ?_) | (guard_target =~ Kthen _ _ _ _; first | refine k_then ?_ | refine k_then_r ?_ | refine k_then_e ?_) | (guard_target =~ Kblock _ _ _ _; first | refine k_block_n ?_ | refine k_block_r ?_ | refine k_block_hit ?_ | refine k_block_miss rfl ?_) | (guard_target =~ JR _ _ _ _ _ _ _ _; refine jr_step ?_))
  · have e : r = false := by rw [← hr]; simp_all
    subst e; exact fin_bnil (.inr rfl) rfl (ris rfl) (ris rfl)
  · have e : r = false := by rw [← hr]; unfold shapeD; simp; omega
    subst e; exact fin_bnil (.inr rfl) rfl (ris rfl) (ris rfl)
  rename_i hok'
  obtain ⟨n0, rfl⟩ : ∃ n0, n0 = n := ⟨_, rfl⟩
  obtain rfl : ok = true := by simpa using hok'
  have hL8 : 8 ≤ L.length := by omega
  have h7 : 7 < L.length := by omega
  have e0 : L.getD 7 0 = L[7]'h7 := by simp [List.getD_eq_getElem?_getD, List.getElem?_eq_getElem h7]
  obtain ⟨z, hz⟩ : ∃ z, L[7]'h7 = z := ⟨_, rfl⟩
  have hw : IntKind.i64.wrap (8 + IntKind.i64.wrap (2 * z)) = 8 + 2 * z ∨ ¬ (0 ≤ z ∧ z ≤ 64) := by
    by_cases h : 0 ≤ z ∧ z ≤ 64
    · left; rw [i64w (2 * z) (by omega) (by omega), i64w _ (by omega) (by omega)]
    · exact .inr h
  obtain ⟨xa, xc⟩ := x
  obtain ⟨hx1, hx2⟩ := hx
  dsimp only at hx1 hx2 ⊢
  obtain ⟨rb, ro, rfl⟩ := hx2 (by omega)
  clear hx2
  repeat' (first | (guard_target =~ JL _ _ _ _ _ _ _ _; first | refine jl_nil ?_ | refine jl_same rfl rfl rfl rfl rfl ?_ | refine jl_v rfl rfl rfl rfl (ov_int rfl rfl (by simp only [inK]; omega)) ?_ | refine jl_p rfl rfl rfl rfl rfl ?_ | refine jl_s rfl rfl rfl ?_ | refine jl_st rfl rfl rfl rfl ?_ | refine jl_n rfl rfl rfl rfl rfl (fun n => rfl) (fun n => ?_) | refine jl_unname 23 2 rfl rfl (by decide) ?_ | refine jl_v rfl rfl rfl rfl (ov_index rfl rfl rfl rfl rfl (by first | omega | (simp only []; omega)) (by first | omega | (simp only []; omega))) ?_ | refine jl_v rfl rfl rfl rfl (ov_load rfl rfl rfl (at0 Zi.el (by first | omega | (simp only []; omega))) rfl rfl) ?_ | refine jl_unname 29 2 rfl rfl (by decide) ?_ | refine jl_v rfl rfl rfl rfl (ov_index rfl rfl rfl rfl rfl (by first | omega | (simp only []; omega)) (by first | omega | (simp only []; omega))) ?_ | refine jl_v rfl rfl rfl rfl (ov_load rfl rfl rfl (at0 Zi.el (by first | omega | (simp only []; omega))) rfl rfl) ?_ | refine jl_unname 35 2 rfl rfl (by decide) ?_ | refine jl_unname 37 2 rfl rfl (by decide) ?_ | refine jl_v rfl rfl rfl rfl (ov_index rfl rfl rfl rfl rfl (by first | omega | (simp only []; omega)) (by first | omega | (simp only []; omega))) ?_ | refine jl_v rfl rfl rfl rfl (ov_load rfl rfl rfl (at0 Zi.el (by first | omega | (simp only []; omega))) rfl rfl) ?_ | ((fail_if_success (refine jl_gt rfl ?_)); first | (refine jl_split_lt rfl rfl rfl (fun hc => ?_) (fun hc => ?_)) | (refine jl_split_ge rfl rfl rfl (fun hc => ?_) (fun hc => ?_)) | (refine jl_split_eq rfl rfl rfl (fun hc => ?_) (fun hc => ?_)) | (refine jl_split_ne rfl rfl rfl (fun hc => ?_) (fun hc => ?_)) | (refine jl_split rfl rfl rfl (fun hc => ?_) (fun hc => ?_)))) | (guard_target =~ JO _ _ _ _ _ _ _ _; first | refine JO.nil ?_ | refine JO.fork ?_ ?_ | refine jo_same rfl rfl rfl rfl rfl rfl ?_ | refine jo_v rfl rfl rfl rfl rfl (ov_int rfl rfl (by simp only [inK]; omega)) ?_ | refine jo_p rfl rfl rfl rfl rfl rfl ?_ | refine jo_s rfl rfl rfl rfl ?_ | refine jo_st rfl rfl rfl rfl rfl rfl ?_ | refine jo_n rfl rfl rfl rfl rfl rfl (fun n => rfl) (fun n => ?_) | refine jo_v rfl rfl rfl rfl rfl (ov_index rfl rfl rfl rfl rfl (by first | omega | (simp only []; omega)) (by first | omega | (simp only []; omega))) ?_ | refine jo_v rfl rfl rfl rfl rfl (ov_load rfl rfl rfl (at0 Zi.el (by first | omega | (simp only []; omega))) rfl rfl) ?_ | refine jo_v rfl rfl rfl rfl rfl (ov_index rfl rfl rfl rfl rfl (by first | omega | (simp only []; omega)) (by first | omega | (simp only []; omega))) ?_ | refine jo_v rfl rfl rfl rfl rfl (ov_load rfl rfl rfl (at0 Zi.el (by first | omega | (simp only []; omega))) rfl rfl) ?_ | refine jo_v rfl rfl rfl rfl rfl (ov_index rfl rfl rfl rfl rfl (by first | omega | (simp only []; omega)) (by first | omega | (simp only []; omega))) ?_ | refine jo_v rfl rfl rfl rfl rfl (ov_load rfl rfl rfl (at0 Zi.el (by first | omega | (simp only []; omega))) rfl rfl) ?_ | ((fail_if_success (refine jo_gt rfl rfl ?_)); first | (refine jo_split_lt rfl rfl rfl rfl (fun hc => ?_) (fun hc => ?_)) | (refine jo_split_ge rfl rfl rfl rfl (fun hc => ?_) (fun hc => ?_)) | (refine jo_split_eq rfl rfl rfl rfl (fun hc => ?_) (fun hc => ?_)) | (refine jo_split_ne rfl rfl rfl rfl (fun hc => ?_) (fun hc => ?_)) | (refine jo_split rfl rfl rfl rfl (fun hc => ?_) (fun hc => ?_)))) | (guard_target =~ JC _ _ _ _ _ _ _; first | refine jc_seq ?_ | refine jc_region ?_ | refine jc_draw (id := 8) (.step 2 0 (.step 2 1 (.step 1 2 (.step 1 3 (.step 2 4 (.step 1 5 (.step 1 6 (.step 2 7 (.step 2 8 (.step 1 9 (.step 1 10 (.step 2 11 (.step 1 12 .nil))))))))))))) (by kernel_rfl) rfl ?_ | refine jc_drawn (by kernel_rfl) rfl ?_ | refine jc_cond_t rfl ?_ | refine jc_cond_f rfl ?_ | refine jc_cond_lt rfl (fun hc => ?_) (fun hc => ?_) | refine jc_cond_ge rfl (fun hc => ?_) (fun hc => ?_) | refine jc_cond_eq rfl (fun hc => ?_) (fun hc => ?_) | refine jc_cond_ne rfl (fun hc => ?_) (fun hc => ?_) | refine jc_cond rfl (fun hc => ?_) (fun hc => ?_) | refine jc_skip ?_ | refine jc_ret ?_ | refine jc_exit ?_ | refine jc_block ?_) | (guard_target =~ Kthen _ _ _ _; first | refine k_then ?_ | refine k_then_r ?_ | refine k_then_e ?_) | (guard_target =~ Kblock _ _ _ _; first | refine k_block_n ?_ | refine k_block_r ?_ | refine k_block_hit ?_ | refine k_block_miss rfl ?_) | (guard_target =~ JR _ _ _ _ _ _ _ _; refine jr_step ?_))
  · have hc : z < 0 ∨ 64 < z := by first | exact .inl (hz ▸ hc) | exact .inr (hz ▸ hc)
    have e : r = false := by rw [← hr]; unfold shapeD; rw [e0, hz]; simp; omega
    subst e; exact fin_bnil (.inr rfl) rfl (ris rfl) (ris rfl)
  · have hc : z < 0 ∨ 64 < z := by first | exact .inl (hz ▸ hc) | exact .inr (hz ▸ hc)
    have e : r = false := by rw [← hr]; unfold shapeD; rw [e0, hz]; simp; omega
    subst e; exact fin_bnil (.inr rfl) rfl (ris rfl) (ris rfl)
  · rename_i h0 h64
    have h0 : 0 ≤ z := hz ▸ h0
    have h64 : z ≤ 64 := hz ▸ h64
    have hc : (L.length : Int) ≠ _ := hz ▸ hc
    rcases hw with hw | hw
    · rw [hw] at hc
      have e : r = false := by rw [← hr]; unfold shapeD; rw [e0, hz]; simp; intros; contradiction
      subst e; exact fin_bnil (.inr rfl) rfl (ris rfl) (ris rfl)
    · omega
  rename_i h0 h64
  have h0 : 0 ≤ z := hz ▸ h0
  have h64 : z ≤ 64 := hz ▸ h64
  have hc : (L.length : Int) = _ := hz ▸ hc
  have hc : (L.length : Int) = 8 + 2 * z := by rcases hw with hw | hw; rw [← hw]; exact hc; omega
  have hs : shapeD L = true := by unfold shapeD; rw [e0, hz]; simp; omega
  rw [hs, Bool.true_and, Bool.true_and] at hr
  subst hr
  clear hs e0 hz hw ho hok hL hb
  obtain ⟨N, hN⟩ : ∃ N, L.length = 8 + 2 * N := ⟨z.toNat, by omega⟩
  have hNl : (rcsOf L).length = N := by simp [rcsOf, hN]
  obtain ⟨d, hd⟩ : ∃ d : Nat, d = if 8 = xc then 0 else 8 * 1 := ⟨_, rfl⟩
  have hp := point_c L L.length xc rfl (by omega)
  repeat' (first | (guard_target =~ JL _ _ _ _ _ _ _ _; first | refine jl_nil ?_ | refine jl_same rfl rfl rfl rfl rfl ?_ | refine jl_v rfl rfl rfl rfl (ov_int rfl rfl (by simp only [inK]; omega)) ?_ | refine jl_p rfl rfl rfl rfl rfl ?_ | refine jl_s rfl rfl rfl ?_ | refine jl_st rfl rfl rfl rfl ?_ | refine jl_n rfl rfl rfl rfl rfl (fun n => rfl) (fun n => ?_) | refine jl_unname 46 2 rfl rfl (by decide) ?_ | refine jl_x rfl rfl (ox_conv 41 (fun _ _ => by kernel_rfl) (hp) rfl rfl rfl (by (repeat' (first | exact AM.nil | refine AM.x rfl ?_ | refine am_l rfl (by omega) ?_ | refine AM.r rfl (Sub.refl _) (by omega) (by omega) ?_ | refine AM.r rfl (Sub.refl _) (fun _ => rfl) (by omega) ?_ | refine AM.q rfl (Sub.refl _) (by simp) ?_ | refine AM.w rfl (Sub.refl _) (by simp) ?_)); done) rfl ?_) | refine jl_v rfl rfl rfl rfl (ov_slicex 8 L.length xc d rfl rfl rfl rfl rfl rfl rfl hL8 hx1 (Nat.le_refl _) hd) ?_ | refine jl_x rfl rfl (ox_g 42 (fun _ _ => by kernel_rfl) (chunkI_c _ _ _ 2 (by decide)) MOk.nil rfl rfl rfl rfl (fun _ => rfl) (fun _ => rfl) (fun x hx => ?_)) | ((fail_if_success (refine jl_gt rfl ?_)); first | (refine jl_split_lt rfl rfl rfl (fun hc => ?_) (fun hc => ?_)) | (refine jl_split_ge rfl rfl rfl (fun hc => ?_) (fun hc => ?_)) | (refine jl_split_eq rfl rfl rfl (fun hc => ?_) (fun hc => ?_)) | (refine jl_split_ne rfl rfl rfl (fun hc => ?_) (fun hc => ?_)) | (refine jl_split rfl rfl rfl (fun hc => ?_) (fun hc => ?_)))) | (guard_target =~ JO _ _ _ _ _ _ _ _; first | refine JO.nil ?_ | refine JO.fork ?_ ?_ | refine jo_same rfl rfl rfl rfl rfl rfl ?_ | refine jo_v rfl rfl rfl rfl rfl (ov_int rfl rfl (by simp only [inK]; omega)) ?_ | refine jo_p rfl rfl rfl rfl rfl rfl ?_ | refine jo_s rfl rfl rfl rfl ?_ | refine jo_st rfl rfl rfl rfl rfl rfl ?_ | refine jo_n rfl rfl rfl rfl rfl rfl (fun n => rfl) (fun n => ?_) | refine jo_x rfl rfl rfl (ox_conv 41 (fun _ _ => by kernel_rfl) (hp) rfl rfl rfl (by (repeat' (first | exact AM.nil | refine AM.x rfl ?_ | refine am_l rfl (by omega) ?_ | refine AM.r rfl (Sub.refl _) (by omega) (by omega) ?_ | refine AM.r rfl (Sub.refl _) (fun _ => rfl) (by omega) ?_ | refine AM.q rfl (Sub.refl _) (by simp) ?_ | refine AM.w rfl (Sub.refl _) (by simp) ?_)); done) rfl ?_) | refine jo_v rfl rfl rfl rfl rfl (ov_slicex 8 L.length xc d rfl rfl rfl rfl rfl rfl rfl hL8 hx1 (Nat.le_refl _) hd) ?_ | refine jo_x rfl rfl rfl (ox_g 42 (fun _ _ => by kernel_rfl) (chunkI_c _ _ _ 2 (by decide)) MOk.nil rfl rfl rfl rfl (fun _ => rfl) (fun _ => rfl) (fun x hx => ?_)) | ((fail_if_success (refine jo_gt rfl rfl ?_)); first | (refine jo_split_lt rfl rfl rfl rfl (fun hc => ?_) (fun hc => ?_)) | (refine jo_split_ge rfl rfl rfl rfl (fun hc => ?_) (fun hc => ?_)) | (refine jo_split_eq rfl rfl rfl rfl (fun hc => ?_) (fun hc => ?_)) | (refine jo_split_ne rfl rfl rfl rfl (fun hc => ?_) (fun hc => ?_)) | (refine jo_split rfl rfl rfl rfl (fun hc => ?_) (fun hc => ?_)))) | (guard_target =~ JC _ _ _ _ _ _ _; first | refine jc_seq ?_ | refine jc_region ?_ | refine jc_draw (id := 8) (.step 2 0 (.step 2 1 (.step 1 2 (.step 1 3 (.step 2 4 (.step 1 5 (.step 1 6 (.step 2 7 (.step 2 8 (.step 1 9 (.step 1 10 (.step 2 11 (.step 1 12 .nil))))))))))))) (by kernel_rfl) rfl ?_ | refine jc_drawn (by kernel_rfl) rfl ?_ | refine jc_cond_t rfl ?_ | refine jc_cond_f rfl ?_ | refine jc_cond_lt rfl (fun hc => ?_) (fun hc => ?_) | refine jc_cond_ge rfl (fun hc => ?_) (fun hc => ?_) | refine jc_cond_eq rfl (fun hc => ?_) (fun hc => ?_) | refine jc_cond_ne rfl (fun hc => ?_) (fun hc => ?_) | refine jc_cond rfl (fun hc => ?_) (fun hc => ?_) | refine jc_skip ?_ | refine jc_ret ?_ | refine jc_exit ?_ | refine jc_block ?_) | (guard_target =~ Kthen _ _ _ _; first | refine k_then ?_ | refine k_then_r ?_ | refine k_then_e ?_) | (guard_target =~ Kblock _ _ _ _; first | refine k_block_n ?_ | refine k_block_r ?_ | refine k_block_hit ?_ | refine k_block_miss rfl ?_) | (guard_target =~ JR _ _ _ _ _ _ _ _; refine jr_step ?_))
  refine jc_row0 55 rfl ?_
  refine jc_range (fun y : Nat × Option Addr × Nat => [.ro ad (encs Zb.e B), .blk n0 34 [.int .i64 0, .int .i64 0, .int .i64 0, .int .i64 0, .int .i64 0, .int .i64 0, .int .i64 0, .slice none 0 0], .row (some ⟨rb, ro, none⟩) 3 (xc * 1) (encs Zi.e L), .blk n 34 [.int .i64 (L.getD 0 0), .int .i64 (L.getD 1 0), .int .i64 (tmAt L 2).e, .int .i64 (tmAt L 2).d, .int .i64 (tmAt L 2).a, .int .i64 (tmAt L 2).b, .int .i64 (tmAt L 2).c, .slice y.2.1 ((rcsOf L).take y.1).length y.2.2], .blk x.1 59 [.slice (some ⟨rb, ro + d, none⟩) (L.length - 8) (xc - 8)], .blk x.2 3 [.int .i64 ((2 : Nat) : Int)], .row y.2.1 55 (y.2.2 * 2) (encs Rc.e ((rcsOf L).take y.1))]) (fun k y => y.1 = k ∧ ((rcsOf L).take y.1).length ≤ y.2.2) (fun k => [.v (.slice (some ⟨rb, ro + (8 + k * 2), none⟩) 2 2)]) [ad, some ⟨n0, 0, none⟩, some ⟨rb, ro, none⟩, some ⟨n, 0, none⟩] (0, none, 0) 8 (env0 := [(6, .p 3 0), (2, .p 1 0)])
    (chunkI_seq x.1 x.2 (some ⟨rb, ro + d, none⟩) (L.length - 8) (xc - 8) 2 (by decide) (by decide) (by omega) (by omega) (fun _ => ⟨_, _, rfl⟩)) rfl (fun _ _ => by kernel_rfl) ⟨rfl, by simp⟩ (wk [0, 1, 2, 3, 4, 5, 6] rfl rfl (by repeat' (first | exact EnvIn.nil | refine EnvIn.cons rfl rfl ?_))) (fun y j k hj => by rcases j with _ | _ | _ | _ | j <;> first | (cases hj; exact ⟨_, rfl, rfl⟩) | cases hj) rfl (fun _ => rfl) (fun _ => rfl) rfl
    (fun k y W' _ hm => MOk.mem (mem := [(some ⟨x.1, 0, none⟩, [.slice (some ⟨rb, ro + d, none⟩) (L.length - 8) (xc - 8)]), (some ⟨x.2, 0, none⟩, [.int .i64 ((2 : Nat) : Int)])]) (.cons 4 (o := .blk x.1 59 [.slice (some ⟨rb, ro + d, none⟩) (L.length - 8) (xc - 8)]) rfl rfl rfl (Sub.refl _) (.cons 5 (o := .blk x.2 3 [.int .i64 ((2 : Nat) : Int)]) rfl rfl rfl (Sub.refl _) .nil)) hm) ?_ ?_ ?_
  · intro k y v _ hx
    have hk : k < chQ 2 (L.length - 8) := by
      have := (List.getElem?_eq_some_iff.1 hx).1
      rwa [chs_len] at this
    rw [chs_at hk] at hx
    cases hx
    refine ⟨rfl, .cons ?_ .nil⟩
    have h1 := (chQ_lt (by decide)).1 hk
    have h2 : min 2 (L.length - 8 - k * 2) = 2 := by omega
    have h3 : d = 8 := by rw [hd, if_neg (by omega)]
    subst h3
    simp only [Den, chV, chA, Option.map_some, h2, Nat.mul_one, Nat.add_assoc]
  · rintro B' k ⟨q, ad', c⟩ D l r r' hk ⟨hkk, hcap⟩
    dsimp only at hk hkk hcap ⊢
    subst hkk
    rw [chs_len] at hk
    have hq := (chQ_lt (by decide)).1 hk
    have hq2 : q < (rcsOf L).length := by rw [hNl]; omega
    have hlen : ((rcsOf L).take q).length = q := take_len_le (by omega)
    have hoff0 : 8 + q * 2 + 0 * 1 = 8 + q * 2 := by omega
    have hoff1 : 8 + q * 2 + 1 * 1 = 8 + q * 2 + 1 := by omega
    have hlt0 : 8 + q * 2 < L.length := by omega
    have hlt1 : 8 + q * 2 + 1 < L.length := by omega
    repeat' (first | (guard_target =~ JL _ _ _ _ _ _ _ _; first | refine jl_nil ?_ | refine jl_same rfl rfl rfl rfl rfl ?_ | refine jl_v rfl rfl rfl rfl (ov_int rfl rfl (by simp only [inK]; omega)) ?_ | refine jl_p rfl rfl rfl rfl rfl ?_ | refine jl_s rfl rfl rfl ?_ | refine jl_st rfl rfl rfl rfl ?_ | refine jl_n rfl rfl rfl rfl rfl (fun n => rfl) (fun n => ?_) | ((fail_if_success (refine jl_gt rfl ?_)); first | (refine jl_split_lt rfl rfl rfl (fun hc => ?_) (fun hc => ?_)) | (refine jl_split_ge rfl rfl rfl (fun hc => ?_) (fun hc => ?_)) | (refine jl_split_eq rfl rfl rfl (fun hc => ?_) (fun hc => ?_)) | (refine jl_split_ne rfl rfl rfl (fun hc => ?_) (fun hc => ?_)) | (refine jl_split rfl rfl rfl (fun hc => ?_) (fun hc => ?_)))) | (guard_target =~ JO _ _ _ _ _ _ _ _; first | refine JO.nil ?_ | refine JO.fork ?_ ?_ | refine jo_same rfl rfl rfl rfl rfl rfl ?_ | refine jo_v rfl rfl rfl rfl rfl (ov_int rfl rfl (by simp only [inK]; omega)) ?_ | refine jo_p rfl rfl rfl rfl rfl rfl ?_ | refine jo_s rfl rfl rfl rfl ?_ | refine jo_st rfl rfl rfl rfl rfl rfl ?_ | refine jo_n rfl rfl rfl rfl rfl rfl (fun n => rfl) (fun n => ?_) | ((fail_if_success (refine jo_gt rfl rfl ?_)); first | (refine jo_split_lt rfl rfl rfl rfl (fun hc => ?_) (fun hc => ?_)) | (refine jo_split_ge rfl rfl rfl rfl (fun hc => ?_) (fun hc => ?_)) | (refine jo_split_eq rfl rfl rfl rfl (fun hc => ?_) (fun hc => ?_)) | (refine jo_split_ne rfl rfl rfl rfl (fun hc => ?_) (fun hc => ?_)) | (refine jo_split rfl rfl rfl rfl (fun hc => ?_) (fun hc => ?_)))) | (guard_target =~ JC _ _ _ _ _ _ _; first | refine jc_seq ?_ | refine jc_region ?_ | refine jc_draw (id := 8) (.step 2 0 (.step 2 1 (.step 1 2 (.step 1 3 (.step 2 4 (.step 1 5 (.step 1 6 (.step 2 7 (.step 2 8 (.step 1 9 (.step 1 10 (.step 2 11 (.step 1 12 .nil))))))))))))) (by kernel_rfl) rfl ?_ | refine jc_drawn (by kernel_rfl) rfl ?_ | refine jc_cond_t rfl ?_ | refine jc_cond_f rfl ?_ | refine jc_cond_lt rfl (fun hc => ?_) (fun hc => ?_) | refine jc_cond_ge rfl (fun hc => ?_) (fun hc => ?_) | refine jc_cond_eq rfl (fun hc => ?_) (fun hc => ?_) | refine jc_cond_ne rfl (fun hc => ?_) (fun hc => ?_) | refine jc_cond rfl (fun hc => ?_) (fun hc => ?_) | refine jc_skip ?_ | refine jc_ret ?_ | refine jc_exit ?_ | refine jc_block ?_) | (guard_target =~ Kthen _ _ _ _; first | refine k_then ?_ | refine k_then_r ?_ | refine k_then_e ?_) | (guard_target =~ Kblock _ _ _ _; first | refine k_block_n ?_ | refine k_block_r ?_ | refine k_block_hit ?_ | refine k_block_miss rfl ?_) | (guard_target =~ JR _ _ _ _ _ _ _ _; refine jr_step ?_))
    refine ⟨rfl, rfl, _, rfl, ?_⟩
    refine jc_unname_at 7 2 (8 + q * 2) rfl rfl rfl ?_
    repeat' (first | (guard_target =~ JL _ _ _ _ _ _ _ _; first | refine jl_nil ?_ | refine jl_same rfl rfl rfl rfl rfl ?_ | refine jl_v rfl rfl rfl rfl (ov_int rfl rfl (by simp only [inK]; omega)) ?_ | refine jl_p rfl rfl rfl rfl rfl ?_ | refine jl_s rfl rfl rfl ?_ | refine jl_st rfl rfl rfl rfl ?_ | refine jl_n rfl rfl rfl rfl rfl (fun n => rfl) (fun n => ?_) | refine jl_v rfl rfl rfl rfl (ov_index rfl rfl rfl rfl rfl (by first | omega | (simp only []; omega)) (by first | omega | (simp only []; omega))) ?_ | refine jl_v rfl rfl rfl rfl (ov_load rfl rfl rfl (at_i hlt0 hoff0) rfl rfl) ?_ | refine jl_v rfl rfl rfl rfl (ov_load rfl rfl rfl (at_i hlt1 hoff1) rfl rfl) ?_ | refine jl_x rfl rfl (ox_app Rc.el Rc.e1 (L := (rcsOf L).take q) (M := [⟨L[8 + q * 2]'hlt0, L[8 + q * 2 + 1]'hlt1⟩]) rfl rfl rfl rfl rfl rfl rfl rfl rfl rfl rfl rfl rfl (Sub.refl _) (by first | omega | (simp only [List.length_set, List.length_nil, List.length_append, List.length_cons, List.length_drop, List.length_take, List.length_singleton]; done) | (simp only [List.length_set, List.length_nil, List.length_append, List.length_cons, List.length_drop, List.length_take, List.length_singleton]; omega)) (by first | omega | (simp only [List.length_set, List.length_nil, List.length_append, List.length_cons, List.length_drop, List.length_take, List.length_singleton]; done) | (simp only [List.length_set, List.length_nil, List.length_append, List.length_cons, List.length_drop, List.length_take, List.length_singleton]; omega)) (by first | omega | (simp only [List.length_set, List.length_nil, List.length_append, List.length_cons, List.length_drop, List.length_take, List.length_singleton]; done) | (simp only [List.length_set, List.length_nil, List.length_append, List.length_cons, List.length_drop, List.length_take, List.length_singleton]; omega)) (by first | omega | (simp only [List.length_set, List.length_nil, List.length_append, List.length_cons, List.length_drop, List.length_take, List.length_singleton]; done) | (simp only [List.length_set, List.length_nil, List.length_append, List.length_cons, List.length_drop, List.length_take, List.length_singleton]; omega)) rfl (fun _ _ => rfl) (fun c hc a => ?_)) | ((fail_if_success (refine jl_gt rfl ?_)); first | (refine jl_split_lt rfl rfl rfl (fun hc => ?_) (fun hc => ?_)) | (refine jl_split_ge rfl rfl rfl (fun hc => ?_) (fun hc => ?_)) | (refine jl_split_eq rfl rfl rfl (fun hc => ?_) (fun hc => ?_)) | (refine jl_split_ne rfl rfl rfl (fun hc => ?_) (fun hc => ?_)) | (refine jl_split rfl rfl rfl (fun hc => ?_) (fun hc => ?_)))) | (guard_target =~ JO _ _ _ _ _ _ _ _; first | refine JO.nil ?_ | refine JO.fork ?_ ?_ | refine jo_same rfl rfl rfl rfl rfl rfl ?_ | refine jo_v rfl rfl rfl rfl rfl (ov_int rfl rfl (by simp only [inK]; omega)) ?_ | refine jo_p rfl rfl rfl rfl rfl rfl ?_ | refine jo_s rfl rfl rfl rfl ?_ | refine jo_st rfl rfl rfl rfl rfl rfl ?_ | refine jo_n rfl rfl rfl rfl rfl rfl (fun n => rfl) (fun n => ?_) | refine jo_unname 57 6 rfl rfl (by decide) ?_ | refine jo_name 66 rfl rfl (by decide) rfl (fun _ => rfl) (fun ad1 => ?_) | refine jo_v rfl rfl rfl rfl rfl (ov_index rfl rfl rfl rfl rfl (by first | omega | (simp only []; omega)) (by first | omega | (simp only []; omega))) ?_ | refine jo_v rfl rfl rfl rfl rfl (ov_load rfl rfl rfl (at_i hlt0 hoff0) rfl rfl) ?_ | refine jo_v rfl rfl rfl rfl rfl (ov_load rfl rfl rfl (at_i hlt1 hoff1) rfl rfl) ?_ | refine jo_x rfl rfl rfl (ox_app Rc.el Rc.e1 (L := (rcsOf L).take q) (M := [⟨L[8 + q * 2]'hlt0, L[8 + q * 2 + 1]'hlt1⟩]) rfl rfl rfl rfl rfl rfl rfl rfl rfl rfl rfl rfl rfl (Sub.refl _) (by first | omega | (simp only [List.length_set, List.length_nil, List.length_append, List.length_cons, List.length_drop, List.length_take, List.length_singleton]; done) | (simp only [List.length_set, List.length_nil, List.length_append, List.length_cons, List.length_drop, List.length_take, List.length_singleton]; omega)) (by first | omega | (simp only [List.length_set, List.length_nil, List.length_append, List.length_cons, List.length_drop, List.length_take, List.length_singleton]; done) | (simp only [List.length_set, List.length_nil, List.length_append, List.length_cons, List.length_drop, List.length_take, List.length_singleton]; omega)) (by first | omega | (simp only [List.length_set, List.length_nil, List.length_append, List.length_cons, List.length_drop, List.length_take, List.length_singleton]; done) | (simp only [List.length_set, List.length_nil, List.length_append, List.length_cons, List.length_drop, List.length_take, List.length_singleton]; omega)) (by first | omega | (simp only [List.length_set, List.length_nil, List.length_append, List.length_cons, List.length_drop, List.length_take, List.length_singleton]; done) | (simp only [List.length_set, List.length_nil, List.length_append, List.length_cons, List.length_drop, List.length_take, List.length_singleton]; omega)) rfl (fun _ _ => rfl) (fun c hc a => ?_)) | ((fail_if_success (refine jo_gt rfl rfl ?_)); first | (refine jo_split_lt rfl rfl rfl rfl (fun hc => ?_) (fun hc => ?_)) | (refine jo_split_ge rfl rfl rfl rfl (fun hc => ?_) (fun hc => ?_)) | (refine jo_split_eq rfl rfl rfl rfl (fun hc => ?_) (fun hc => ?_)) | (refine jo_split_ne rfl rfl rfl rfl (fun hc => ?_) (fun hc => ?_)) | (refine jo_split rfl rfl rfl rfl (fun hc => ?_) (fun hc => ?_)))) | (guard_target =~ JC _ _ _ _ _ _ _; first | refine jc_drawz (id := 8) (.step 2 0 (.step 2 1 (.step 1 2 (.step 1 3 (.step 2 4 (.step 1 5 (.step 1 6 (.step 2 7 (.step 2 8 (.step 1 9 (.step 1 10 (.step 2 11 (.step 1 12 .nil))))))))))))) [2] rfl (by kernel_rfl) ?_ | refine jc_seq ?_ | refine jc_region ?_ | refine jc_draw (id := 8) (.step 2 0 (.step 2 1 (.step 1 2 (.step 1 3 (.step 2 4 (.step 1 5 (.step 1 6 (.step 2 7 (.step 2 8 (.step 1 9 (.step 1 10 (.step 2 11 (.step 1 12 .nil))))))))))))) (by kernel_rfl) rfl ?_ | refine jc_drawn (by kernel_rfl) rfl ?_ | refine jc_cond_t rfl ?_ | refine jc_cond_f rfl ?_ | refine jc_cond_lt rfl (fun hc => ?_) (fun hc => ?_) | refine jc_cond_ge rfl (fun hc => ?_) (fun hc => ?_) | refine jc_cond_eq rfl (fun hc => ?_) (fun hc => ?_) | refine jc_cond_ne rfl (fun hc => ?_) (fun hc => ?_) | refine jc_cond rfl (fun hc => ?_) (fun hc => ?_) | refine jc_skip ?_ | refine jc_ret ?_ | refine jc_exit ?_ | refine jc_block ?_) | (guard_target =~ Kthen _ _ _ _; first | refine k_then ?_ | refine k_then_r ?_ | refine k_then_e ?_) | (guard_target =~ Kblock _ _ _ _; first | refine k_block_n ?_ | refine k_block_r ?_ | refine k_block_hit ?_ | refine k_block_miss rfl ?_) | (guard_target =~ JR _ _ _ _ _ _ _ _; refine jr_step ?_))
    have e : (rcsOf L).take (q + 1) = (rcsOf L).take q ++ [⟨L[8 + q * 2]'hlt0, L[8 + q * 2 + 1]'hlt1⟩] := by
      rw [List.take_succ_eq_append_getElem hq2]
      congr 2
      have : (rcsOf L)[q] = rcAt L q := by simp [rcsOf]
      rw [this, rcAt_part]
      congr 1 <;> simp [List.getD_eq_getElem?_getD, List.getElem?_eq_getElem hlt0, List.getElem?_eq_getElem hlt1]
    refine ⟨rfl, (q + 1, ad1, c), ⟨rfl, ?_⟩, ?_⟩
    · dsimp only; rw [e]; assumption
    · dsimp only; rw [e]; exact (wk [0, 1, 2, 3, 4, 5, 11, 7, 8] rfl rfl (by repeat' (first | exact EnvIn.nil | refine EnvIn.cons rfl rfl ?_)))
  · rintro ⟨q, ad', c⟩ D ⟨hq, hcap⟩
    dsimp only at hq hcap ⊢
    have hq3 : q = (rcsOf L).length := by
      rw [hq, chs_len, hNl]
      unfold chQ
      omega
    have e : (rcsOf L).take q = rcsOf L := by rw [hq3]; exact List.take_length
    rw [e] at hcap ⊢
    repeat' (first | refine k_then ?_ | refine k_block_n ?_)
    refine jc_rowat 6 rfl (fun hco => ?_)
    have hput := putData_c (L.getD 0 0) (L.getD 1 0) (tmAt L 2) (rcsOf L) ad' c (fun h0 => hco (by omega)) hcap
    repeat' (first | (guard_target =~ JL _ _ _ _ _ _ _ _; first | refine jl_nil ?_ | refine jl_same rfl rfl rfl rfl rfl ?_ | refine jl_v rfl rfl rfl rfl (ov_int rfl rfl (by simp only [inK]; omega)) ?_ | refine jl_p rfl rfl rfl rfl rfl ?_ | refine jl_s rfl rfl rfl ?_ | refine jl_st rfl rfl rfl rfl ?_ | refine jl_n rfl rfl rfl rfl rfl (fun n => rfl) (fun n => ?_) | refine jl_x rfl rfl (ox_g 13 (fun _ _ => by kernel_rfl) (hput) (MOk.cons 6 rfl rfl rfl (Sub.refl _) MOk.nil) rfl rfl rfl rfl (fun _ => rfl) (fun _ => rfl) (fun x hx => ?_)) | ((fail_if_success (refine jl_gt rfl ?_)); first | (refine jl_split_lt rfl rfl rfl (fun hc => ?_) (fun hc => ?_)) | (refine jl_split_ge rfl rfl rfl (fun hc => ?_) (fun hc => ?_)) | (refine jl_split_eq rfl rfl rfl (fun hc => ?_) (fun hc => ?_)) | (refine jl_split_ne rfl rfl rfl (fun hc => ?_) (fun hc => ?_)) | (refine jl_split rfl rfl rfl (fun hc => ?_) (fun hc => ?_)))) | (guard_target =~ JO _ _ _ _ _ _ _ _; first | refine JO.nil ?_ | refine JO.fork ?_ ?_ | refine jo_same rfl rfl rfl rfl rfl rfl ?_ | refine jo_v rfl rfl rfl rfl rfl (ov_int rfl rfl (by simp only [inK]; omega)) ?_ | refine jo_p rfl rfl rfl rfl rfl rfl ?_ | refine jo_s rfl rfl rfl rfl ?_ | refine jo_st rfl rfl rfl rfl rfl rfl ?_ | refine jo_n rfl rfl rfl rfl rfl rfl (fun n => rfl) (fun n => ?_) | refine jo_x rfl rfl rfl (ox_g 13 (fun _ _ => by kernel_rfl) (hput) (MOk.cons 6 rfl rfl rfl (Sub.refl _) MOk.nil) rfl rfl rfl rfl (fun _ => rfl) (fun _ => rfl) (fun x hx => ?_)) | ((fail_if_success (refine jo_gt rfl rfl ?_)); first | (refine jo_split_lt rfl rfl rfl rfl (fun hc => ?_) (fun hc => ?_)) | (refine jo_split_ge rfl rfl rfl rfl (fun hc => ?_) (fun hc => ?_)) | (refine jo_split_eq rfl rfl rfl rfl (fun hc => ?_) (fun hc => ?_)) | (refine jo_split_ne rfl rfl rfl rfl (fun hc => ?_) (fun hc => ?_)) | (refine jo_split rfl rfl rfl rfl (fun hc => ?_) (fun hc => ?_)))) | (guard_target =~ JC _ _ _ _ _ _ _; first | refine jc_seq ?_ | refine jc_region ?_ | refine jc_draw (id := 8) (.step 2 0 (.step 2 1 (.step 1 2 (.step 1 3 (.step 2 4 (.step 1 5 (.step 1 6 (.step 2 7 (.step 2 8 (.step 1 9 (.step 1 10 (.step 2 11 (.step 1 12 .nil))))))))))))) (by kernel_rfl) rfl ?_ | refine jc_drawn (by kernel_rfl) rfl ?_ | refine jc_cond_t rfl ?_ | refine jc_cond_f rfl ?_ | refine jc_cond_lt rfl (fun hc => ?_) (fun hc => ?_) | refine jc_cond_ge rfl (fun hc => ?_) (fun hc => ?_) | refine jc_cond_eq rfl (fun hc => ?_) (fun hc => ?_) | refine jc_cond_ne rfl (fun hc => ?_) (fun hc => ?_) | refine jc_cond rfl (fun hc => ?_) (fun hc => ?_) | refine jc_skip ?_ | refine jc_ret ?_ | refine jc_exit ?_ | refine jc_block ?_) | (guard_target =~ Kthen _ _ _ _; first | refine k_then ?_ | refine k_then_r ?_ | refine k_then_e ?_) | (guard_target =~ Kblock _ _ _ _; first | refine k_block_n ?_ | refine k_block_r ?_ | refine k_block_hit ?_ | refine k_block_miss rfl ?_) | (guard_target =~ JR _ _ _ _ _ _ _ _; refine jr_step ?_))
    · have e : (bdOf L).err ≠ 0 := hc
      rw [decide_eq_false e]
      refine fin_mark (i := 7) rfl rfl ?_
      exact fin_bnil (.inr rfl) rfl (ris rfl) (ris rfl)
    · have e : (bdOf L).err = 0 := hc
      rw [decide_eq_true e, if_pos rfl]
      refine fin_mark (i := 7) rfl rfl ?_
      exact fin_bx (b := bdOf L) (i := 6) (.inr rfl) rfl (ris rfl) (ris rfl) rfl hcap
end Go.Proofs.Ytkdfdbjcfhmkaaa
