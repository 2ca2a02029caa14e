/- slices.SortFunc at records; package bag: Sort. -/
import Derived.Test.YtflmehahkcijcaaBi
import Derived.Test.YtflmehahkcijcaaWj
import Derived.Shelf.SlSortCmp.NoneTotal
import Derived.Shelf.Lay
import Derived.Ground.SlsfProg
namespace Go.Proofs.Ytflmehahkcijcaa
open Go Go.RowKit Go.Shelf Go.Lib Go.Sort
set_option linter.unusedSimpArgs false
set_option maxHeartbeats 4000000
set_option linter.unusedVariables false
shelf_lay_g SlLaysF0.n6 Slsf 6 at Try 101 as sortRec
theorem ext_grow {W W' : World} (h : Ext W W') : ∃ q os, W' = grow (W.drewN q) os := by
  refine ⟨W'.drawn - W.drawn, W'.heap.extract W.heap.size W'.heap.size, ?_⟩
  obtain ⟨⟨h1, h2, h3, h4, h5⟩, h6⟩ := h
  cases W with
  | mk heap tape drawn os output =>
    cases W' with
    | mk heap' tape' drawn' os' output' =>
      simp only at h1 h2 h3 h4 h5 h6
      subst h1; subst h2; subst h3
      simp only [grow, World.drewN]
      have e1 : drawn + (drawn' - drawn) = drawn' := by omega
      have e2 : heap ++ heap'.extract heap.size heap'.size = heap' := by
        apply Array.ext_getElem?
        intro i
        rcases Nat.lt_or_ge i heap.size with hi | hi
        · rw [Array.getElem?_append_left hi, h5 i hi]
        · rw [Array.getElem?_append_right hi, Array.getElem?_extract]
          by_cases hj : i < heap'.size
          · rw [if_pos (by omega)]; congr 1; omega
          · rw [if_neg (by omega), Array.getElem?_eq_none (by omega)]
      rw [e1, e2]
theorem lt_rord (x y : Rc) : ltOf rord x y = decide (rord x y < 0) := rfl
theorem swo_rord : SWO (ltOf rord) where
  irrefl x := by
    rw [lt_rord, decide_eq_false_iff_not, rord_lt]
    exact fun h => h (rle_refl x)
  trans x y z h1 h2 := by
    rw [lt_rord] at *
    simp only [decide_eq_true_eq, rord_lt] at *
    exact fun h => h1 (rle_trans ((rle_total y z).resolve_right h2) h)
  ntrans x y z h1 h2 := by
    rw [lt_rord] at *
    simp only [decide_eq_false_iff_not, rord_lt, Classical.not_not] at *
    exact rle_trans h2 h1
theorem sortRec_c (L : List Rc) (hL : L.length ≤ 1073741824) (c b : Nat) (w : World) (hH : HoldsK Rc.e 2 w b 0 L.toArray) (hb : b < w.heap.size) :
    Calls C.P 101 #[.slice (some ⟨b, 0, none⟩) L.length c, .func (.func 98) #[] #[]] w fun e w' => e = .returned (.tuple #[]) ∧ ∃ n os, w' = sortWorldK Rc.e 2 w b 0 n (rsort L).toArray os := by
  have h := AnyQ.slices_SortFunc_total sortRec 2 (fun w => (C.ok 38 _ rfl).a w) (fun w => (C.ok 38 _ rfl).s w) Rc.e Rc.el (fun x v hv => by simp [Rc.e] at hv; rcases hv with rfl | rfl <;> rfl) rord swo_rord 98 #[] b 0 c L.toArray w
    (fun _ _ => by kernel_rfl) (fun m os dk _ x y => (order_c x y _).mono fun e w' ⟨he, hx⟩ => ⟨he, ext_grow hx⟩) hH hb (by simp; omega) (fun x y h1 h2 => by
      rw [lt_rord] at *
      simp only [decide_eq_false_iff_not, rord_lt, Classical.not_not] at *
      exact rle_antisymm h2 h1)
  simp only [List.size_toArray] at h
  rw [merge_rsort L _ lt_rord] at h
  exact h
attribute [local irreducible] JC JL OX OV Kthen Kblock JR FendG
theorem sortedFunc_c (L : List Rc) (hL : L.length ≤ 1073741824) (f : Nat) (lb : List Value) (m1 m2 : Option Addr × List Value) (hseq : SeqC C f lb (fun W => MemR W [m1, m2]) (L.map fun r => [r.a])) (he : Enters C.P f) :
    ConM C.P 96 [.func (.func f) ⟨[]⟩ ⟨lb⟩, .func (.func 98) ⟨[]⟩ ⟨[]⟩] [m1, m2] (PS 38 2 (rsort L).length (encs Rc.e (rsort L))) := by
  obtain ⟨a1, x1⟩ := m1
  obtain ⟨a2, x2⟩ := m2
  have hl := rsort_len L
  refine con_m Try.func96 rfl _ Try.ntmps96 rfl (fun W => ?_)
  repeat' (first | (guard_target =~ JL _ _ _ _ _ _ _ _; first | refine jl_nil ?_ | refine jl_same rfl rfl rfl rfl rfl ?_ | refine jl_v rfl rfl rfl rfl (ov_int rfl rfl (by simp only [inK]; omega)) ?_ | refine jl_p rfl rfl rfl rfl rfl ?_ | refine jl_s rfl rfl rfl ?_ | refine jl_st rfl rfl rfl rfl ?_ | refine jl_n rfl rfl rfl rfl rfl (fun n => rfl) (fun n => ?_) | refine jl_x rfl rfl (ox_gs 100 (fun _ _ => by kernel_rfl) (collect_c L hL f lb (a1, x1) (a2, x2) hseq he) (MOk.cons 0 rfl rfl rfl (Sub.refl _) (MOk.cons 1 rfl rfl rfl (Sub.refl _) MOk.nil)) rfl rfl rfl rfl (fun _ _ => rfl) (fun c hc a => ?_)) | refine jl_x rfl rfl (ox_sort (enc := Rc.e) (k := 2) Rc.el (L := L) (L' := rsort L) hl 101 98 (i := 2) (sortRec_c L hL _) (AnyF.slices_SortFunc_none sortRec · _ _ ·) (fun _ _ => by kernel_rfl) (by rfl) (by decide) rfl rfl rfl rfl rfl rfl hc rfl rfl ?_) | ((fail_if_success (refine jl_gt rfl ?_)); first | (refine jl_split_lt rfl rfl rfl (fun hc => ?_) (fun hc => ?_)) | (refine jl_split_ge rfl rfl rfl (fun hc => ?_) (fun hc => ?_)) | (refine jl_split_eq rfl rfl rfl (fun hc => ?_) (fun hc => ?_)) | (refine jl_split_ne rfl rfl rfl (fun hc => ?_) (fun hc => ?_)) | (refine jl_split rfl rfl rfl (fun hc => ?_) (fun hc => ?_)))) | (guard_target =~ JO _ _ _ _ _ _ _ _; first | refine JO.nil ?_ | refine JO.fork ?_ ?_ | refine jo_same rfl rfl rfl rfl rfl rfl ?_ | refine jo_v rfl rfl rfl rfl rfl (ov_int rfl rfl (by simp only [inK]; omega)) ?_ | refine jo_p rfl rfl rfl rfl rfl rfl ?_ | refine jo_s rfl rfl rfl rfl ?_ | refine jo_st rfl rfl rfl rfl rfl rfl ?_ | refine jo_n rfl rfl rfl rfl rfl rfl (fun n => rfl) (fun n => ?_) | refine jo_x rfl rfl rfl (ox_gs 100 (fun _ _ => by kernel_rfl) (collect_c L hL f lb (a1, x1) (a2, x2) hseq he) (MOk.cons 0 rfl rfl rfl (Sub.refl _) (MOk.cons 1 rfl rfl rfl (Sub.refl _) MOk.nil)) rfl rfl rfl rfl (fun _ _ => rfl) (fun c hc a => ?_)) | refine jo_x rfl rfl rfl (ox_sort (enc := Rc.e) (k := 2) Rc.el (L := L) (L' := rsort L) hl 101 98 (i := 2) (sortRec_c L hL _) (AnyF.slices_SortFunc_none sortRec · _ _ ·) (fun _ _ => by kernel_rfl) (by rfl) (by decide) rfl rfl rfl rfl rfl rfl hc rfl rfl ?_) | ((fail_if_success (refine jo_gt rfl rfl ?_)); first | (refine jo_split_lt rfl rfl rfl rfl (fun hc => ?_) (fun hc => ?_)) | (refine jo_split_ge rfl rfl rfl rfl (fun hc => ?_) (fun hc => ?_)) | (refine jo_split_eq rfl rfl rfl rfl (fun hc => ?_) (fun hc => ?_)) | (refine jo_split_ne rfl rfl rfl rfl (fun hc => ?_) (fun hc => ?_)) | (refine jo_split rfl rfl rfl rfl (fun hc => ?_) (fun hc => ?_)))) | (guard_target =~ JC _ _ _ _ _ _ _; first | refine jc_seq ?_ | refine jc_region ?_ | refine jc_drawn (by kernel_rfl) rfl ?_ | refine jc_cond_t rfl ?_ | refine jc_cond_f rfl ?_ | refine jc_cond_lt rfl (fun hc => ?_) (fun hc => ?_) | refine jc_cond_ge rfl (fun hc => ?_) (fun hc => ?_) | refine jc_cond_eq rfl (fun hc => ?_) (fun hc => ?_) | refine jc_cond_ne rfl (fun hc => ?_) (fun hc => ?_) | refine jc_cond rfl (fun hc => ?_) (fun hc => ?_) | refine jc_skip ?_ | refine jc_ret ?_ | refine jc_exit ?_ | refine jc_block ?_) | (guard_target =~ Kthen _ _ _ _; first | refine k_then ?_ | refine k_then_r ?_ | refine k_then_e ?_) | (guard_target =~ Kblock _ _ _ _; first | refine k_block_n ?_ | refine k_block_r ?_ | refine k_block_hit ?_ | refine k_block_miss rfl ?_) | (guard_target =~ JR _ _ _ _ _ _ _ _; refine jr_step ?_))
  rw [← hl] at hc
  exact fin_sv (i := 2) (.inr rfl) rfl (rise (by rw [hl]; rfl)) rfl (by decide) hc
theorem sort_c (L : List Rc) (c : Nat) (hL : L.length ≤ 1073741824) : Con C.P 93 [.r L.length c (encs Rc.e L)] (PS 38 2 (rsort L).length (encs Rc.e (rsort L))) := by
  refine con_b Try.func93 rfl _ Try.ntmps93 rfl (fun W α hB => ?_)
  have hB := hB; simp only [AsB] at hB; obtain ⟨hcap, -⟩ := hB
  have h0 : c = 0 → encs Rc.e L = [] := fun h => by
    have : L = [] := List.length_eq_zero_iff.1 (by omega)
    subst this; rfl
  repeat' (first | (guard_target =~ JL _ _ _ _ _ _ _ _; first | refine jl_nil ?_ | refine jl_same rfl rfl rfl rfl rfl ?_ | refine jl_v rfl rfl rfl rfl (ov_int rfl rfl (by simp only [inK]; omega)) ?_ | refine jl_p rfl rfl rfl rfl rfl ?_ | refine jl_s rfl rfl rfl ?_ | refine jl_st rfl rfl rfl rfl ?_ | refine jl_n rfl rfl rfl rfl rfl (fun n => rfl) (fun n => ?_) | (refine jl_name_ro 3 rfl rfl h0 (fun _ => rfl) (fun ad had => ?_)) | refine jl_x rfl rfl (ox_g 97 (fun _ _ => by kernel_rfl) (values_c _ _ _) MOk.nil rfl rfl rfl rfl (fun _ => rfl) (fun _ => rfl) (fun x hx => ?_)) | refine jl_x rfl rfl (ox_gs 96 (fun _ _ => by kernel_rfl) (sortedFunc_c L hL 102 [.pointer (some ⟨x, 0, none⟩)] (some ⟨x, 0, none⟩, [.slice ad L.length c]) (ad, encs Rc.e L) (values1_seq L x ad c (by omega) hcap had) (fun _ _ => by kernel_rfl)) (MOk.cons 2 rfl rfl rfl (Sub.refl _) (MOk.cons 1 rfl rfl rfl (Sub.refl _) MOk.nil)) rfl rfl rfl rfl (fun _ _ => rfl) (fun c hc a => ?_)) | ((fail_if_success (refine jl_gt rfl ?_)); first | (refine jl_split_lt rfl rfl rfl (fun hc => ?_) (fun hc => ?_)) | (refine jl_split_ge rfl rfl rfl (fun hc => ?_) (fun hc => ?_)) | (refine jl_split_eq rfl rfl rfl (fun hc => ?_) (fun hc => ?_)) | (refine jl_split_ne rfl rfl rfl (fun hc => ?_) (fun hc => ?_)) | (refine jl_split rfl rfl rfl (fun hc => ?_) (fun hc => ?_)))) | (guard_target =~ JO _ _ _ _ _ _ _ _; first | refine JO.nil ?_ | refine JO.fork ?_ ?_ | refine jo_same rfl rfl rfl rfl rfl rfl ?_ | refine jo_v rfl rfl rfl rfl rfl (ov_int rfl rfl (by simp only [inK]; omega)) ?_ | refine jo_p rfl rfl rfl rfl rfl rfl ?_ | refine jo_s rfl rfl rfl rfl ?_ | refine jo_st rfl rfl rfl rfl rfl rfl ?_ | refine jo_n rfl rfl rfl rfl rfl rfl (fun n => rfl) (fun n => ?_) | refine jo_x rfl rfl rfl (ox_g 97 (fun _ _ => by kernel_rfl) (values_c _ _ _) MOk.nil rfl rfl rfl rfl (fun _ => rfl) (fun _ => rfl) (fun x hx => ?_)) | refine jo_x rfl rfl rfl (ox_gs 96 (fun _ _ => by kernel_rfl) (sortedFunc_c L hL 102 [.pointer (some ⟨x, 0, none⟩)] (some ⟨x, 0, none⟩, [.slice ad L.length c]) (ad, encs Rc.e L) (values1_seq L x ad c (by omega) hcap had) (fun _ _ => by kernel_rfl)) (MOk.cons 2 rfl rfl rfl (Sub.refl _) (MOk.cons 1 rfl rfl rfl (Sub.refl _) MOk.nil)) rfl rfl rfl rfl (fun _ _ => rfl) (fun c hc a => ?_)) | ((fail_if_success (refine jo_gt rfl rfl ?_)); first | (refine jo_split_lt rfl rfl rfl rfl (fun hc => ?_) (fun hc => ?_)) | (refine jo_split_ge rfl rfl rfl rfl (fun hc => ?_) (fun hc => ?_)) | (refine jo_split_eq rfl rfl rfl rfl (fun hc => ?_) (fun hc => ?_)) | (refine jo_split_ne rfl rfl rfl rfl (fun hc => ?_) (fun hc => ?_)) | (refine jo_split rfl rfl rfl rfl (fun hc => ?_) (fun hc => ?_)))) | (guard_target =~ JC _ _ _ _ _ _ _; first | refine jc_seq ?_ | refine jc_region ?_ | refine jc_drawn (by kernel_rfl) rfl ?_ | refine jc_cond_t rfl ?_ | refine jc_cond_f rfl ?_ | refine jc_cond_lt rfl (fun hc => ?_) (fun hc => ?_) | refine jc_cond_ge rfl (fun hc => ?_) (fun hc => ?_) | refine jc_cond_eq rfl (fun hc => ?_) (fun hc => ?_) | refine jc_cond_ne rfl (fun hc => ?_) (fun hc => ?_) | refine jc_cond rfl (fun hc => ?_) (fun hc => ?_) | refine jc_skip ?_ | refine jc_ret ?_ | refine jc_exit ?_ | refine jc_block ?_) | (guard_target =~ Kthen _ _ _ _; first | refine k_then ?_ | refine k_then_r ?_ | refine k_then_e ?_) | (guard_target =~ Kblock _ _ _ _; first | refine k_block_n ?_ | refine k_block_r ?_ | refine k_block_hit ?_ | refine k_block_miss rfl ?_) | (guard_target =~ JR _ _ _ _ _ _ _ _; refine jr_step ?_))
  exact fin_sv (i := 3) (.inr rfl) rfl (rise rfl) rfl (by decide) (by assumption)
end Go.Proofs.Ytflmehahkcijcaa
