/- The walk of PacketTakes. -/
import Derived.Test.YtkdfdbjcfhmkaaaQf
import Derived.Test.YtkdfdbjcfhmkaaaPd
namespace Go.Proofs.Ytkdfdbjcfhmkaaa
open Go Go.RowKit
set_option linter.unusedSimpArgs false
set_option maxHeartbeats 4000000
set_option linter.unusedVariables false
set_option maxRecDepth 4000
section rules
variable {C : Ctx} {B : Bas} {nt : Nat} {ρ : Option Nat} {env : Env} {own : Own} {dfs : List Deferred} {K : Exit → St → Prop}
/-- A row is told as a value, and where it lies. -/
theorem jl_nameA {ops : Array Oper} {l : List Oper} (d : Nat) {i n c T k : Nat} {ad : Option Addr} {xs : List Value} (hd : eget env d = some (.s i 0 n c)) (hi : nth own i = some (.row ad T (c * k) xs)) (hk : 0 < k) {own' : Option Addr → Own} (hw : ∀ a, forceK (snoc (own.set i (.dead ad)) (.row a T (c * k) xs)) some = some (own' a))
    (h : ∀ a, (c ≠ 0 → ∃ b lo, a = some ⟨b, lo, none⟩) → JL C B nt ρ ops K l ⟨(d, .v (.slice a n c)) :: env, own' a, dfs⟩) : JL C B nt ρ ops K l ⟨env, own, dfs⟩ := fun a W hr => by
  obtain ⟨ad', hr'⟩ := rel_name hr hd hi hk
  have := hw ad'
  rw [forceK_eq] at this
  have h' := h ad' (fun hc => by
    have hm := hr'.mem.at (i := own.length) (o := .row ad' T (c * k) xs) (by rw [snoc_eq] at *; simp)
    obtain ⟨b, cs, ha, _⟩ := hm.2 (fun e => (Nat.mul_eq_zero.1 e).elim hc (by omega))
    exact ⟨b, 0, ha⟩)
  rw [← Option.some.inj this] at h'
  exact h' a W hr'
end rules
theorem openL_len (tag : Int) (B : List Int) : (openL tag B).length ≤ B.length := by
  unfold openL
  split
  · rw [openN_len]; omega
  · simp
theorem takeD_len (B : List Int) : (takeD B).R.length ≤ B.length := by
  have := openL_len 68 B
  unfold takeD
  split
  · simp only [bdOf, rcsOf, List.length_map, List.length_range]; omega
  · simp [Bd.nil]
theorem takeP_len (B : List Int) : (takeP B).length ≤ B.length := by
  have := openL_len 80 B
  unfold takeP
  split
  · simp only [chsOf, List.length_map, List.length_range]; omega
  · simp
theorem sameB_self (b : Bd) : sameB b.p b.q b.t b.R b.p b.q b.t b.R = true := sameB_iff.2 ⟨rfl, rfl, rfl, rfl⟩
attribute [local irreducible] JC JL OX OV Kthen Kblock JR FendG sealT takeD takeP takeOkD takeOkP
theorem packetTakes_w (L : List Int) (c0 : Nat) (hb : ∀ z ∈ L, isByte z) (s : Bool) : Con C.P 6 [.r L.length c0 (encs Zb.e L), .x (.bool s)] (fun W => PV W (.bool true)) := by
  have hse := fun c => lsealed_c L c hb s
  obtain ⟨B, hB⟩ : ∃ B, sealT L s = B := ⟨_, rfl⟩
  have hbB : ∀ z ∈ B, isByte z := by rw [← hB]; exact sealT_bytes hb s
  have hBl : B.length ≤ 2004 := by rw [← hB]; exact sealT_len L s
  rw [hB] at hse
  have hd1 := fun (ad : Option Addr) (c : Nat) (had : c ≠ 0 → ∃ b lo, ad = some ⟨b, lo, none⟩) (hn : B.length ≤ c) => takeData_c B hbB ad c had hn (by omega)
  have hd2 := fun c => rtakeData_c B hbB c (by omega)
  have hp1 := fun (ad : Option Addr) (c : Nat) (had : c ≠ 0 → ∃ b lo, ad = some ⟨b, lo, none⟩) (hn : B.length ≤ c) => takeProg_c B hbB ad c had hn (by omega)
  have hp2 := fun c => rtakeProg_c B hbB c (by omega)
  rw [(data_law hbB).1, (data_law hbB).2] at hd2
  rw [(prog_law hbB).1, (prog_law hbB).2] at hp2
  have hl1 := takeD_len B
  have hl2 := takeP_len B
  have hsame := sameB_self (takeD B)
  obtain ⟨b, hb⟩ : ∃ b, takeD B = b := ⟨_, rfl⟩
  obtain ⟨R, hR⟩ : ∃ R, takeP B = R := ⟨_, rfl⟩
  obtain ⟨e, he⟩ : ∃ e, takeE (takeOkD B) = e := ⟨_, rfl⟩
  obtain ⟨f, hf⟩ : ∃ e, takeE (takeOkP B) = e := ⟨_, rfl⟩
  simp only [hb, hR, he, hf] at hd1 hd2 hp1 hp2 hl1 hl2 hsame
  have hsb := fun a1 c1 h1 h2 a2 c2 h3 h4 => sameBatch_c b.p b.q b.t b.R a1 c1 h1 h2 (by omega) b.p b.q b.t b.R a2 c2 h3 h4 (by omega)
  rw [hsame] at hsb
  clear hb hR he hf hB
  refine con_b Try.func6 rfl _ Try.ntmps6 rfl (fun W α hB => ?_)
  have hB := hB; simp only [AsB] at hB; obtain ⟨hcap, -⟩ := hB
  repeat' (first | (guard_target =~ JL _ _ _ _ _ _ _ _; first | refine jl_nil ?_ | refine jl_same rfl rfl rfl rfl rfl ?_ | refine jl_v rfl rfl rfl rfl (ov_int rfl rfl (by simp only [inK]; omega)) ?_ | refine jl_p rfl rfl rfl rfl rfl ?_ | refine jl_s rfl rfl rfl ?_ | refine jl_st rfl rfl rfl rfl ?_ | refine jl_n rfl rfl rfl rfl rfl (fun n => rfl) (fun n => ?_) | refine jl_x rfl rfl (ox_pvf 9 (shown_c) rfl rfl rfl rfl (fun _ _ => by kernel_rfl) ?_) | refine jl_x rfl rfl (ox_cons 19 (fun _ _ => by kernel_rfl) (hse c0) rfl rfl rfl (by (repeat' (first | exact AM.nil | refine AM.x rfl ?_ | refine am_l rfl (by omega) ?_ | refine AM.r rfl (Sub.refl _) (by omega) (by omega) ?_ | refine AM.r rfl (Sub.refl _) (fun _ => rfl) (by omega) ?_ | refine AM.q rfl (Sub.refl _) (by simp) ?_ | refine AM.w rfl (Sub.refl _) (by simp) ?_)); done) rfl rfl (fun _ _ => rfl) (fun cB hcB aB => ?_)) | refine jl_x rfl rfl (ox_app0 Zb.el Zb.e1 (M := B) rfl rfl rfl rfl rfl rfl rfl rfl rfl rfl rfl rfl rfl (Sub.refl _) (by first | omega | (simp only [List.length_set, List.length_nil, List.length_append, List.length_cons, List.length_drop, List.length_take, List.length_singleton]; done) | (simp only [List.length_set, List.length_nil, List.length_append, List.length_cons, List.length_drop, List.length_take, List.length_singleton]; omega)) (by first | omega | (simp only [List.length_set, List.length_nil, List.length_append, List.length_cons, List.length_drop, List.length_take, List.length_singleton]; done) | (simp only [List.length_set, List.length_nil, List.length_append, List.length_cons, List.length_drop, List.length_take, List.length_singleton]; omega)) (by first | omega | (simp only [List.length_set, List.length_nil, List.length_append, List.length_cons, List.length_drop, List.length_take, List.length_singleton]; done) | (simp only [List.length_set, List.length_nil, List.length_append, List.length_cons, List.length_drop, List.length_take, List.length_singleton]; omega)) rfl (fun _ _ => rfl) (fun c hc a => ?_)) | refine jl_nameA 24 rfl rfl (by decide) (fun _ => rfl) (fun a1 h1 => ?_) | refine jl_x rfl rfl (ox_g 20 (fun _ _ => by kernel_rfl) (hd1 a1 _ h1 (by assumption)) (MOk.cons 4 rfl rfl rfl (Sub.refl _) MOk.nil) rfl rfl rfl rfl (fun _ => rfl) (fun _ => rfl) (fun x1 hx1 => ?_)) | refine jl_x rfl rfl (ox_con 21 (fun _ _ => by kernel_rfl) (hd2 cB) rfl rfl rfl (by (repeat' (first | exact AM.nil | refine AM.x rfl ?_ | refine am_l rfl (by omega) ?_ | refine AM.r rfl (Sub.refl _) (by omega) (by omega) ?_ | refine AM.r rfl (Sub.refl _) (fun _ => rfl) (by omega) ?_ | refine AM.q rfl (Sub.refl _) (by simp) ?_ | refine AM.w rfl (Sub.refl _) (by simp) ?_)); done) rfl (fun _ => rfl) (fun _ => rfl) (fun x2 hx2 => ?_)) | refine jl_nameA 36 rfl rfl (by decide) (fun _ => rfl) (fun a2 h2 => ?_) | refine jl_x rfl rfl (ox_g 22 (fun _ _ => by kernel_rfl) (hp1 a2 _ h2 (by assumption)) (MOk.cons 11 rfl rfl rfl (Sub.refl _) MOk.nil) rfl rfl rfl rfl (fun _ => rfl) (fun _ => rfl) (fun x3 hx3 => ?_)) | refine jl_x rfl rfl (ox_con 23 (fun _ _ => by kernel_rfl) (hp2 cB) rfl rfl rfl (by (repeat' (first | exact AM.nil | refine AM.x rfl ?_ | refine am_l rfl (by omega) ?_ | refine AM.r rfl (Sub.refl _) (by omega) (by omega) ?_ | refine AM.r rfl (Sub.refl _) (fun _ => rfl) (by omega) ?_ | refine AM.q rfl (Sub.refl _) (by simp) ?_ | refine AM.w rfl (Sub.refl _) (by simp) ?_)); done) rfl (fun _ => rfl) (fun _ => rfl) (fun x4 hx4 => ?_)) | refine jl_x rfl rfl (ox_g 18 (fun _ _ => by kernel_rfl) ((hsb x1.1 x1.2 hx1.2 hx1.1 x2.1 x2.2 hx2.2 hx2.1).pg) (MOk.cons 5 rfl rfl rfl (Sub.refl _) (MOk.cons 7 rfl rfl rfl (Sub.refl _) MOk.nil)) rfl rfl rfl rfl (fun _ => rfl) (fun _ => rfl) (fun x hx => ?_)) | refine jl_unname 48 12 rfl rfl (by decide) ?_ | refine jl_unname 49 13 rfl rfl (by decide) ?_ | refine jl_x rfl rfl (ox_conv 24 (fun _ _ => by kernel_rfl) (sameCh_c R R _ _ (by omega) (by omega)) rfl rfl rfl (am_l (i := 12) rfl hx3 (am_l (i := 13) rfl hx4 AM.nil)) rfl ?_) | ((fail_if_success (refine jl_gt rfl ?_)); first | (refine jl_split_lt rfl rfl rfl (fun hc => ?_) (fun hc => ?_)) | (refine jl_split_ge rfl rfl rfl (fun hc => ?_) (fun hc => ?_)) | (refine jl_split_eq rfl rfl rfl (fun hc => ?_) (fun hc => ?_)) | (refine jl_split_ne rfl rfl rfl (fun hc => ?_) (fun hc => ?_)) | (refine jl_split rfl rfl rfl (fun hc => ?_) (fun hc => ?_)))) | (guard_target =~ JO _ _ _ _ _ _ _ _; first | refine JO.nil ?_ | refine JO.fork ?_ ?_ | refine jo_same rfl rfl rfl rfl rfl rfl ?_ | refine jo_v rfl rfl rfl rfl rfl (ov_int rfl rfl (by simp only [inK]; omega)) ?_ | refine jo_p rfl rfl rfl rfl rfl rfl ?_ | refine jo_s rfl rfl rfl rfl ?_ | refine jo_st rfl rfl rfl rfl rfl rfl ?_ | refine jo_n rfl rfl rfl rfl rfl rfl (fun n => rfl) (fun n => ?_) | refine jo_x rfl rfl rfl (ox_pvf 9 (shown_c) rfl rfl rfl rfl (fun _ _ => by kernel_rfl) ?_) | refine jo_x rfl rfl rfl (ox_cons 19 (fun _ _ => by kernel_rfl) (hse c0) rfl rfl rfl (by (repeat' (first | exact AM.nil | refine AM.x rfl ?_ | refine am_l rfl (by omega) ?_ | refine AM.r rfl (Sub.refl _) (by omega) (by omega) ?_ | refine AM.r rfl (Sub.refl _) (fun _ => rfl) (by omega) ?_ | refine AM.q rfl (Sub.refl _) (by simp) ?_ | refine AM.w rfl (Sub.refl _) (by simp) ?_)); done) rfl rfl (fun _ _ => rfl) (fun cB hcB aB => ?_)) | refine jo_x rfl rfl rfl (ox_app0 Zb.el Zb.e1 (M := B) rfl rfl rfl rfl rfl rfl rfl rfl rfl rfl rfl rfl rfl (Sub.refl _) (by first | omega | (simp only [List.length_set, List.length_nil, List.length_append, List.length_cons, List.length_drop, List.length_take, List.length_singleton]; done) | (simp only [List.length_set, List.length_nil, List.length_append, List.length_cons, List.length_drop, List.length_take, List.length_singleton]; omega)) (by first | omega | (simp only [List.length_set, List.length_nil, List.length_append, List.length_cons, List.length_drop, List.length_take, List.length_singleton]; done) | (simp only [List.length_set, List.length_nil, List.length_append, List.length_cons, List.length_drop, List.length_take, List.length_singleton]; omega)) (by first | omega | (simp only [List.length_set, List.length_nil, List.length_append, List.length_cons, List.length_drop, List.length_take, List.length_singleton]; done) | (simp only [List.length_set, List.length_nil, List.length_append, List.length_cons, List.length_drop, List.length_take, List.length_singleton]; omega)) rfl (fun _ _ => rfl) (fun c hc a => ?_)) | refine jo_x rfl rfl rfl (ox_g 20 (fun _ _ => by kernel_rfl) (hd1 a1 _ h1 (by assumption)) (MOk.cons 4 rfl rfl rfl (Sub.refl _) MOk.nil) rfl rfl rfl rfl (fun _ => rfl) (fun _ => rfl) (fun x1 hx1 => ?_)) | refine jo_x rfl rfl rfl (ox_con 21 (fun _ _ => by kernel_rfl) (hd2 cB) rfl rfl rfl (by (repeat' (first | exact AM.nil | refine AM.x rfl ?_ | refine am_l rfl (by omega) ?_ | refine AM.r rfl (Sub.refl _) (by omega) (by omega) ?_ | refine AM.r rfl (Sub.refl _) (fun _ => rfl) (by omega) ?_ | refine AM.q rfl (Sub.refl _) (by simp) ?_ | refine AM.w rfl (Sub.refl _) (by simp) ?_)); done) rfl (fun _ => rfl) (fun _ => rfl) (fun x2 hx2 => ?_)) | refine jo_x rfl rfl rfl (ox_g 22 (fun _ _ => by kernel_rfl) (hp1 a2 _ h2 (by assumption)) (MOk.cons 11 rfl rfl rfl (Sub.refl _) MOk.nil) rfl rfl rfl rfl (fun _ => rfl) (fun _ => rfl) (fun x3 hx3 => ?_)) | refine jo_x rfl rfl rfl (ox_con 23 (fun _ _ => by kernel_rfl) (hp2 cB) rfl rfl rfl (by (repeat' (first | exact AM.nil | refine AM.x rfl ?_ | refine am_l rfl (by omega) ?_ | refine AM.r rfl (Sub.refl _) (by omega) (by omega) ?_ | refine AM.r rfl (Sub.refl _) (fun _ => rfl) (by omega) ?_ | refine AM.q rfl (Sub.refl _) (by simp) ?_ | refine AM.w rfl (Sub.refl _) (by simp) ?_)); done) rfl (fun _ => rfl) (fun _ => rfl) (fun x4 hx4 => ?_)) | refine jo_x rfl rfl rfl (ox_g 18 (fun _ _ => by kernel_rfl) ((hsb x1.1 x1.2 hx1.2 hx1.1 x2.1 x2.2 hx2.2 hx2.1).pg) (MOk.cons 5 rfl rfl rfl (Sub.refl _) (MOk.cons 7 rfl rfl rfl (Sub.refl _) MOk.nil)) rfl rfl rfl rfl (fun _ => rfl) (fun _ => rfl) (fun x hx => ?_)) | refine jo_x rfl rfl rfl (ox_conv 24 (fun _ _ => by kernel_rfl) (sameCh_c R R _ _ (by omega) (by omega)) rfl rfl rfl (am_l (i := 12) rfl hx3 (am_l (i := 13) rfl hx4 AM.nil)) rfl ?_) | ((fail_if_success (refine jo_gt rfl rfl ?_)); first | (refine jo_split_lt rfl rfl rfl rfl (fun hc => ?_) (fun hc => ?_)) | (refine jo_split_ge rfl rfl rfl rfl (fun hc => ?_) (fun hc => ?_)) | (refine jo_split_eq rfl rfl rfl rfl (fun hc => ?_) (fun hc => ?_)) | (refine jo_split_ne rfl rfl rfl rfl (fun hc => ?_) (fun hc => ?_)) | (refine jo_split rfl rfl rfl rfl (fun hc => ?_) (fun hc => ?_)))) | (guard_target =~ JC _ _ _ _ _ _ _; first | refine jc_seq ?_ | refine jc_region ?_ | refine jc_drawn (by kernel_rfl) rfl ?_ | refine jc_cond_t rfl ?_ | refine jc_cond_f rfl ?_ | refine jc_cond_lt rfl (fun hc => ?_) (fun hc => ?_) | refine jc_cond_ge rfl (fun hc => ?_) (fun hc => ?_) | refine jc_cond_eq rfl (fun hc => ?_) (fun hc => ?_) | refine jc_cond_ne rfl (fun hc => ?_) (fun hc => ?_) | refine jc_cond rfl (fun hc => ?_) (fun hc => ?_) | refine jc_skip ?_ | refine jc_ret ?_ | refine jc_exit ?_ | refine jc_block ?_) | (guard_target =~ Kthen _ _ _ _; first | refine k_then ?_ | refine k_then_r ?_ | refine k_then_e ?_) | (guard_target =~ Kblock _ _ _ _; first | refine k_block_n ?_ | refine k_block_r ?_ | refine k_block_hit ?_ | refine k_block_miss rfl ?_) | (guard_target =~ JR _ _ _ _ _ _ _ _; refine jr_step ?_))
  · exact fin1 (.inr rfl) rfl (ris rfl) (fin_pv rfl)
  · exfalso
    simp at hc
end Go.Proofs.Ytkdfdbjcfhmkaaa
