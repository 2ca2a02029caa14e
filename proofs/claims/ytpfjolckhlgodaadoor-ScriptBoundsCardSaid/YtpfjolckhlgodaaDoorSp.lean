/- Events printed: a builder of the call's own; the reference's text. -/
import Derived.Test.YtpfjolckhlgodaaDoorSo
namespace Go.Proofs.YtpfjolckhlgodaaDoor
open Go Go.RowKit
set_option linter.unusedSimpArgs false
set_option maxHeartbeats 1000000
set_option linter.unusedVariables false
set_option maxRecDepth 4000
/-- A builder of the call's own that holds this text. -/
abbrev IsBd (B b : Nat) (l : Bs) (W : World) : Prop := Lib.IsBuilderF 58 5 B b (Lib.byteCells l) W
theorem isBd_kept {B b : Nat} {l : Bs} {W W' : World} (h : IsBd B b l W) (hk : ∀ k, B ≤ k → k < W.heap.size → W'.heap[k]? = W.heap[k]?) : IsBd B b l W' := by
  have one : ∀ p, Lib.BuilderAtF 58 5 B b p (Lib.byteCells l) W → Lib.BuilderAtF 58 5 B b p (Lib.byteCells l) W' := by
    rintro p ⟨hB, v, hb, ⟨hl, hv⟩, hne⟩
    refine ⟨hB, v, (hk b hB (lt_of_heap hb)).trans hb, ⟨hl, ?_⟩, hne⟩
    rcases hv with h0 | ⟨g, cap, cur, fz, h1, h2, h3, h4⟩
    · exact .inl h0
    · exact .inr ⟨g, cap, cur, fz, h1, h2, (hk g h2 (lt_of_heap h3)).trans h3, h4⟩
  exact h.imp (one _) (one _)
theorem isBd_ge {B b : Nat} {l : Bs} {W : World} (h : IsBd B b l W) : B ≤ b ∧ b < W.heap.size := by
  rcases h with ⟨hB, v, hb, _⟩ | ⟨hB, v, hb, _⟩ <;> exact ⟨hB, lt_of_heap hb⟩
theorem byteCells_app (l u : Bs) : Lib.byteCells (l ++ u) = Lib.byteCells l ++ Lib.strCells ⟨u.toArray⟩ := by
  unfold Lib.byteCells Lib.strCells
  rw [List.map_append]
theorem wstr_c (B b : Nat) (l u : Bs) (w : World) (h : IsBd B b l w) (hlen : l.length + u.length ≤ 140737488355328) (hB : B ≤ w.heap.size) :
    Calls Tryd.prog 26 #[.pointer (some ⟨b, 0, none⟩), strV u] w fun e w' => e = .returned (.tuple #[.int .i64 (u.length : Int), .nilIface]) ∧ IsBd B b (l ++ u) w' ∧ Below B w w' := by
  have hsz : (ByteArray.mk u.toArray).size = u.length := by show u.toArray.size = _; simp
  have hr := Any.Builder_WriteString_k Tryd.laysWriteString Tryd.extraJoin B b (Lib.byteCells l) ⟨u.toArray⟩ w h (by rw [Lib.byteCells_length, hsz]; exact hlen) hB
  refine hr.mono ?_
  rintro e w' ⟨rfl, h1, h2, _⟩
  refine ⟨by rw [hsz], ?_, h2⟩
  show Lib.IsBuilderF _ _ B b (Lib.byteCells (l ++ u)) w'
  rw [byteCells_app]
  exact .inr h1
theorem bstr_c (B b : Nat) (l : Bs) (w : World) (h : IsBd B b l w) (hB : B ≤ w.heap.size) :
    Calls Tryd.prog 27 #[.pointer (some ⟨b, 0, none⟩)] w fun e w' => e = .returned (strV l) ∧ Below B w w' :=
  (Any.Builder_String_any_k Tryd.laysString Tryd.extraString B b l w h hB).mono fun e w' ⟨h1, _, h2, _⟩ => ⟨h1, h2⟩
/-- All other regions have no blocks. -/
def bareB : Nat → Own → Nat → Bool
  | _, [], _ => true
  | k, o :: r, i => (Nat.beq k i || match o with | .ro _ _ => true | .dead _ => true | _ => false) && bareB (k + 1) r i
theorem bareB_spec {i : Nat} : ∀ {own : Own} {k j : Nat} {o : OB}, bareB k own i = true → own[j]? = some o → k + j ≠ i → ∀ b, ¬ o.fp b
  | [], _, _, _, _, h, _ => by simp at h
  | q :: r, k, 0, o, h, hj, hne => by
    simp only [List.getElem?_cons_zero, Option.some.injEq] at hj
    subst hj
    simp only [bareB, Bool.and_eq_true, Bool.or_eq_true] at h
    rcases h.1 with h1 | h1
    · exact absurd (by simpa using h1) hne
    · cases q with
      | ro a xs => exact fun b hb => hb
      | dead a => exact fun b hb => hb
      | blk _ _ _ => cases h1
      | row _ _ _ _ => cases h1
      | obj _ _ => cases h1
      | frz _ _ => cases h1
      | abs _ _ => cases h1
  | q :: r, k, j + 1, o, h, hj, hne => by
    simp only [bareB, Bool.and_eq_true] at h
    exact bareB_spec (k := k + 1) h.2 (by simpa using hj) (by omega)
section rules
variable {nt : Nat} {w : World} {env : Env} {own : Own} {dfs : List Deferred} {K : Exit → St → Prop}
theorem wk_kill {B : Bas} (i : Nat) {n T : Nat} {cs : List Value} (hi : nth own i = some (.blk n T cs)) {own' : Own} (hw : own.set i (.dead (some ⟨n, 0, none⟩)) = own') : Wk B nt ⟨env, own, dfs⟩ ⟨env, own', dfs⟩ := fun a W h => by
  rw [nth_eq] at hi
  rw [← hw]
  exact h.keep (OLe.set (o' := .dead (some ⟨n, 0, none⟩)) hi rfl) (h.mem.kill i _)
def noRefB (i : Nat) : Env → Bool
  | [] => true
  | (_, .v _) :: r => noRefB i r
  | (_, .p j _) :: r => !(Nat.beq j i) && noRefB i r
  | (_, .s j _ _ _) :: r => !(Nat.beq j i) && noRefB i r
theorem noRef_den {i : Nat} {o : OB} : ∀ {l : Env}, noRefB i l = true → ∀ {d : Nat} {e : EV}, eget l d = some e → ∀ {u : Value}, Den own e u → Den (own.set i o) e u
  | [], _, d, e, h, _, _ => by simp [eget] at h
  | (k, q) :: r, hn, d, e, h, u, hd => by
    have hr : noRefB i r = true := by cases q <;> simp [noRefB] at hn <;> first | exact hn | exact hn.2
    by_cases hk : k = d
    · subst hk
      rw [eget_cons_self] at h; cases h
      cases q with
      | v x => exact hd
      | p j off =>
        simp [noRefB] at hn
        obtain ⟨o', b, lo, h1, h2⟩ := hd
        exact ⟨o', b, lo, by rw [List.getElem?_set_ne (fun e => by rw [e] at hn; simp at hn)]; exact h1, h2⟩
      | s j off n c =>
        simp [noRefB] at hn
        obtain ⟨o', a', h1, h2⟩ := hd
        exact ⟨o', a', by rw [List.getElem?_set_ne (fun e => by rw [e] at hn; simp at hn)]; exact h1, h2⟩
    · rw [eget_cons_ne hk] at h
      exact noRef_den hr h hd
/-- A new builder. -/
theorem wk_builder (i : Nat) {d n : Nat} (hi : nth own i = some (.blk n 58 [.pointer none, .slice none 0 0])) (hno : noRefB i env = true)
    {own' : Own} (hw : own.set i (.abs (fun b => b = n) (IsBd w.heap.size n [])) = own') : Wk (Bas.of w) nt ⟨(d, .p i 0) :: env, own, dfs⟩ ⟨(d, .v (.pointer (some ⟨n, 0, none⟩))) :: env, own', dfs⟩ := fun a W hr => by
  have hptr : a.tmps.getD d undef = .pointer (some ⟨n, 0, none⟩) := (hr.env d _ eget_cons_self).blk (by rw [← nth_eq]; exact hi)
  rw [nth_eq] at hi
  have hri := hr.mem.at hi
  have hbd : ∀ W' : World, W'.heap[n]? = W.heap[n]? → IsBd w.heap.size n [] W' := fun W' h => .inl ⟨hri.1.resolve_right fun x => x, .slice none 0 0, h.trans hri.2, ⟨rfl, .inl ⟨rfl, rfl⟩⟩, by simp [Value.ownBlock]⟩
  rw [← hw]
  refine ⟨hr.size, hr.defers, fun d' e he' => ?_, hr.mem.upd hi (fun b hb => hb) hr.mem.ext (Nat.le_refl _) (fun _ _ _ => rfl) ⟨fun b hb => by cases hb; exact ⟨hri.1, lt_of_heap hri.2⟩, hbd W rfl, fun W' hx hs hb => hbd W' (hb n rfl)⟩⟩
  by_cases hdd : d = d'
  · subst hdd
    rw [eget_cons_self] at he'; cases he'
    exact hptr
  · rw [eget_cons_ne hdd] at he'
    have h1 := hr.env d' e (by rw [eget_cons_ne hdd]; exact he')
    exact noRef_den hno he' h1
theorem mem_builder {W W' : World} {i b : Nat} {l : Bs} {f : Nat → Prop} (hm : Mem (Bas.of w) own W) (hi : own[i]? = some (.abs f (IsBd w.heap.size b l))) (hb : bareB 0 own i = true) {l' : Bs} (h : IsBd w.heap.size b l' W') (hx : Below w.heap.size W W') :
    Mem (Bas.of w) (own.set i (.abs (fun k => w.heap.size ≤ k ∧ k < W'.heap.size) (IsBd w.heap.size b l'))) W' := by
  have hl := (List.getElem?_eq_some_iff.1 hi).1
  have hext : ExtG (Bas.of w) W' := ⟨hx.os.trans hm.ext.os, hx.tape.trans hm.ext.tape, hx.output.trans hm.ext.output, Nat.le_trans hm.ext.size hx.size, trivial, fun k hk hg => (hx.block k hk).trans (hm.ext.block k hk hg)⟩
  refine ⟨hext, fun q hq => ?_, pairwise_of fun x y q q' hxq hyq hxy => ?_⟩
  · obtain ⟨j, hj⟩ := List.getElem?_of_mem hq
    by_cases e : i = j
    · subst e
      rw [List.getElem?_set_self hl] at hj; cases hj
      exact ⟨fun k hk => ⟨.inl hk.1, hk.2⟩, h, fun W2 _ _ hk => isBd_kept h fun k h1 h2 => hk k ⟨h1, h2⟩⟩
    · rw [List.getElem?_set_ne e] at hj
      exact (hm.at hj).keep hext hx.size fun k hk => absurd hk (bareB_spec hb hj (by omega) k)
  · have key : ∀ (j : Nat) (q : OB), j ≠ i → (own.set i (.abs (fun k => w.heap.size ≤ k ∧ k < W'.heap.size) (IsBd w.heap.size b l')))[j]? = some q → ∀ k, ¬ q.fp k := fun j q hne hj => by
      rw [List.getElem?_set_ne (Ne.symm hne)] at hj
      exact bareB_spec hb hj (by omega)
    intro k hk hk'
    by_cases e : x = i
    · exact key y q' (fun h => hxy (e.trans h.symm)) hyq k hk'
    · exact key x q e hxq k hk
/-- WriteString. -/
theorem ox_wstr {N : St → Prop} {d : Nat} {ty : TypeId} {pos : String} {af : Array Edge} {g : Option (Nat × Bool)} (i : Nat) {x y : Operand} {b : Nat} {l u : Bs} {f : Nat → Prop} {at_ : Array TypeId} (hx : ev env x = some (.v (.pointer (some ⟨b, 0, none⟩)))) (hy : ev env y = some (.v (strV u))) (hi : nth own i = some (.abs f (IsBd w.heap.size b l))) (hb : bareB 0 own i = true) (he : Enters C.P 26) (hlen : l.length + u.length ≤ 140737488355328) (hd : Nat.blt d nt = true)
    {own' : (Nat → Prop) → Own} (hw : ∀ f', forceK (own.set i (.abs f' (IsBd w.heap.size b (l ++ u)))) some = some (own' f')) (hN : ∀ f', N ⟨(d, .v (.tuple #[.int .i64 (u.length : Int), .nilIface])) :: env, own' f', dfs⟩) :
    OX C (Bas.of w) nt [] ⟨some d, .call ⟨.value (.func 26), ⟨[x, y]⟩, at_⟩, ty, pos, af, g⟩ N ⟨env, own, dfs⟩ := by
  intro a W Z hr hz nxt Q hn
  unfold Oper.wp
  rw [run_call (first := #[]) (cap := #[]) hr rfl he rfl _ rfl, Oper.upon_enter]
  have h1 : a.eval x = .pointer (some ⟨b, 0, none⟩) := hr.at hx
  have h2 : a.eval y = strV u := hr.at hy
  rw [nth_eq] at hi
  have hri := hr.mem.at hi
  have hcall := wstr_c w.heap.size b l u W hri.2.1 hlen hr.mem.ext.size
  rw [show (#[] : Array Value) ++ ([x, y].map a.eval).toArray ++ #[] = #[.pointer (some ⟨b, 0, none⟩), strV u] by simp [h1, h2]]
  refine hcall.mono ?_
  rintro e W' ⟨rfl, hbd, hbel⟩
  have hm := mem_builder hr.mem hi hb hbd hbel
  have hww := hw (fun k => w.heap.size ≤ k ∧ k < W'.heap.size)
  rw [forceK_eq] at hww
  have hww := Option.some.inj hww
  have hNf := hN (fun k => w.heap.size ≤ k ∧ k < W'.heap.size)
  rw [hww] at hm
  have hZ : ∀ k, ¬ Z k := fun k hk => by
    obtain ⟨j, hj, _⟩ := (hz.2 k).1 hk
    simp at hj
  refine hn _ _ _ hNf (hr.put (by simpa using hd) _ _ (by rw [← hww]; exact OLe.set hi rfl) rfl hm) ?_ ⟨fun h => absurd h (by simp [kind]), fun _ => ⟨hm.ext, hbel.size⟩, fun _ k hk _ => (hk.elim (hZ k) (fun h => by simp [isNew, quietF] at h)).elim⟩
  exact ⟨fun j hj => by simp at hj, fun k => ⟨fun hk => absurd hk (hZ k), fun ⟨j, hj, _⟩ => by simp at hj⟩⟩
/-- String: the builder is told no more. -/
theorem ox_bstr {N : St → Prop} {d : Nat} {ty : TypeId} {pos : String} {af : Array Edge} {g : Option (Nat × Bool)} (i : Nat) {x : Operand} {b : Nat} {l : Bs} {f : Nat → Prop} {at_ : Array TypeId} (hx : ev env x = some (.v (.pointer (some ⟨b, 0, none⟩)))) (hi : nth own i = some (.abs f (IsBd w.heap.size b l))) (hb : bareB 0 own i = true) (he : Enters C.P 27) (hd : Nat.blt d nt = true)
    {own' : Own} (hw : forceK (own.set i (.dead none)) some = some own') (hN : N ⟨(d, .v (strV l)) :: env, own', dfs⟩) :
    OX C (Bas.of w) nt [] ⟨some d, .call ⟨.value (.func 27), ⟨[x]⟩, at_⟩, ty, pos, af, g⟩ N ⟨env, own, dfs⟩ := by
  intro a W Z hr hz nxt Q hn
  unfold Oper.wp
  rw [run_call (first := #[]) (cap := #[]) hr rfl he rfl _ rfl, Oper.upon_enter]
  have h1 : a.eval x = .pointer (some ⟨b, 0, none⟩) := hr.at hx
  rw [nth_eq] at hi
  have hri := hr.mem.at hi
  have hcall := bstr_c w.heap.size b l W hri.2.1 hr.mem.ext.size
  rw [show (#[] : Array Value) ++ ([x].map a.eval).toArray ++ #[] = #[.pointer (some ⟨b, 0, none⟩)] by simp [h1]]
  refine hcall.mono ?_
  rintro e W' ⟨rfl, hbel⟩
  rw [forceK_eq] at hw
  have hw := Option.some.inj hw
  have hext : ExtG (Bas.of w) W' := ⟨hbel.os.trans hr.mem.ext.os, hbel.tape.trans hr.mem.ext.tape, hbel.output.trans hr.mem.ext.output, Nat.le_trans hr.mem.ext.size hbel.size, trivial, fun k hk hg => (hbel.block k hk).trans (hr.mem.ext.block k hk hg)⟩
  have hl := (List.getElem?_eq_some_iff.1 hi).1
  have key : ∀ (j : Nat) (q : OB), (own.set i (.dead none))[j]? = some q → (∀ k, ¬ q.fp k) ∧ Reg (Bas.of w) W' q := fun j q hj => by
    by_cases e : i = j
    · subst e
      rw [List.getElem?_set_self hl] at hj; cases hj
      exact ⟨fun _ h => h, trivial⟩
    · rw [List.getElem?_set_ne e] at hj
      have hf := bareB_spec hb hj (by omega)
      exact ⟨hf, (hr.mem.at hj).keep hext hbel.size fun k hk => absurd hk (hf k)⟩
  have hm : Mem (Bas.of w) own' W' := by
    rw [← hw]
    refine ⟨hext, fun q hq => ?_, pairwise_of fun x y q q' hxq _ _ k hk => absurd hk ((key x q hxq).1 k)⟩
    obtain ⟨j, hj⟩ := List.getElem?_of_mem hq
    exact (key j q hj).2
  have hZ : ∀ k, ¬ Z k := fun k hk => by
    obtain ⟨j, hj, _⟩ := (hz.2 k).1 hk
    simp at hj
  refine hn _ _ _ hN (hr.put (by simpa using hd) _ _ (by rw [← hw]; exact OLe.set hi rfl) rfl hm) ?_ ⟨fun h => absurd h (by simp [kind]), fun _ => ⟨hm.ext, hbel.size⟩, fun _ k hk _ => (hk.elim (hZ k) (fun h => by simp [isNew, quietF] at h)).elim⟩
  exact ⟨fun j hj => by simp at hj, fun k => ⟨fun hk => absurd hk (hZ k), fun ⟨j, hj, _⟩ => by simp at hj⟩⟩
end rules
/-! ### printing -/
/-- A row of events in memory. -/
structure RowAt (W : World) (s : Sv) (E : List Ev) (L : List Evn) : Prop where
  n : s.n = E.length
  c : E.length ≤ s.c
  a : s.c ≠ 0 → ∃ b lo, s.a = some ⟨b, lo, none⟩
  r : RdS W s.a (encs Ev.e E)
  e : EvsAt W E L
def prT (L : List Evn) : Bs × Int := if 2048 < L.length then ([], 3) else (printT L, 0)
structure Okl (L : List Evn) : Prop where
  b : ∀ x ∈ L, x.Bd ∧ x.rs.length ≤ 1000000
theorem printT_len : ∀ (L : List Evn), (∀ x ∈ L, x.Bd ∧ x.rs.length ≤ 1000000) → (printT L).length ≤ L.length * 44000300
  | [], _ => by simp [printT]
  | x :: L, h => by
    have h1 := line_len (h x (by simp)).1
    have h2 := (h x (by simp)).2
    have ih := printT_len L fun y hy => h y (by simp [hy])
    rw [printT_cons, List.length_append, List.length_cons, List.length_cons, Nat.succ_mul]
    have : (x.rs.length + 5) * 44 ≤ 44000220 := by omega
    omega
theorem printT_take {L : List Evn} {j : Nat} (h : j < L.length) : printT (L.take (j + 1)) = printT (L.take j) ++ (lineT L[j] ++ [10]) := by
  rw [List.take_succ_eq_append_getElem h, printT_snoc]
attribute [local irreducible] JC JL OX OV Kthen Kblock JR FendG
attribute [local irreducible] Lib.cut spl evOf footE lineT
theorem print_c (s : Sv) (E : List Ev) (L : List Evn) (hb : ∀ x ∈ L, x.Bd ∧ x.rs.length ≤ 1000000) (hE : E.length ≤ 1000000) (w : World) (hG : Gl w) (hr : RowAt w s E L) : Calls C.P 15 [.slice s.a E.length s.c].toArray w (PV w (.tuple #[strV (prT L).1, .int .i64 (prT L).2])) := by
  have hl := hr.e.len
  have hcap := hr.c
  have hadr := hr.a
  have her := hr.r
  have hev := hr.e
  obtain ⟨a0, sn, sc⟩ := s
  dsimp only at hcap hadr her ⊢
  refine calls_v Tryd.func15 rfl _ Tryd.ntmps15 rfl ?_
  refine jc_wk (wk_push (o := .ro a0 (encs Ev.e E)) (fun W _ => ro_base her W) (fun _ h => h) rfl) ?_
  refine jc_unname_ro 0 0 rfl rfl hadr ?_
  repeat' (first | (guard_target =~ JL _ _ _ _ _ _ _ _; first | refine jl_nil ?_ | refine jl_same rfl rfl rfl rfl rfl ?_ | refine jl_v rfl rfl rfl rfl (ov_int rfl rfl (by simp only [inK]; omega)) ?_ | refine jl_p rfl rfl rfl rfl rfl ?_ | refine jl_s rfl rfl rfl ?_ | refine jl_st rfl rfl rfl rfl ?_ | refine jl_n rfl rfl rfl rfl rfl (fun n => rfl) (fun n => ?_) | ((fail_if_success (refine jl_gt rfl ?_)); first | (refine jl_split_lt rfl rfl rfl (fun hc => ?_) (fun hc => ?_)) | (refine jl_split_ge rfl rfl rfl (fun hc => ?_) (fun hc => ?_)) | (refine jl_split_eq rfl rfl rfl (fun hc => ?_) (fun hc => ?_)) | (refine jl_split_ne rfl rfl rfl (fun hc => ?_) (fun hc => ?_)) | (refine jl_split rfl rfl rfl (fun hc => ?_) (fun hc => ?_)))) | (guard_target =~ JO _ _ _ _ _ _ _ _; first | refine JO.nil ?_ | refine JO.fork ?_ ?_ | refine jo_same rfl rfl rfl rfl rfl rfl ?_ | refine jo_v rfl rfl rfl rfl rfl (ov_int rfl rfl (by simp only [inK]; omega)) ?_ | refine jo_p rfl rfl rfl rfl rfl rfl ?_ | refine jo_s rfl rfl rfl rfl ?_ | refine jo_st rfl rfl rfl rfl rfl rfl ?_ | refine jo_n rfl rfl rfl rfl rfl rfl (fun n => rfl) (fun n => ?_) | ((fail_if_success (refine jo_gt rfl rfl ?_)); first | (refine jo_split_lt rfl rfl rfl rfl (fun hc => ?_) (fun hc => ?_)) | (refine jo_split_ge rfl rfl rfl rfl (fun hc => ?_) (fun hc => ?_)) | (refine jo_split_eq rfl rfl rfl rfl (fun hc => ?_) (fun hc => ?_)) | (refine jo_split_ne rfl rfl rfl rfl (fun hc => ?_) (fun hc => ?_)) | (refine jo_split rfl rfl rfl rfl (fun hc => ?_) (fun hc => ?_)))) | (guard_target =~ JC _ _ _ _ _ _ _; first | refine jc_seq ?_ | refine jc_region ?_ | refine jc_drawn (by kernel_rfl) rfl ?_ | refine jc_cond_t rfl ?_ | refine jc_cond_f rfl ?_ | refine jc_cond_lt rfl (fun hc => ?_) (fun hc => ?_) | refine jc_cond_ge rfl (fun hc => ?_) (fun hc => ?_) | refine jc_cond_eq rfl (fun hc => ?_) (fun hc => ?_) | refine jc_cond_ne rfl (fun hc => ?_) (fun hc => ?_) | refine jc_cond rfl (fun hc => ?_) (fun hc => ?_) | refine jc_skip ?_ | refine jc_ret ?_ | refine jc_exit ?_ | refine jc_block ?_) | (guard_target =~ Kthen _ _ _ _; first | refine k_then ?_ | refine k_then_r ?_ | refine k_then_e ?_) | (guard_target =~ Kblock _ _ _ _; first | refine k_block_n ?_ | refine k_block_r ?_ | refine k_block_hit ?_ | refine k_block_miss rfl ?_) | (guard_target =~ JR _ _ _ _ _ _ _ _; refine jr_step ?_))
  · refine fin2 (.inr rfl) rfl (ris rfl) (ris rfl) (fin_pv ?_)
    unfold prT
    rw [if_pos (by omega)]
    rfl
  have hn : L.length ≤ 2048 := by omega
  refine jc_wk (τ := ⟨[(4, .p 1 0), (12, .v (.int .i64 0)), (11, .v (.int .i64 (E.length : Int))), (10, .s 0 0 E.length sc)], [.ro a0 (encs Ev.e E), .blk n 58 [.pointer none, .slice none 0 0]], []⟩) (wk [0, 1] rfl rfl (by repeat' (first | exact EnvIn.nil | refine EnvIn.cons rfl rfl ?_))) ?_
  refine jc_wk (wk_builder 1 rfl rfl rfl) ?_
  refine jc_inv (fun z : Nat × Bs × (Nat → Prop) => ⟨[(12, .v (.int .i64 z.1)), (11, .v (.int .i64 (E.length : Int))), (10, .s 0 0 E.length sc), (4, .v (.pointer (some ⟨n, 0, none⟩)))], [.ro a0 (encs Ev.e E), .abs z.2.2 (IsBd w.heap.size n z.2.1)], []⟩) (fun z => z.1 ≤ L.length ∧ z.2.1 = printT (L.take z.1)) (fun z => L.length - z.1) (0, [], _) ⟨Nat.zero_le _, rfl⟩ (wk [0, 1] rfl rfl (by repeat' (first | exact EnvIn.nil | refine EnvIn.cons rfl rfl ?_))) ?_
  rintro ⟨j, t, f⟩ ⟨hj, ht⟩
  dsimp only at hj ht ⊢
  have htl : t.length ≤ 2048 * 44000300 := by
    have := printT_len (L.take j) fun x hx => hb x (List.mem_of_mem_take hx)
    rw [← ht, List.length_take, Nat.min_eq_left hj] at this
    exact Nat.le_trans this (Nat.mul_le_mul_right _ (by omega))
  by_cases hlt : j < L.length
  · have hx := hb _ (List.getElem_mem hlt)
    have hll := line_len hx.1
    have hjE : j < E.length := by omega
    have hC : ∀ W, Ext w W → Calls C.P 14 [(E[j]).g].toArray W (PV W (strV (lineT L[j]))) := fun W hx' => line_c E[j] L[j] hx.1 hx.2 W (hG.ext hx') ((hev.ext hx').get j hjE hlt)
    generalize hLj : lineT L[j] = u at hC hll
    repeat' (first | (guard_target =~ JL _ _ _ _ _ _ _ _; first | refine jl_v rfl rfl rfl rfl (ov_cat u [10] rfl rfl (by simp; omega)) ?_ | refine jl_nil ?_ | refine jl_same rfl rfl rfl rfl rfl ?_ | refine jl_v rfl rfl rfl rfl (ov_int rfl rfl (by simp only [inK]; omega)) ?_ | refine jl_p rfl rfl rfl rfl rfl ?_ | refine jl_s rfl rfl rfl ?_ | refine jl_st rfl rfl rfl rfl ?_ | refine jl_n rfl rfl rfl rfl rfl (fun n => rfl) (fun n => ?_) | refine jl_v rfl rfl rfl rfl (ov_index rfl rfl rfl rfl rfl (by first | omega | (simp only []; omega)) (by first | omega | (simp only []; omega))) ?_ | refine jl_v rfl rfl rfl rfl (ov_load rfl rfl rfl (at0 Ev.el (by first | omega | (simp only []; omega))) rfl rfl) ?_ | refine jl_x rfl rfl (ox_pvm 14 ((fun W hm => hC W hm.ext.to)) rfl rfl rfl rfl (fun _ _ => by kernel_rfl) ?_) | refine jl_wk (wk_kill 2 rfl rfl) ?_ | refine jl_x rfl rfl (ox_wstr 1 (u := u ++ [10]) rfl rfl rfl rfl (fun _ _ => by kernel_rfl) (by simp; omega) rfl (fun _ => rfl) (fun f' => ?_)) | ((fail_if_success (refine jl_gt rfl ?_)); first | (refine jl_split_lt rfl rfl rfl (fun hc => ?_) (fun hc => ?_)) | (refine jl_split_ge rfl rfl rfl (fun hc => ?_) (fun hc => ?_)) | (refine jl_split_eq rfl rfl rfl (fun hc => ?_) (fun hc => ?_)) | (refine jl_split_ne rfl rfl rfl (fun hc => ?_) (fun hc => ?_)) | (refine jl_split rfl rfl rfl (fun hc => ?_) (fun hc => ?_)))) | (guard_target =~ JO _ _ _ _ _ _ _ _; first | refine jo_v rfl rfl rfl rfl rfl (ov_cat u [10] rfl rfl (by simp; omega)) ?_ | refine JO.nil ?_ | refine JO.fork ?_ ?_ | refine jo_same rfl rfl rfl rfl rfl rfl ?_ | refine jo_v rfl rfl rfl rfl rfl (ov_int rfl rfl (by simp only [inK]; omega)) ?_ | refine jo_p rfl rfl rfl rfl rfl rfl ?_ | refine jo_s rfl rfl rfl rfl ?_ | refine jo_st rfl rfl rfl rfl rfl rfl ?_ | refine jo_n rfl rfl rfl rfl rfl rfl (fun n => rfl) (fun n => ?_) | refine jo_v rfl rfl rfl rfl rfl (ov_index rfl rfl rfl rfl rfl (by first | omega | (simp only []; omega)) (by first | omega | (simp only []; omega))) ?_ | refine jo_v rfl rfl rfl rfl rfl (ov_load rfl rfl rfl (at0 Ev.el (by first | omega | (simp only []; omega))) rfl rfl) ?_ | refine jo_x rfl rfl rfl (ox_pvm 14 ((fun W hm => hC W hm.ext.to)) rfl rfl rfl rfl (fun _ _ => by kernel_rfl) ?_) | ((fail_if_success (refine jo_gt rfl rfl ?_)); first | (refine jo_split_lt rfl rfl rfl rfl (fun hc => ?_) (fun hc => ?_)) | (refine jo_split_ge rfl rfl rfl rfl (fun hc => ?_) (fun hc => ?_)) | (refine jo_split_eq rfl rfl rfl rfl (fun hc => ?_) (fun hc => ?_)) | (refine jo_split_ne rfl rfl rfl rfl (fun hc => ?_) (fun hc => ?_)) | (refine jo_split rfl rfl rfl rfl (fun hc => ?_) (fun hc => ?_)))) | (guard_target =~ JC _ _ _ _ _ _ _; first | (exfalso; omega) | refine jc_seq ?_ | refine jc_region ?_ | refine jc_drawn (by kernel_rfl) rfl ?_ | refine jc_cond_t rfl ?_ | refine jc_cond_f rfl ?_ | refine jc_cond_lt rfl (fun hc => ?_) (fun hc => ?_) | refine jc_cond_ge rfl (fun hc => ?_) (fun hc => ?_) | refine jc_cond_eq rfl (fun hc => ?_) (fun hc => ?_) | refine jc_cond_ne rfl (fun hc => ?_) (fun hc => ?_) | refine jc_cond rfl (fun hc => ?_) (fun hc => ?_) | refine jc_skip ?_ | refine jc_ret ?_ | refine jc_exit ?_ | refine jc_block ?_) | (guard_target =~ Kthen _ _ _ _; first | refine k_then ?_ | refine k_then_r ?_ | refine k_then_e ?_) | (guard_target =~ Kblock _ _ _ _; first | refine k_block_n ?_ | refine k_block_r ?_ | refine k_block_hit ?_ | refine k_block_miss rfl ?_) | (guard_target =~ JR _ _ _ _ _ _ _ _; refine jr_step ?_))
    refine ⟨(j + 1, _, f'), ⟨by dsimp only; omega, ?_⟩, by dsimp only; omega, (wk [0, 1] rfl rfl (by repeat' (first | exact EnvIn.nil | refine EnvIn.cons rfl rfl ?_)))⟩
    dsimp only
    rw [printT_take hlt, ht, hLj]
  · repeat' (first | (guard_target =~ JL _ _ _ _ _ _ _ _; first | refine jl_nil ?_ | refine jl_same rfl rfl rfl rfl rfl ?_ | refine jl_v rfl rfl rfl rfl (ov_int rfl rfl (by simp only [inK]; omega)) ?_ | refine jl_p rfl rfl rfl rfl rfl ?_ | refine jl_s rfl rfl rfl ?_ | refine jl_st rfl rfl rfl rfl ?_ | refine jl_n rfl rfl rfl rfl rfl (fun n => rfl) (fun n => ?_) | refine jl_x rfl rfl (ox_bstr 1 rfl rfl rfl (fun _ _ => by kernel_rfl) rfl rfl ?_) | ((fail_if_success (refine jl_gt rfl ?_)); first | (refine jl_split_lt rfl rfl rfl (fun hc => ?_) (fun hc => ?_)) | (refine jl_split_ge rfl rfl rfl (fun hc => ?_) (fun hc => ?_)) | (refine jl_split_eq rfl rfl rfl (fun hc => ?_) (fun hc => ?_)) | (refine jl_split_ne rfl rfl rfl (fun hc => ?_) (fun hc => ?_)) | (refine jl_split rfl rfl rfl (fun hc => ?_) (fun hc => ?_)))) | (guard_target =~ JO _ _ _ _ _ _ _ _; first | refine JO.nil ?_ | refine JO.fork ?_ ?_ | refine jo_same rfl rfl rfl rfl rfl rfl ?_ | refine jo_v rfl rfl rfl rfl rfl (ov_int rfl rfl (by simp only [inK]; omega)) ?_ | refine jo_p rfl rfl rfl rfl rfl rfl ?_ | refine jo_s rfl rfl rfl rfl ?_ | refine jo_st rfl rfl rfl rfl rfl rfl ?_ | refine jo_n rfl rfl rfl rfl rfl rfl (fun n => rfl) (fun n => ?_) | ((fail_if_success (refine jo_gt rfl rfl ?_)); first | (refine jo_split_lt rfl rfl rfl rfl (fun hc => ?_) (fun hc => ?_)) | (refine jo_split_ge rfl rfl rfl rfl (fun hc => ?_) (fun hc => ?_)) | (refine jo_split_eq rfl rfl rfl rfl (fun hc => ?_) (fun hc => ?_)) | (refine jo_split_ne rfl rfl rfl rfl (fun hc => ?_) (fun hc => ?_)) | (refine jo_split rfl rfl rfl rfl (fun hc => ?_) (fun hc => ?_)))) | (guard_target =~ JC _ _ _ _ _ _ _; first | (exfalso; omega) | refine jc_seq ?_ | refine jc_region ?_ | refine jc_drawn (by kernel_rfl) rfl ?_ | refine jc_cond_t rfl ?_ | refine jc_cond_f rfl ?_ | refine jc_cond_lt rfl (fun hc => ?_) (fun hc => ?_) | refine jc_cond_ge rfl (fun hc => ?_) (fun hc => ?_) | refine jc_cond_eq rfl (fun hc => ?_) (fun hc => ?_) | refine jc_cond_ne rfl (fun hc => ?_) (fun hc => ?_) | refine jc_cond rfl (fun hc => ?_) (fun hc => ?_) | refine jc_skip ?_ | refine jc_ret ?_ | refine jc_exit ?_ | refine jc_block ?_) | (guard_target =~ Kthen _ _ _ _; first | refine k_then ?_ | refine k_then_r ?_ | refine k_then_e ?_) | (guard_target =~ Kblock _ _ _ _; first | refine k_block_n ?_ | refine k_block_r ?_ | refine k_block_hit ?_ | refine k_block_miss rfl ?_) | (guard_target =~ JR _ _ _ _ _ _ _ _; refine jr_step ?_))
    refine fin2 (.inr rfl) rfl (ris rfl) (ris rfl) (fin_pv ?_)
    unfold prT
    rw [if_neg (by omega), ht, List.take_of_length_le (by omega)]
theorem rprint_c (s : Sv) (E : List Ev) (L : List Evn) (hb : ∀ x ∈ L, x.Bd ∧ x.rs.length ≤ 1000000) (hE : E.length ≤ 1000000) (w : World) (hG : Gl w) (hr : RowAt w s E L) : Calls C.P 16 [.slice s.a E.length s.c].toArray w (PV w (.tuple #[strV (prT L).1, .int .i64 (prT L).2])) := by
  have hl := hr.e.len
  have hcap := hr.c
  have hadr := hr.a
  have her := hr.r
  have hev := hr.e
  obtain ⟨a0, sn, sc⟩ := s
  dsimp only at hcap hadr her ⊢
  refine calls_v Tryd.func16 rfl _ Tryd.ntmps16 rfl ?_
  refine jc_wk (wk_push (o := .ro a0 (encs Ev.e E)) (fun W _ => ro_base her W) (fun _ h => h) rfl) ?_
  refine jc_unname_ro 0 0 rfl rfl hadr ?_
  repeat' (first | (guard_target =~ JL _ _ _ _ _ _ _ _; first | refine jl_nil ?_ | refine jl_same rfl rfl rfl rfl rfl ?_ | refine jl_v rfl rfl rfl rfl (ov_int rfl rfl (by simp only [inK]; omega)) ?_ | refine jl_p rfl rfl rfl rfl rfl ?_ | refine jl_s rfl rfl rfl ?_ | refine jl_st rfl rfl rfl rfl ?_ | refine jl_n rfl rfl rfl rfl rfl (fun n => rfl) (fun n => ?_) | ((fail_if_success (refine jl_gt rfl ?_)); first | (refine jl_split_lt rfl rfl rfl (fun hc => ?_) (fun hc => ?_)) | (refine jl_split_ge rfl rfl rfl (fun hc => ?_) (fun hc => ?_)) | (refine jl_split_eq rfl rfl rfl (fun hc => ?_) (fun hc => ?_)) | (refine jl_split_ne rfl rfl rfl (fun hc => ?_) (fun hc => ?_)) | (refine jl_split rfl rfl rfl (fun hc => ?_) (fun hc => ?_)))) | (guard_target =~ JO _ _ _ _ _ _ _ _; first | refine JO.nil ?_ | refine JO.fork ?_ ?_ | refine jo_same rfl rfl rfl rfl rfl rfl ?_ | refine jo_v rfl rfl rfl rfl rfl (ov_int rfl rfl (by simp only [inK]; omega)) ?_ | refine jo_p rfl rfl rfl rfl rfl rfl ?_ | refine jo_s rfl rfl rfl rfl ?_ | refine jo_st rfl rfl rfl rfl rfl rfl ?_ | refine jo_n rfl rfl rfl rfl rfl rfl (fun n => rfl) (fun n => ?_) | ((fail_if_success (refine jo_gt rfl rfl ?_)); first | (refine jo_split_lt rfl rfl rfl rfl (fun hc => ?_) (fun hc => ?_)) | (refine jo_split_ge rfl rfl rfl rfl (fun hc => ?_) (fun hc => ?_)) | (refine jo_split_eq rfl rfl rfl rfl (fun hc => ?_) (fun hc => ?_)) | (refine jo_split_ne rfl rfl rfl rfl (fun hc => ?_) (fun hc => ?_)) | (refine jo_split rfl rfl rfl rfl (fun hc => ?_) (fun hc => ?_)))) | (guard_target =~ JC _ _ _ _ _ _ _; first | refine jc_seq ?_ | refine jc_region ?_ | refine jc_drawn (by kernel_rfl) rfl ?_ | refine jc_cond_t rfl ?_ | refine jc_cond_f rfl ?_ | refine jc_cond_lt rfl (fun hc => ?_) (fun hc => ?_) | refine jc_cond_ge rfl (fun hc => ?_) (fun hc => ?_) | refine jc_cond_eq rfl (fun hc => ?_) (fun hc => ?_) | refine jc_cond_ne rfl (fun hc => ?_) (fun hc => ?_) | refine jc_cond rfl (fun hc => ?_) (fun hc => ?_) | refine jc_skip ?_ | refine jc_ret ?_ | refine jc_exit ?_ | refine jc_block ?_) | (guard_target =~ Kthen _ _ _ _; first | refine k_then ?_ | refine k_then_r ?_ | refine k_then_e ?_) | (guard_target =~ Kblock _ _ _ _; first | refine k_block_n ?_ | refine k_block_r ?_ | refine k_block_hit ?_ | refine k_block_miss rfl ?_) | (guard_target =~ JR _ _ _ _ _ _ _ _; refine jr_step ?_))
  · refine fin2 (.inr rfl) rfl (ris rfl) (ris rfl) (fin_pv ?_)
    unfold prT
    rw [if_pos (by omega)]
    rfl
  have hn : L.length ≤ 2048 := by omega
  refine jc_inv (fun z : Nat × Bs => ⟨[(5, .v (.int .i64 z.1)), (4, .v (strV z.2)), (0, .s 0 0 E.length sc)], [.ro a0 (encs Ev.e E)], []⟩) (fun z => z.1 ≤ L.length ∧ z.2 = printT (L.take z.1)) (fun z => L.length - z.1) (0, []) ⟨Nat.zero_le _, rfl⟩ (wk [0] rfl rfl (by repeat' (first | exact EnvIn.nil | refine EnvIn.cons rfl rfl ?_))) ?_
  rintro ⟨j, t⟩ ⟨hj, ht⟩
  dsimp only at hj ht ⊢
  have htl : t.length ≤ 2048 * 44000300 := by
    have := printT_len (L.take j) fun x hx => hb x (List.mem_of_mem_take hx)
    rw [← ht, List.length_take, Nat.min_eq_left hj] at this
    exact Nat.le_trans this (Nat.mul_le_mul_right _ (by omega))
  by_cases hlt : j < L.length
  · have hx := hb _ (List.getElem_mem hlt)
    have hll := line_len hx.1
    have hjE : j < E.length := by omega
    have hC : ∀ W, Ext w W → Calls C.P 17 [(E[j]).g].toArray W (PV W (strV (lineT L[j]))) := fun W hx' => rline_c E[j] L[j] hx.1 hx.2 W (hG.ext hx') ((hev.ext hx').get j hjE hlt)
    generalize hLj : lineT L[j] = u at hC hll
    repeat' (first | (guard_target =~ JL _ _ _ _ _ _ _ _; first | refine jl_v rfl rfl rfl rfl (ov_cat t u rfl rfl (by omega)) ?_ | refine jl_v rfl rfl rfl rfl (ov_cat (t ++ u) [10] rfl rfl (by simp; omega)) ?_ | refine jl_nil ?_ | refine jl_same rfl rfl rfl rfl rfl ?_ | refine jl_v rfl rfl rfl rfl (ov_int rfl rfl (by simp only [inK]; omega)) ?_ | refine jl_p rfl rfl rfl rfl rfl ?_ | refine jl_s rfl rfl rfl ?_ | refine jl_st rfl rfl rfl rfl ?_ | refine jl_n rfl rfl rfl rfl rfl (fun n => rfl) (fun n => ?_) | refine jl_v rfl rfl rfl rfl (ov_index rfl rfl rfl rfl rfl (by first | omega | (simp only []; omega)) (by first | omega | (simp only []; omega))) ?_ | refine jl_v rfl rfl rfl rfl (ov_load rfl rfl rfl (at0 Ev.el (by first | omega | (simp only []; omega))) rfl rfl) ?_ | refine jl_x rfl rfl (ox_pvm 17 ((fun W hm => hC W hm.ext.to)) rfl rfl rfl rfl (fun _ _ => by kernel_rfl) ?_) | ((fail_if_success (refine jl_gt rfl ?_)); first | (refine jl_split_lt rfl rfl rfl (fun hc => ?_) (fun hc => ?_)) | (refine jl_split_ge rfl rfl rfl (fun hc => ?_) (fun hc => ?_)) | (refine jl_split_eq rfl rfl rfl (fun hc => ?_) (fun hc => ?_)) | (refine jl_split_ne rfl rfl rfl (fun hc => ?_) (fun hc => ?_)) | (refine jl_split rfl rfl rfl (fun hc => ?_) (fun hc => ?_)))) | (guard_target =~ JO _ _ _ _ _ _ _ _; first | refine jo_v rfl rfl rfl rfl rfl (ov_cat t u rfl rfl (by omega)) ?_ | refine jo_v rfl rfl rfl rfl rfl (ov_cat (t ++ u) [10] rfl rfl (by simp; omega)) ?_ | refine JO.nil ?_ | refine JO.fork ?_ ?_ | refine jo_same rfl rfl rfl rfl rfl rfl ?_ | refine jo_v rfl rfl rfl rfl rfl (ov_int rfl rfl (by simp only [inK]; omega)) ?_ | refine jo_p rfl rfl rfl rfl rfl rfl ?_ | refine jo_s rfl rfl rfl rfl ?_ | refine jo_st rfl rfl rfl rfl rfl rfl ?_ | refine jo_n rfl rfl rfl rfl rfl rfl (fun n => rfl) (fun n => ?_) | refine jo_v rfl rfl rfl rfl rfl (ov_index rfl rfl rfl rfl rfl (by first | omega | (simp only []; omega)) (by first | omega | (simp only []; omega))) ?_ | refine jo_v rfl rfl rfl rfl rfl (ov_load rfl rfl rfl (at0 Ev.el (by first | omega | (simp only []; omega))) rfl rfl) ?_ | refine jo_x rfl rfl rfl (ox_pvm 17 ((fun W hm => hC W hm.ext.to)) rfl rfl rfl rfl (fun _ _ => by kernel_rfl) ?_) | ((fail_if_success (refine jo_gt rfl rfl ?_)); first | (refine jo_split_lt rfl rfl rfl rfl (fun hc => ?_) (fun hc => ?_)) | (refine jo_split_ge rfl rfl rfl rfl (fun hc => ?_) (fun hc => ?_)) | (refine jo_split_eq rfl rfl rfl rfl (fun hc => ?_) (fun hc => ?_)) | (refine jo_split_ne rfl rfl rfl rfl (fun hc => ?_) (fun hc => ?_)) | (refine jo_split rfl rfl rfl rfl (fun hc => ?_) (fun hc => ?_)))) | (guard_target =~ JC _ _ _ _ _ _ _; first | (exfalso; omega) | refine jc_seq ?_ | refine jc_region ?_ | refine jc_drawn (by kernel_rfl) rfl ?_ | refine jc_cond_t rfl ?_ | refine jc_cond_f rfl ?_ | refine jc_cond_lt rfl (fun hc => ?_) (fun hc => ?_) | refine jc_cond_ge rfl (fun hc => ?_) (fun hc => ?_) | refine jc_cond_eq rfl (fun hc => ?_) (fun hc => ?_) | refine jc_cond_ne rfl (fun hc => ?_) (fun hc => ?_) | refine jc_cond rfl (fun hc => ?_) (fun hc => ?_) | refine jc_skip ?_ | refine jc_ret ?_ | refine jc_exit ?_ | refine jc_block ?_) | (guard_target =~ Kthen _ _ _ _; first | refine k_then ?_ | refine k_then_r ?_ | refine k_then_e ?_) | (guard_target =~ Kblock _ _ _ _; first | refine k_block_n ?_ | refine k_block_r ?_ | refine k_block_hit ?_ | refine k_block_miss rfl ?_) | (guard_target =~ JR _ _ _ _ _ _ _ _; refine jr_step ?_))
    refine ⟨(j + 1, _), ⟨by dsimp only; omega, ?_⟩, by dsimp only; omega, (wk [0] rfl rfl (by repeat' (first | exact EnvIn.nil | refine EnvIn.cons rfl rfl ?_)))⟩
    dsimp only
    rw [printT_take hlt, ht, hLj, List.append_assoc]
  · repeat' (first | (guard_target =~ JL _ _ _ _ _ _ _ _; first | refine jl_nil ?_ | refine jl_same rfl rfl rfl rfl rfl ?_ | refine jl_v rfl rfl rfl rfl (ov_int rfl rfl (by simp only [inK]; omega)) ?_ | refine jl_p rfl rfl rfl rfl rfl ?_ | refine jl_s rfl rfl rfl ?_ | refine jl_st rfl rfl rfl rfl ?_ | refine jl_n rfl rfl rfl rfl rfl (fun n => rfl) (fun n => ?_) | ((fail_if_success (refine jl_gt rfl ?_)); first | (refine jl_split_lt rfl rfl rfl (fun hc => ?_) (fun hc => ?_)) | (refine jl_split_ge rfl rfl rfl (fun hc => ?_) (fun hc => ?_)) | (refine jl_split_eq rfl rfl rfl (fun hc => ?_) (fun hc => ?_)) | (refine jl_split_ne rfl rfl rfl (fun hc => ?_) (fun hc => ?_)) | (refine jl_split rfl rfl rfl (fun hc => ?_) (fun hc => ?_)))) | (guard_target =~ JO _ _ _ _ _ _ _ _; first | refine JO.nil ?_ | refine JO.fork ?_ ?_ | refine jo_same rfl rfl rfl rfl rfl rfl ?_ | refine jo_v rfl rfl rfl rfl rfl (ov_int rfl rfl (by simp only [inK]; omega)) ?_ | refine jo_p rfl rfl rfl rfl rfl rfl ?_ | refine jo_s rfl rfl rfl rfl ?_ | refine jo_st rfl rfl rfl rfl rfl rfl ?_ | refine jo_n rfl rfl rfl rfl rfl rfl (fun n => rfl) (fun n => ?_) | ((fail_if_success (refine jo_gt rfl rfl ?_)); first | (refine jo_split_lt rfl rfl rfl rfl (fun hc => ?_) (fun hc => ?_)) | (refine jo_split_ge rfl rfl rfl rfl (fun hc => ?_) (fun hc => ?_)) | (refine jo_split_eq rfl rfl rfl rfl (fun hc => ?_) (fun hc => ?_)) | (refine jo_split_ne rfl rfl rfl rfl (fun hc => ?_) (fun hc => ?_)) | (refine jo_split rfl rfl rfl rfl (fun hc => ?_) (fun hc => ?_)))) | (guard_target =~ JC _ _ _ _ _ _ _; first | (exfalso; omega) | refine jc_seq ?_ | refine jc_region ?_ | refine jc_drawn (by kernel_rfl) rfl ?_ | refine jc_cond_t rfl ?_ | refine jc_cond_f rfl ?_ | refine jc_cond_lt rfl (fun hc => ?_) (fun hc => ?_) | refine jc_cond_ge rfl (fun hc => ?_) (fun hc => ?_) | refine jc_cond_eq rfl (fun hc => ?_) (fun hc => ?_) | refine jc_cond_ne rfl (fun hc => ?_) (fun hc => ?_) | refine jc_cond rfl (fun hc => ?_) (fun hc => ?_) | refine jc_skip ?_ | refine jc_ret ?_ | refine jc_exit ?_ | refine jc_block ?_) | (guard_target =~ Kthen _ _ _ _; first | refine k_then ?_ | refine k_then_r ?_ | refine k_then_e ?_) | (guard_target =~ Kblock _ _ _ _; first | refine k_block_n ?_ | refine k_block_r ?_ | refine k_block_hit ?_ | refine k_block_miss rfl ?_) | (guard_target =~ JR _ _ _ _ _ _ _ _; refine jr_step ?_))
    refine fin2 (.inr rfl) rfl (ris rfl) (ris rfl) (fin_pv ?_)
    unfold prT
    rw [if_neg (by omega), ht, List.take_of_length_le (by omega)]
end Go.Proofs.YtpfjolckhlgodaaDoor
