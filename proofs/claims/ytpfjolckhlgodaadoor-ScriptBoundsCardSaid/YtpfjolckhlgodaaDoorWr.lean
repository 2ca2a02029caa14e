/- Bytes: strings of slices and slices of strings; new rows of zeros; stores into rows; copies into blocks. -/
import Derived.Test.YtpfjolckhlgodaaDoorWk
import Derived.Test.YtpfjolckhlgodaaDoorWg
import Derived.Test.YtpfjolckhlgodaaDoorWq
import Derived.Laws.BytesString
import Derived.Laws.IdiomStrings
namespace Go.Proofs.YtpfjolckhlgodaaDoor
open Go Go.RowKit
set_option linter.unusedSimpArgs false
/-- A byte as an element. -/
def Zb.e (z : Int) : List Value := [.int .u8 z]
theorem Zb.el (z : Int) : (Zb.e z).length = 1 := rfl
theorem Zb.e1 (z : Int) : (Zb.e z).all Value.oneCell = true := rfl
def bytesOf (L : List Int) : ByteArray := ⟨(L.map fun n => UInt8.ofNat n.toNat).toArray⟩
theorem foldl_push : ∀ (L : List Int) (s : ByteArray), L.foldl (fun r n => r.push (UInt8.ofNat n.toNat)) s = ⟨s.data ++ (L.map fun n => UInt8.ofNat n.toNat).toArray⟩
  | [], s => by simp
  | x :: L, s => by
    rw [List.foldl_cons, foldl_push L]
    simp [ByteArray.push]
theorem encs_b (L : List Int) : encs Zb.e L = L.map (Value.int .u8) := by
  induction L with
  | nil => rfl
  | cons x L ih => unfold encs at ih ⊢; simp [ih, Zb.e]
section rules
variable {C : Ctx} {B : Bas} {nt : Nat} {ρ : Option Nat} {env : Env} {own : Own} {dfs : List Deferred} {K : Exit → St → Prop} {σ : St}
/-- string(b). -/
theorem ov_b2s {dst : Option Tmp} {src dT : TypeId} {x : Operand} {ty : TypeId} {pos : String} {af : Array Edge} {g : Option (Nat × Bool)} {i off n c e s1 : Nat} {t te t' : Ty} {xs : List Value} (L : List Int) (hx : ev env x = some (.s i off n c)) (hc : contAt own i = some xs) (ht : C.ent src = some t) (hs : t.slc = some (e, s1)) (he : C.ent e = some te) (hi : te.int = some .u8) (ht' : C.ent dT = some t') (hr' : Nat.beq t'.tag 2 = true)
    (hsub : Sub xs off (encs Zb.e L)) (hn : L.length = n) (hnc : n ≤ c) : OV C B nt ⟨dst, .convert src dT x, ty, pos, af, g⟩ (.v (.string (bytesOf L))) ⟨env, own, dfs⟩ := by
  intro a W hr
  refine ⟨_, rfl, fun w hw => ?_⟩
  obtain ⟨o, ad, ho, hv, hk⟩ := hr.at hx
  have hus := ((C.ok _ t ht).c e _ hs).1
  have hue := (C.ok _ te he).k _ hi
  have hud := (C.ok _ t' ht').r (Nat.eq_of_beq_eq_true hr')
  have hrun : (convert src dT (.slice ad n c)).run C.P w = .ok (.string (bytesOf L)) w := by
    rw [run_convert_bytes_string w src dT e ad n c hus hue hud]
    by_cases h0 : c = 0
    · have hn0 : n = 0 := by omega
      have hL : L = [] := List.length_eq_zero_iff.1 (by omega)
      subst hL
      cases ad with
      | none => simp [Conv.bytesToString, bytesOf]; rfl
      | some x =>
        subst hn0
        rw [run_bytesToString (P := C.P) w x 0 c [] (by rfl)]
        rfl
    · obtain ⟨b, lo, hk1, rfl⟩ := hk h0
      obtain ⟨o', ho', hco⟩ := contAt_spec hc
      rw [ho] at ho'; cases ho'
      have hcell : ∀ (j : Nat) (v : Value), (encs Zb.e L)[j]? = some v → w.cell? ⟨b, (lo + off) + j, none⟩ = some v := fun j v hj => by
        obtain ⟨b', lo', hk', h1⟩ := hw.cell ho hco (hsub j v hj)
        rw [hk1] at hk'; cases hk'
        rw [Nat.add_assoc]; exact h1
      have hl : (loadCells ⟨b, lo + off, none⟩ n).run C.P w = .ok (L.map (Value.int .u8)).toArray w := by
        have := loads_run (P := C.P) (W := w) (a := some ⟨b, lo + off, none⟩) (ys := encs Zb.e L) (fun j v hj => ⟨b, lo + off, rfl, hcell j v hj⟩) rfl
        rw [encs_len Zb.el, hn, Nat.mul_one, encs_b] at this
        exact this
      rw [run_bytesToString (P := C.P) w _ n c L hl, foldl_push]
      simp [bytesOf]
  simp only [execOp, hv, Sem.run_bind, hrun, Result.andThen_ok]
  rfl
/-- []byte(s): a row that is read alone. -/
theorem ox_s2b {zs : List Nat} {N : St → Prop} {d : Nat} {src dT : TypeId} {x : Operand} {ty : TypeId} {pos : String} {af : Array Edge} {g : Option (Nat × Bool)} {e s1 : Nat} {t te t' : Ty} {s : ByteArray} {n : Nat} (L : List Int) (hkd : kind (.convert src dT x) ≠ 0) (hd : Nat.blt d nt = true) (hx : ev env x = some (.v (.string s))) (ht : C.ent dT = some t) (hs : t.slc = some (e, s1)) (he : C.ent e = some te) (hi : te.int = some .u8) (ht' : C.ent src = some t') (hr' : Nat.beq t'.tag 2 = true)
    (hL : s.data.toList.map (fun b => (b.toNat : Int)) = L) (hn : Nat.beq L.length n = true) {ℓ : Nat} (hℓ : idxL own = some ℓ) {own' : Nat → Own} (hw : ∀ b, forceK (snoc own (.frz b (encs Zb.e L))) some = some (own' b)) (hN : ∀ b c, n ≤ c → N ⟨(d, .s ℓ 0 n c) :: env, own' b, dfs⟩) :
    OX C B nt zs ⟨some d, .convert src dT x, ty, pos, af, g⟩ N ⟨env, own, dfs⟩ := by
  intro act W Z hr hz nxt Q hnx
  have hn := Nat.eq_of_beq_eq_true hn
  have hus := ((C.ok _ t ht).c e _ hs).1
  have hue := (C.ok _ te he).k _ hi
  have hud := (C.ok _ t' ht').r (Nat.eq_of_beq_eq_true hr')
  have hsz : s.size = n := by
    have := congrArg List.length hL
    rw [List.length_map, hn] at this
    rw [← this]; simp
  obtain ⟨cp, hcp⟩ : ∃ cp, grownCap W s.size 0 e = cp := ⟨_, rfl⟩
  have hcp1 : n ≤ cp := by
    rw [← hcp, ← hsz]
    simp only [grownCap, Question.cut]
    omega
  have hrun0 := run_bytes_of_string (P := C.P) W src dT e s hud hus hue
  rw [hcp] at hrun0
  unfold Oper.wp
  have hrun : (execOp act.eval ⟨some d, .convert src dT x, ty, pos, af, g⟩).run C.P W = .ok (.value (.slice (some ⟨W.heap.size, 0, none⟩) n cp)) (W.drew.alloc (.cells (bytesRow s cp) e ((bytesRow s cp).size, (bytesRow s cp).size + 1))) := by
    simp only [execOp, hr.atv hx, Sem.run_bind, hrun0, Result.andThen_ok, hsz]
    rfl
  rw [hrun, Oper.upon_value]
  have hℓ := idxL_eq hℓ
  subst hℓ
  have hNx := hN W.heap.size cp hcp1
  have hww := hw W.heap.size
  rw [forceK_eq, snoc_eq] at hww
  rw [← Option.some.inj hww] at hNx
  have hx1 : Ext W W.drew := Ext.draw W
  have hx2 : Ext W (W.drew.alloc (.cells (bytesRow s cp) e ((bytesRow s cp).size, (bytesRow s cp).size + 1))) := hx1.trans (Ext.alloc _ _)
  have hsz1 : W.drew.heap.size = W.heap.size := rfl
  have hm : Mem B (own ++ [.frz W.heap.size (encs Zb.e L)]) (W.drew.alloc (.cells (bytesRow s cp) e ((bytesRow s cp).size, (bytesRow s cp).size + 1))) := by
    refine hr.mem.push (hr.mem.ext.ext hx2) hx2.below.size hx2.below.block ⟨.inl hr.mem.ext.size, _, _, _, alloc_new W.drew _, fun j v hj => ?_⟩ (fun b hb => by cases hb; exact Nat.le_refl _)
    rw [encs_b, ← hL, List.getElem?_map, List.getElem?_map] at hj
    have hjl : j < s.data.size := by
      rcases Nat.lt_or_ge j s.data.size with h | h
      · exact h
      · rw [List.getElem?_eq_none (by simpa using h)] at hj; cases hj
    rw [bytesRow_at s cp j hjl]
    rw [List.getElem?_eq_getElem (by simpa using hjl)] at hj
    simpa using hj
  exact hnx _ _ _ hNx (hr.put (by simpa using hd) _ _ (OLe.app _ _) ⟨.frz W.heap.size (encs Zb.e L), _, by simp, rfl, fun _ => ⟨_, _, rfl, rfl⟩⟩ hm) hz.app (Kept.ext hkd hx2)
theorem zeros_at {α : Type} {enc : α → List Value} {k : Nat} (hk : ∀ x, (enc x).length = k) (h0 : 0 < k) (z0 : α) (n : Nat) (zc : Array Value) (hz : zc.toList = enc z0) (j : Nat) (v : Value) (h : (encs enc (List.replicate n z0))[j]? = some v) : ((Array.range (n * k)).map (zc[· % zc.size]!))[j]? = some v := by
  have hsz : zc.size = k := by rw [← Array.length_toList, hz, hk]
  have hlt := (List.getElem?_eq_some_iff.1 h).1
  rw [encs_len hk, List.length_replicate] at hlt
  have hd := Nat.div_add_mod' j k
  have hm := Nat.mod_lt j h0
  have hq : j / k < (List.replicate n z0).length := by
    rw [List.length_replicate]
    exact Nat.div_lt_of_lt_mul (by rw [Nat.mul_comm]; exact hlt)
  have := encs_get hk (List.replicate n z0) (j / k) (j % k) hq hm
  rw [hd, h, List.getElem_replicate, ← hz] at this
  rw [Array.getElem?_map, Array.getElem?_range, if_pos hlt, Option.map_some, hsz]
  rw [Array.getElem?_toList] at this
  rw [getElem!_def, ← this]
/-- make: a row of zeros. -/
theorem ox_make {α : Type} {enc : α → List Value} {k : Nat} (hk : ∀ x, (enc x).length = k) (z0 : α) {zs : List Nat} {N : St → Prop} {d : Nat} {ty : TypeId} {pos : String} {af : Array Edge} {g : Option (Nat × Bool)} {x y : Operand} {sT e : Nat} {t te : Ty} {n : Nat} {z : Int} (hd : Nat.blt d nt = true) (hx : ev env x = some (.v (.int .i64 z))) (hy : ev env y = some (.v (.int .i64 z))) (hzn : z = (n : Int))
    (ht : C.ent sT = some t) (hs : t.slc = some (e, k)) (he : C.ent e = some te) (hz : te.zv.cells.toList = enc z0) (hk' : (Nat.blt 0 k && Nat.blt 0 te.bytes) = true) (hk2 : Nat.ble te.bytes 4096 = true) (hbd : n ≤ 34359738368)
    {ℓ : Nat} (hℓ : idxL own = some ℓ) {own' : Option Addr → Own} (hw : ∀ a', forceK (snoc own (.row a' e (n * k) (encs enc (List.replicate n z0)))) some = some (own' a')) (hN : ∀ a', N ⟨(d, .s ℓ 0 n n) :: env, own' a', dfs⟩) : OX C B nt zs ⟨some d, .makeSlice sT x y, ty, pos, af, g⟩ N ⟨env, own, dfs⟩ := by
  subst hzn
  intro act W Z hr hz' nxt Q hnx
  simp only [Bool.and_eq_true] at hk'
  have hk0 : 0 < k := by simpa using hk'.1
  have hb0 : 0 < te.bytes := by simpa using hk'.2
  have hb : n * te.bytes ≤ 34359738368 * 4096 := Nat.mul_le_mul hbd (Nat.le_of_ble_eq_true hk2)
  obtain ⟨inf, hinf, htyi⟩ := bytes_run (C.ok _ te he)
  have hsz : ∀ w, (sizeOf e).run C.P w = .ok k w := ((C.ok _ t ht).c e k hs).2
  have hw64 : IntKind.i64.wrap (n : Int) = n := i64w _ (by omega) (by omega)
  have hneg : ¬ ((n : Int) < 0) := by omega
  have hbig : ¬ (281474976710656 < (inf.bytes : Int) * (n : Int)) := by
    rw [hinf, ← Int.natCast_mul, Nat.mul_comm]
    omega
  have hai : ∀ w, (asInt (.int .i64 n)).run C.P w = .ok (n : Int) w := fun _ => rfl
  have hzc : te.zv.cells.size = k := by rw [← Array.length_toList, hz, hk]
  have hrun0 : (Instr.makeSlice sT (.int .i64 n) (.int .i64 n)).run C.P W = .ok (.slice (some ⟨W.heap.size, 0, none⟩) n n) (W.alloc (.cells ((Array.range (n * k)).map (te.zv.cells[· % te.zv.cells.size]!)) e)) := by
    by_cases h0 : n * k = 0
    · have hn0 : n = 0 := by rcases Nat.mul_eq_zero.1 h0 with h | h; exact h; omega
      subst hn0
      have hai0 : ∀ w, (asInt (.int .i64 0)).run C.P w = .ok 0 w := fun _ => rfl
      have hw0 : IntKind.i64.wrap 0 = 0 := rfl
      simp [Instr.makeSlice, underlying_slc ht hs, hsz, hai0, hw0, htyi, askRoom, newRow_run]
      have e0 : ∀ f : Nat → Value, Array.map f (Array.range 0) = #[] := fun f => by simp [show Array.range 0 = #[] from rfl]
      rw [e0, e0]
    · simp [Instr.makeSlice, underlying_slc ht hs, hsz, hai, hw64, hneg, htyi, hbig, h0, askRoom, (C.ok _ te he).z, newRow_run]
  unfold Oper.wp
  have hrun : (execOp act.eval ⟨some d, .makeSlice sT x y, ty, pos, af, g⟩).run C.P W = .ok (.value (.slice (some ⟨W.heap.size, 0, none⟩) n n)) (W.alloc (.cells ((Array.range (n * k)).map (te.zv.cells[· % te.zv.cells.size]!)) e)) := by
    simp only [execOp, hr.atv hx, hr.atv hy, Sem.run_bind, hrun0, Result.andThen_ok]
    rfl
  rw [hrun, Oper.upon_value]
  have hℓ := idxL_eq hℓ
  subst hℓ
  have hNx := hN (some ⟨W.heap.size, 0, none⟩)
  have hww := hw (some ⟨W.heap.size, 0, none⟩)
  rw [forceK_eq, snoc_eq] at hww
  rw [← Option.some.inj hww] at hNx
  have hx2 : Ext W (W.alloc (.cells ((Array.range (n * k)).map (te.zv.cells[· % te.zv.cells.size]!)) e)) := Ext.alloc _ _
  have hlen : (encs enc (List.replicate n z0)).length = n * k := by rw [encs_len hk, List.length_replicate]
  have hm : Mem B (own ++ [.row (some ⟨W.heap.size, 0, none⟩) e (n * k) (encs enc (List.replicate n z0))]) (W.alloc (.cells ((Array.range (n * k)).map (te.zv.cells[· % te.zv.cells.size]!)) e)) := by
    refine hr.mem.push (hr.mem.ext.ext hx2) hx2.below.size hx2.below.block ⟨fun h0 => List.length_eq_zero_iff.1 (by rw [hlen, h0]), fun h0 => ⟨W.heap.size, _, rfl, .inl hr.mem.ext.size, alloc_new W _, by simp, by omega, fun j v hj => zeros_at hk hk0 z0 n _ hz j v hj⟩⟩ (fun b hb => ?_)
    obtain ⟨_, x, hx, rfl⟩ := hb
    cases hx; exact Nat.le_refl _
  exact hnx _ _ _ hNx (hr.put (by simpa using hd) _ _ (OLe.app _ _) ⟨.row (some ⟨W.heap.size, 0, none⟩) e (n * k) (encs enc (List.replicate n z0)), _, by simp, rfl, fun _ => ⟨_, _, rfl, rfl⟩⟩ hm) hz'.app (Kept.ext (by simp [kind]) hx2)
/-- A store into a row. -/
theorem ox_setr {zs : List Nat} {N : St → Prop} {ty : TypeId} {pos : String} {af : Array Edge} {g : Option (Nat × Bool)} {x y : Operand} {T e i off m : Nat} {t : Ty} {a : Option Addr} {xs : List Value} {ey : EV} {v : Value} (ys : List Value) (hx : ev env x = some (.p i off)) (hy : ev env y = some ey) (hval : val own ey = some v) (ht : C.ent T = some t) (hi : nth own i = some (.row a e m xs)) (hni : notIn zs i = true)
    (hl : (Nat.beq v.cells.toList.length t.size && (v.cells.toList.all Value.oneCell && Nat.blt 0 v.cells.toList.length)) = true) (hoff : off + v.cells.toList.length ≤ xs.length) (hys : setAt xs off v.cells.toList = ys)
    {own' : Own} (hw : forceK (own.set i (.row a e m ys)) some = some own') (hN : N ⟨env, own', dfs⟩) : OX C B nt zs ⟨none, .store T x y, ty, pos, af, g⟩ N ⟨env, own, dfs⟩ := by
  subst hys
  intro act W Z hr hz nxt Q hn
  rw [forceK_eq] at hw
  cases hw
  rw [nth_eq] at hi
  simp only [Bool.and_eq_true] at hl
  obtain ⟨h1, h2, h3⟩ := hl
  have h3 : 0 < v.cells.toList.length := by simpa using h3
  have hyv := (hr.at hy).val hval
  have hreg := hr.mem.at hi
  have hm0 : m ≠ 0 := fun h0 => by
    have := hreg.1 h0
    rw [this, List.length_nil] at hoff
    omega
  obtain ⟨b, cs, ha, hfr, hheap, hcs, hxm, hcell⟩ := hreg.2 hm0
  subst ha
  obtain ⟨o', b', lo', ho', hk', hp⟩ := hr.at hx
  rw [hi] at ho'; cases ho'
  cases hk'
  rw [Nat.zero_add] at hp
  obtain ⟨W', hrun, g2, g3, g4, g5, g6, g7, g8⟩ := storeCells_run (P := C.P) (n := b) (T := e) v.cells.toList cs.toList off 0 W (by simpa using hheap) (by simp at hoff hxm ⊢; omega) (List.all_eq_true.1 h2)
  have hex : (execOp act.eval ⟨none, .store T x y, ty, pos, af, g⟩).run C.P W = .ok .skip W' := by
    have hs : v.cells.size = t.size := by simpa using Nat.eq_of_beq_eq_true h1
    simp only [execOp, hp, hyv, Instr.storeAt, Instr.sureAddr, storeVar, Sem.run_bind, Sem.run_pure, Result.andThen_ok, (C.ok T t ht).s, hs, ne_eq, not_true_eq_false, if_false, hrun]
  have hxt : ExtG B W' := hr.mem.ext.turn (f := fun q => q = b) (fun q hq => by cases hq; exact hfr) g5 g6 g7 (by omega) (Dr.le (by omega)) (fun q _ hq => g4 q hq)
  unfold Oper.wp
  rw [hex, Oper.upon_skip]
  refine hn _ _ _ hN ?_ (hz.setfp hi fun b => Iff.rfl) (Kept.mk3 rfl (fun h => by simp [kind] at h) (fun _ => ⟨hxt, by omega⟩) (fun _ q hq _ => g4 q fun e => hz.apart hr.mem hi (notIn_spec hni) q hq ⟨hm0, _, rfl, e⟩))
  refine hr.keep (OLe.set hi rfl) (hr.mem.upd hi (fun b hb => hb) hxt (by omega) (fun q _ hq => g4 q fun e => hq ⟨hm0, _, rfl, e⟩) ⟨fun h0 => absurd h0 hm0, fun _ => ⟨b, _, rfl, hfr, g2, ?_, ?_, ?_⟩⟩)
  · simp [setAt_len, hcs]
  · rw [setAt_len]; exact hxm
  · intro j u hj
    have hl1 : off + v.cells.toList.length ≤ cs.toList.length := by simp at hoff hxm ⊢; omega
    rw [List.getElem?_toArray, Nat.add_zero, setAt_get _ _ _ _ hl1]
    rw [setAt_get _ _ _ _ hoff] at hj
    split
    · rename_i h; rw [if_pos h] at hj; exact hj
    · rename_i h
      rw [if_neg h] at hj
      simpa using hcell j u hj
/-- An element of a row is another one. -/
theorem setAt_one : ∀ (xs : List Value) (off : Nat) (v : Value), setAt xs off [v] = xs.set off v := fun _ _ _ => rfl
theorem encs_set {α : Type} {enc : α → List Value} {k : Nat} (hk : ∀ x, (enc x).length = k) {L : List α} {m : Nat} {z : α} (h : m < L.length) : setAt (encs enc L) (0 + m * k) (enc z) = encs enc (L.set m z) := by
  refine List.ext_getElem? fun j => ?_
  have hle : m * k + k ≤ L.length * k := by rw [← Nat.succ_mul]; exact Nat.mul_le_mul_right k h
  rw [setAt_get _ _ _ _ (by rw [encs_len hk, hk]; omega), hk]
  rcases Nat.lt_or_ge j (L.length * k) with hj | hj
  · have hk0 : 0 < k := by rcases Nat.eq_zero_or_pos k with h0 | h0; (subst h0; omega); exact h0
    have hd := Nat.div_add_mod' j k
    have hm := Nat.mod_lt j hk0
    have hq : j / k < L.length := Nat.div_lt_of_lt_mul (by rw [Nat.mul_comm]; exact hj)
    have e1 := encs_get hk L (j / k) (j % k) hq hm
    have e2 := encs_get hk (L.set m z) (j / k) (j % k) (by simpa using hq) hm
    rw [hd] at e1 e2
    rw [e1, e2, List.getElem_set]
    by_cases hc : m = j / k
    · subst hc
      rw [if_pos (by omega), if_pos rfl]
      congr 1
      omega
    · rw [if_neg hc, if_neg]
      intro hh
      apply hc
      refine (Nat.div_eq_of_lt_le ?_ ?_).symm
      · omega
      · rw [Nat.succ_mul]; omega
  · rw [if_neg (by omega), List.getElem?_eq_none (by rw [encs_len hk]; exact hj), List.getElem?_eq_none (by rw [encs_len hk]; simpa using hj)]
/-- copy into a block. -/
theorem ox_copyb {zs : List Nat} {N : St → Prop} {d : Nat} {ty : TypeId} {pos : String} {af : Array Edge} {g : Option (Nat × Bool)} {x y : Operand} {dT sT e k i j off dn dc soff sn sc n b T : Nat} {t : Ty} {cs xs : List Value} (ys : List Value) (hd : Nat.blt d nt = true) (hx : ev env x = some (.s i off dn dc)) (hy : ev env y = some (.s j soff sn sc)) (hi : nth own i = some (.blk b T cs)) (hni : notIn zs i = true) (hj : contAt own j = some xs) (hsub : Sub xs soff ys)
    (ht : C.ent dT = some t) (hs : t.slc = some (e, k)) (hn : Nat.min sn dn = n) (hys : ys.length = n * k) (hsc : sn ≤ sc) (hdc : 0 < dc) (hoff : off + ys.length ≤ cs.length) (hone : ys.all Value.oneCell = true)
    {own' : Own} (hw : forceK (own.set i (.blk b T (setAt cs off ys))) some = some own') (hN : N ⟨(d, .v (.int .i64 n)) :: env, own', dfs⟩) : OX C B nt zs ⟨some d, .call ⟨.builtin .copy, ⟨[x, y]⟩, ⟨[dT, sT]⟩⟩, ty, pos, af, g⟩ N ⟨env, own, dfs⟩ := by
  intro act W Z hr hz nxt Q hnx
  rw [forceK_eq] at hw
  cases hw
  rw [nth_eq] at hi
  have hlt := (List.getElem?_eq_some_iff.1 hi).1
  obtain ⟨o1, ad, ho1, hxe, hc1⟩ := hr.at hx
  rw [hi] at ho1; cases ho1
  obtain ⟨b1, lo1, hk1, rfl⟩ := hc1 (by omega)
  cases hk1
  obtain ⟨o2, a2, ho2, hye, hc2⟩ := hr.at hy
  have hrd : RdS W a2 ys := fun q v hq => by
    have hc20 : sc ≠ 0 := fun e => by
      have : n = 0 := by rw [← hn]; simp only [Nat.min_def]; split <;> omega
      have : ys = [] := List.length_eq_zero_iff.1 (by rw [hys, this]; simp)
      subst this; simp at hq
    obtain ⟨b', lo, hk1', rfl⟩ := hc2 hc20
    obtain ⟨o', ho', hco⟩ := contAt_spec hj
    rw [ho2] at ho'; cases ho'
    obtain ⟨b'', lo', hk', hcell⟩ := hr.mem.cell ho2 hco (hsub q v hq)
    rw [hk1'] at hk'; cases hk'
    exact ⟨b', lo + soff, rfl, by rw [Nat.add_assoc]; exact hcell⟩
  have hreg := hr.mem.at hi
  obtain ⟨W', hrun, g2, g3, g4, g5, g6, g7, g8⟩ := storeCells_run (P := C.P) (n := b) (T := T) ys cs off 0 W hreg.2 (by omega) (List.all_eq_true.1 hone)
  have hfc : (Builtin.firstCells k n (.slice a2 sn sc)).run C.P W = .ok ys.toArray W := by
    have hnl : n ≤ sc := by rw [← hn]; simp only [Nat.min_def]; split <;> omega
    have := first_run (P := C.P) (n := n) (c := sc) hrd hys (fun h0 => let ⟨b', lo, _, hq⟩ := hc2 h0; ⟨b', lo + soff, hq⟩) hnl
    have e1 : Builtin.firstCells k n (.slice a2 sn sc) = Builtin.firstCells k n (.slice a2 n sc) := by cases a2 <;> rfl
    rw [e1]; exact this
  have hsz : ∀ w, (sizeOf e).run C.P w = .ok k w := ((C.ok _ t ht).c e k hs).2
  unfold Oper.wp
  have hrun2 : (execOp act.eval ⟨some d, .call ⟨.builtin .copy, ⟨[x, y]⟩, ⟨[dT, sT]⟩⟩, ty, pos, af, g⟩).run C.P W = .ok (.value (.int .i64 n)) W' := by
    have hxe : act.eval x = .slice (some ⟨b, off, none⟩) dn dc := by rw [hxe]; simp
    have : (#[x, y] : Array Operand).map act.eval = #[.slice (some ⟨b, off, none⟩) dn dc, .slice a2 sn sc] := by simp [hxe, hye]
    show (do let dd ← resolve act.eval ⟨.builtin .copy, #[x, y], #[dT, sT]⟩ ty; invoke dd.target dd.args : Sem Next).run C.P W = _
    simp only [resolve, this, Sem.run_bind, Sem.run_pure, Result.andThen_ok, invoke, builtin]
    simp [Builtin.copy_, underlying_slc ht hs, Builtin.lenOf, hn, hsz, hfc, hrun, goInt]
  rw [hrun2, Oper.upon_value]
  have hxt : ExtG B W' := hr.mem.ext.turn (f := fun q => q = b) (fun q hq => by cases hq; exact hreg.1) g5 g6 g7 (by omega) (Dr.le (by omega)) (fun q _ hq => g4 q hq)
  have hno := notIn_spec hni
  refine hnx _ _ _ hN ?_ (hz.setfp hi fun b => Iff.rfl) (Kept.mk3 rfl (fun h => by simp [kind] at h) (fun _ => ⟨hxt, by omega⟩) (fun _ q hq hlt' => g4 q fun e => hz.apart hr.mem hi hno q hq e))
  exact hr.put (by simpa using hd) _ _ (OLe.set (o' := .blk b T (setAt cs off ys)) hi rfl) rfl (hr.mem.upd hi (fun b hb => hb) hxt (by omega) (fun q _ hq => g4 q hq) ⟨hreg.1, by simpa using g2⟩)
/-- []byte of a row that is new: it is read alone from then on. -/
theorem ox_mark {zs : List Nat} {N : St → Prop} {d : Nat} {T' : TypeId} {x : Operand} {ty : TypeId} {pos : String} {af : Array Edge} {g : Option (Nat × Bool)} {i n c e s1 b T m : Nat} {t te : Ty} {xs : List Value} (hd : Nat.blt d nt = true) (hx : ev env x = some (.s i 0 n c)) (hc : Nat.blt 0 c = true) (hi : nth own i = some (.row (some ⟨b, 0, none⟩) T m xs)) (hm : Nat.blt 0 m = true) (hni : notIn zs i = true) (ht : C.ent T' = some t) (hs : t.slc = some (e, s1)) (he : C.ent e = some te) (hte : te.int = some .u8)
    {own' : Own} (hw : forceK (own.set i (.frz b xs)) some = some own') (hN : N ⟨(d, .s i 0 n c) :: env, own', dfs⟩) (hkd : kind (.convert T' T' x) = 1) : OX C B nt zs ⟨some d, .convert T' T' x, ty, pos, af, g⟩ N ⟨env, own, dfs⟩ := by
  intro act W Z hr hz nxt Q hnx
  rw [forceK_eq] at hw
  cases hw
  rw [nth_eq] at hi
  have hm0 : m ≠ 0 := by have : 0 < m := by simpa using hm
                         omega
  have hc0 : c ≠ 0 := by have : 0 < c := by simpa using hc
                         omega
  have hus := ((C.ok _ t ht).c e _ hs).1
  have hue := (C.ok _ te he).k _ hte
  obtain ⟨o', ad, ho', hv, hk⟩ := hr.at hx
  rw [hi] at ho'; cases ho'
  obtain ⟨b1, lo1, hk1, rfl⟩ := hk hc0
  cases hk1
  obtain ⟨b', cs, ha, hfr, hheap, hcs, hxm, hcell⟩ := (hr.mem.at hi).2 hm0
  cases ha
  have hlt := lt_of_heap hheap
  have hfz : ∀ n, (W.freeze ⟨b, n, none⟩ 1).heap[b]? = some (.cells cs T (n, n + 1)) ∧ (W.freeze ⟨b, n, none⟩ 1).heap.size = W.heap.size ∧ ∀ k, k ≠ b → (W.freeze ⟨b, n, none⟩ 1).heap[k]? = W.heap[k]? := fun n => by
    unfold World.freeze
    rw [if_neg (by decide)]
    refine ⟨?_, by simp, fun k hk => ?_⟩
    · simp only [Array.getElem?_modify, if_true, hheap, Option.map_some]
      simp
    · simp only [Array.getElem?_modify, if_neg (Ne.symm hk)]
  have hsh : W.shape? b = some (T, cs.size) := by unfold World.shape?; rw [hheap]
  obtain ⟨g1, g2, g3⟩ := hfz cs.size
  have hrun0 : (convert T' T' (.slice (some ⟨b, 0, none⟩) n c)).run C.P W = .ok (.slice (some ⟨b, 0, none⟩) n c) (W.freeze ⟨b, cs.size, none⟩ 1) := by
    simp [convert, run_underlying hus, run_underlying hue, markStringish, hsh]
  unfold Oper.wp
  have hrun : (execOp act.eval ⟨some d, .convert T' T' x, ty, pos, af, g⟩).run C.P W = .ok (.value (.slice (some ⟨b, 0, none⟩) n c)) (W.freeze ⟨b, cs.size, none⟩ 1) := by
    simp only [execOp, hv, Sem.run_bind]
    simp only [Nat.zero_add, hrun0, Result.andThen_ok]
    rfl
  rw [hrun, Oper.upon_value]
  have hxt : ExtG B (W.freeze ⟨b, cs.size, none⟩ 1) := hr.mem.ext.turn (f := fun q => q = b) (fun q hq => by cases hq; exact hfr) rfl rfl rfl (by omega) (Dr.refl _) (fun q _ hq => g3 q hq)
  have hno := notIn_spec hni
  refine hnx _ _ _ hN ?_ (hz.setne hno) (Kept.mk3 rfl (fun h => by rw [hkd] at h; cases h) (fun _ => ⟨hxt, by omega⟩) (fun _ q hq hlt' => g3 q fun e => hz.apart hr.mem hi hno q hq ⟨hm0, _, rfl, e⟩))
  refine hr.put (by simpa using hd) _ _ (OLe.set (o' := .frz b xs) hi rfl) ⟨.frz b xs, _, List.getElem?_set_self (List.getElem?_eq_some_iff.1 hi).1, rfl, fun _ => ⟨b, 0, rfl, rfl⟩⟩ (hr.mem.upd hi (fun q hq => ⟨hm0, _, rfl, hq⟩) hxt (by omega) (fun q _ hq => g3 q fun e => hq ⟨hm0, _, rfl, e⟩) ⟨hfr, cs, T, _, g1, hcell⟩)
end rules
end Go.Proofs.YtpfjolckhlgodaaDoor
