/- Lines of events, as bytes: plain laws. -/
import Derived.Test.YtpfjolckhlgodaaDoorBa
import Derived.Lib.Split
import Derived.Lib.CutLaws
import Derived.Lib.Join
import Derived.Lib.AtoiAll
import Derived.Lib.ItoaLen
import Derived.Lib.ItoaMem
namespace Go.Proofs.YtpfjolckhlgodaaDoor
open Go
set_option linter.unusedSimpArgs false
set_option linter.unusedVariables false
abbrev Bs := List UInt8
/-! ### texts cut at a byte -/
def spl (c : UInt8) : Bs → List Bs
  | [] => [[]]
  | b :: l => if b = c then [] :: spl c l else match spl c l with
    | [] => [[b]]
    | h :: t => (b :: h) :: t
theorem spl_ne (c : UInt8) : ∀ l, spl c l ≠ []
  | [] => by simp [spl]
  | b :: l => by
    unfold spl
    split
    · simp
    · split <;> simp
theorem spl_none {c : UInt8} : ∀ {l : Bs}, c ∉ l → spl c l = [l]
  | [], _ => rfl
  | b :: l, h => by
    unfold spl
    rw [if_neg (fun e => h (by simp [e])), spl_none (l := l) (fun e => h (by simp [e]))]
theorem spl_app {c : UInt8} (r : Bs) : ∀ {p : Bs}, c ∉ p → spl c (p ++ c :: r) = p :: spl c r
  | [], _ => by simp [spl]
  | b :: p, h => by
    rw [List.cons_append, spl, if_neg (fun e => h (by simp [e])), spl_app r (p := p) (fun e => h (by simp [e]))]
theorem spl_snoc (c b : UInt8) : ∀ (l : Bs), spl c (l ++ [b]) = if b = c then spl c l ++ [[]] else (spl c l).dropLast ++ [(spl c l).getLastD [] ++ [b]]
  | [] => by by_cases h : b = c <;> simp [spl, h]
  | x :: l => by
    have ih := spl_snoc c b l
    rw [List.cons_append, spl]
    by_cases hx : x = c
    · rw [if_pos hx, ih]
      have e : spl c (x :: l) = [] :: spl c l := by rw [spl, if_pos hx]
      rw [e]
      by_cases hb : b = c
      · rw [if_pos hb, if_pos hb]; rfl
      · rw [if_neg hb, if_neg hb]
        cases hs : spl c l with
        | nil => exact absurd hs (spl_ne c l)
        | cons h t => simp [List.dropLast, List.getLastD]
    · rw [if_neg hx]
      cases hs : spl c l with
      | nil => exact absurd hs (spl_ne c l)
      | cons h t =>
        have e : spl c (x :: l) = (x :: h) :: t := by rw [spl, if_neg hx, hs]
        rw [e, ih, hs]
        by_cases hb : b = c
        · rw [if_pos hb, if_pos hb]; rfl
        · rw [if_neg hb, if_neg hb]
          cases t with
          | nil => simp
          | cons h' t' => simp [List.dropLast, List.getLastD]
theorem spl_mem_le {c : UInt8} : ∀ (l : Bs), ∀ w ∈ spl c l, w.length ≤ l.length
  | [], w, h => by simp [spl] at h; simp [h]
  | b :: l, w, h => by
    unfold spl at h
    split at h
    · rcases List.mem_cons.1 h with rfl | h
      · simp
      · have := spl_mem_le l w h; simp; omega
    · split at h
      · simp at h; simp [h]
      · rename_i hd t hs
        rcases List.mem_cons.1 h with rfl | h
        · have := spl_mem_le l hd (by rw [hs]; simp); simp; omega
        · have := spl_mem_le l w (by rw [hs]; simp [h]); simp; omega
theorem spl_len_le {c : UInt8} : ∀ (l : Bs), (spl c l).length ≤ l.length + 1
  | [] => by simp [spl]
  | b :: l => by
    have := spl_len_le (c := c) l
    unfold spl
    split
    · simp; omega
    · split
      · simp
      · rename_i hs; rw [hs] at this; simp at this ⊢; omega
/-- The first one there, and what is behind it. -/
theorem split_at {c : UInt8} : ∀ {l : Bs}, c ∈ l → ∃ p r, l = p ++ c :: r ∧ c ∉ p
  | [], h => by simp at h
  | b :: l, h => by
    by_cases e : b = c
    · exact ⟨[], l, by rw [e]; rfl, by simp⟩
    · have : c ∈ l := (List.mem_cons.1 h).resolve_left fun h' => e h'.symm
      obtain ⟨p, r, rfl, hp⟩ := split_at this
      exact ⟨b :: p, r, rfl, fun hm => (List.mem_cons.1 hm).elim (fun h' => e h'.symm) hp⟩
theorem idx_none {c : UInt8} : ∀ {l : Bs}, c ∉ l → Lib.index l [c] = -1
  | [], _ => by simp [Lib.index]
  | b :: l, h => by
    unfold Lib.index
    have h1 : (c == b) = false := by rw [beq_eq_false_iff_ne]; exact fun e => h (by simp [e])
    rw [idx_none (l := l) (fun e => h (by simp [e]))]
    simp [List.isPrefixOf, h1]
theorem idx_app {c : UInt8} (r : Bs) : ∀ {p : Bs}, c ∉ p → Lib.index (p ++ c :: r) [c] = p.length
  | [], _ => by simp [Lib.index, List.isPrefixOf]
  | b :: p, h => by
    have h1 : (c == b) = false := by rw [beq_eq_false_iff_ne]; exact fun e => h (by simp [e])
    have ih := idx_app r (p := p) (fun e => h (List.mem_cons_of_mem _ e))
    rw [List.cons_append]
    unfold Lib.index
    rw [ih]
    have : ((p.length : Int) == -1) = false := by rw [beq_eq_false_iff_ne]; omega
    simp [List.isPrefixOf, h1, this]
theorem cut_none {c : UInt8} {l : Bs} (h : c ∉ l) : Lib.cut l [c] = (l, [], false) := by
  unfold Lib.cut
  rw [idx_none h]
  rfl
theorem cut_app {c : UInt8} {p : Bs} (r : Bs) (h : c ∉ p) : Lib.cut (p ++ c :: r) [c] = (p, r, true) := by
  unfold Lib.cut
  rw [idx_app r h, if_pos (by omega)]
  simp
theorem cfrom_none {c : UInt8} {l : Bs} (h : c ∉ l) : ∀ n, Lib.countFrom [c] n l = 0
  | 0 => rfl
  | n + 1 => by
    unfold Lib.countFrom
    rw [idx_none h]; rfl
theorem splitK_spl (c : UInt8) : ∀ (n : Nat) (l : Bs) (k : Nat), l.length < n → l.length < k → Lib.splitK [c] 0 (Lib.countFrom [c] n l) l = spl c l := by
  intro n
  induction n with
  | zero => intro l k h; omega
  | succ n ih =>
    intro l k h hk
    by_cases hc : c ∈ l
    · obtain ⟨p, r, rfl, hp⟩ := split_at hc
      rw [spl_app r hp]
      unfold Lib.countFrom
      have e := idx_app r hp
      have e1 : (Lib.index (p ++ c :: r) [c] == -1) = false := by rw [e, beq_eq_false_iff_ne]; omega
      rw [e1]
      simp only [Bool.false_eq_true, if_false]
      rw [Nat.add_comm 1]
      unfold Lib.splitK
      rw [e1, e]
      simp only [Bool.false_eq_true, if_false, Int.toNat_natCast, Nat.add_zero, List.length_singleton]
      have d : (p ++ c :: r).drop (p.length + 1) = r := by simp
      have t : (p ++ c :: r).take p.length = p := by simp
      rw [d, t, ih r n (by simp at h; omega) (by simp at h; omega)]
    · rw [spl_none hc, cfrom_none hc]; rfl
theorem split_spl (c : UInt8) (l : Bs) : Lib.split l [c] = spl c l := by
  unfold Lib.split Lib.count
  exact splitK_spl c (l.length + 1) l (l.length + 1) (by omega) (by omega)
/-- Words without blanks, joined by blanks. -/
theorem spl_join {c : UInt8} : ∀ {ws : List Bs}, ws ≠ [] → (∀ w ∈ ws, c ∉ w) → spl c (Lib.join ws [c]) = ws
  | [], h, _ => absurd rfl h
  | [w], _, h => by rw [Lib.join_one, spl_none (h w (by simp))]
  | w :: v :: r, _, h => by
    have e : Lib.join (w :: v :: r) [c] = w ++ c :: Lib.join (v :: r) [c] := by
      rw [Lib.join_cons, Lib.join_cons]
      simp [Lib.joinTail]
    rw [e, spl_app _ (h w (by simp)), spl_join (by simp) (fun x hx => h x (by simp [hx]))]
/-! ### numbers -/
def I64 (n : Int) : Prop := -9223372036854775808 ≤ n ∧ n ≤ 9223372036854775807
theorem dig_lt (u : Nat) : u % 10 < 10 := Nat.mod_lt _ (by decide)
theorem dec_small {u : Nat} (h : u < 10) : Lib.decDigits u = [UInt8.ofNat (48 + u)] := by rw [Lib.decDigits, dif_pos h]
theorem dec_big {u : Nat} (h : ¬ u < 10) : Lib.decDigits u = Lib.decDigits (u / 10) ++ [UInt8.ofNat (48 + u % 10)] := by rw [Lib.decDigits, dif_neg h]
theorem digB {k : Nat} (h : k < 10) : (UInt8.ofNat (48 + k)).toNat = 48 + k := by
  rw [UInt8.toNat_ofNat']; omega
theorem dec_dig (u : Nat) : ∀ b ∈ Lib.decDigits u, 48 ≤ b.toNat ∧ b.toNat ≤ 57 := by
  induction u using Nat.strongRecOn with
  | ind u ih =>
    intro b hb
    by_cases h : u < 10
    · rw [dec_small h] at hb
      rw [List.mem_singleton] at hb
      rw [hb, digB h]; omega
    · rw [dec_big h] at hb
      rcases List.mem_append.1 hb with hb | hb
      · exact ih (u / 10) (by omega) b hb
      · rw [List.mem_singleton] at hb
        rw [hb, digB (dig_lt u)]
        have := dig_lt u
        omega
theorem dec_ne (u : Nat) : Lib.decDigits u ≠ [] := by
  by_cases h : u < 10
  · rw [dec_small h]; simp
  · rw [dec_big h]; simp
theorem pu_app : ∀ (l m : Bs) (acc : Nat), Lib.parseUint10 acc (l ++ m) = match Lib.parseUint10 acc l with
    | .ok a => Lib.parseUint10 a m
    | e => e
  | [], m, acc => rfl
  | c :: l, m, acc => by
    rw [List.cons_append]
    simp only [Lib.parseUint10]
    split
    · split
      · rfl
      · split
        · rfl
        · exact pu_app l m _
    · rfl
theorem pu_dec (u : Nat) (hu : u < 18446744073709551616) : Lib.parseUint10 0 (Lib.decDigits u) = .ok u := by
  induction u using Nat.strongRecOn with
  | ind u ih =>
    by_cases h : u < 10
    · rw [dec_small h]
      simp only [Lib.parseUint10, digB h]
      rw [if_pos (by omega), if_neg (by omega), if_neg (by omega)]
      congr 1; omega
    · rw [dec_big h, pu_app, ih (u / 10) (by omega) (by omega)]
      have := dig_lt u
      simp only [Lib.parseUint10, digB (dig_lt u)]
      rw [if_pos (by omega), if_neg (by omega), if_neg (by omega)]
      congr 1; omega
theorem dec_head (u : Nat) : ∃ c r, Lib.decDigits u = c :: r ∧ 48 ≤ c.toNat ∧ c.toNat ≤ 57 := by
  cases hd : Lib.decDigits u with
  | nil => exact absurd hd (dec_ne u)
  | cons c r => exact ⟨c, r, rfl, dec_dig u c (by rw [hd]; simp)⟩
def atoiV (l : Bs) : Int := match Lib.atoiAll l with
  | .ok v => v
  | .range => Lib.atoiSat l
  | _ => 0
theorem atoi_itoa {n : Int} (h : I64 n) : atoiV (Lib.itoa n) = n := by
  obtain ⟨h0, h1⟩ := h
  unfold atoiV
  suffices e : Lib.atoiAll (Lib.itoa n) = .ok n by rw [e]
  by_cases hn : n < 0
  · have e : Lib.itoa n = 45 :: Lib.decDigits n.natAbs := by unfold Lib.itoa; rw [if_pos hn]
    rw [e]
    unfold Lib.atoiAll
    have c45 : (45 : UInt8).toNat = 45 := rfl
    simp only [c45]
    rw [if_pos (.inr trivial)]
    unfold Lib.parseMag
    rw [if_neg (dec_ne _), pu_dec _ (by omega)]
    simp only [not_true_eq_false, false_and, if_false, true_and, if_true]
    rw [if_neg (by omega)]
    congr 1; omega
  · have e : Lib.itoa n = Lib.decDigits n.toNat := by unfold Lib.itoa; rw [if_neg hn]
    rw [e]
    obtain ⟨c, r, hd, hc1, hc2⟩ := dec_head n.toNat
    rw [hd]
    unfold Lib.atoiAll
    simp only []
    rw [if_neg (by omega), ← hd]
    unfold Lib.parseMag
    rw [if_neg (dec_ne _), pu_dec _ (by omega)]
    simp only []
    rw [if_neg (by omega), if_neg (by omega), if_neg (by omega)]
    congr 1; omega
theorem atoi_i64 (l : Bs) : I64 (atoiV l) := by
  unfold atoiV
  split
  · rename_i v hv
    unfold Lib.atoiAll at hv
    split at hv
    · cases hv
    · simp only [] at hv
      split at hv
      · cases hv
      · cases hv
      · split at hv
        · cases hv
        · split at hv
          · cases hv
          · cases hv
            unfold I64
            split <;> omega
  · unfold Lib.atoiSat I64
    split <;> omega
  · unfold I64; omega
theorem itoa_inj {a b : Int} (ha : I64 a) (hb : I64 b) (h : Lib.itoa a = Lib.itoa b) : a = b := by rw [← atoi_itoa ha, ← atoi_itoa hb, h]
/-- The reference's number: digit by digit. -/
def numS (minus : Bool) (x : Int) (c : UInt8) : Int :=
  if (c.toNat : Int) - 48 < 0 ∨ 9 < (c.toNat : Int) - 48 then x else IntKind.i64.wrap (if minus then IntKind.i64.wrap (10 * x) - ((c.toNat : Int) - 48) else IntKind.i64.wrap (10 * x) + ((c.toNat : Int) - 48))
def isMinus (l : Bs) : Bool := match l with
  | [] => false
  | c :: _ => decide (c = 45)
def numV (l : Bs) : Int := l.foldl (numS (isMinus l)) 0
theorem wrapI {n : Int} (h : I64 n) : IntKind.i64.wrap n = n := by
  unfold I64 at h
  simp only [IntKind.wrap, IntKind.signed, IntKind.bits]
  first
    | rfl
    | (simp [IntKind.wrap]; omega)
    | omega
theorem num_dec (m : Bool) (u : Nat) (h : if m then (u : Int) ≤ 9223372036854775808 else (u : Int) ≤ 9223372036854775807) : (Lib.decDigits u).foldl (numS m) 0 = if m then -(u : Int) else u := by
  induction u using Nat.strongRecOn with
  | ind u ih =>
    by_cases hu : u < 10
    · rw [dec_small hu]
      simp only [List.foldl_cons, List.foldl_nil, numS, digB hu]
      rw [if_neg (by omega)]
      cases m
      · simp only [Bool.false_eq_true, if_false]
        rw [wrapI (n := 10 * 0) (by unfold I64; omega), wrapI (by unfold I64; omega)]; omega
      · simp only [if_true]
        rw [wrapI (n := 10 * 0) (by unfold I64; omega), wrapI (by unfold I64; omega)]; omega
    · have := dig_lt u
      rw [dec_big hu, List.foldl_append, ih (u / 10) (by omega) (by cases m <;> simp at h ⊢ <;> omega)]
      simp only [List.foldl_cons, List.foldl_nil, numS, digB this]
      rw [if_neg (by omega)]
      cases m
      · simp only [Bool.false_eq_true, if_false] at h ⊢
        rw [wrapI (n := 10 * _) (by unfold I64; omega), wrapI (by unfold I64; omega)]; omega
      · simp only [if_true] at h ⊢
        rw [wrapI (n := 10 * _) (by unfold I64; omega), wrapI (by unfold I64; omega)]; omega
theorem num_itoa {n : Int} (h : I64 n) : numV (Lib.itoa n) = n := by
  obtain ⟨h0, h1⟩ := h
  by_cases hn : n < 0
  · have e : Lib.itoa n = 45 :: Lib.decDigits n.natAbs := by unfold Lib.itoa; rw [if_pos hn]
    rw [e]
    unfold numV
    have e2 : isMinus (45 :: Lib.decDigits n.natAbs) = true := rfl
    rw [e2, List.foldl_cons]
    have e3 : numS true 0 45 = 0 := by decide
    rw [e3, num_dec true _ (by simp; omega)]
    simp; omega
  · have e : Lib.itoa n = Lib.decDigits n.toNat := by unfold Lib.itoa; rw [if_neg hn]
    rw [e]
    obtain ⟨c, r, hd, hc1, hc2⟩ := dec_head n.toNat
    have e2 : isMinus (Lib.decDigits n.toNat) = false := by
      rw [hd]
      simp only [isMinus, decide_eq_false_iff_not]
      rintro rfl
      exact absurd hc1 (by decide)
    unfold numV
    rw [e2, num_dec false _ (by simp; omega)]
    simp; omega
theorem itoa_chars (n : Int) : ∀ b ∈ Lib.itoa n, b = 45 ∨ (48 ≤ b.toNat ∧ b.toNat ≤ 57) := by
  intro b hb
  unfold Lib.itoa at hb
  split at hb
  · rcases List.mem_cons.1 hb with rfl | hb
    · exact .inl rfl
    · exact .inr (dec_dig _ b hb)
  · exact .inr (dec_dig _ b hb)
theorem itoa_no {c : UInt8} (n : Int) (h : c ≠ 45) (h2 : c.toNat < 48 ∨ 57 < c.toNat) : c ∉ Lib.itoa n := fun hm => by
  rcases itoa_chars n c hm with h' | h'
  · exact h h'
  · omega
/-! ### events -/
structure Evn where
  (k w n f m : Int)
  (rs : List Rc)
deriving DecidableEq
structure Evn.Bd (x : Evn) : Prop where
  k : I64 x.k
  w : I64 x.w
  n : I64 x.n
  f : I64 x.f
  m : I64 x.m
  rs : ∀ r ∈ x.rs, I64 r.k ∧ I64 r.v
def recT (r : Rc) : Bs := Lib.itoa r.k ++ 58 :: Lib.itoa r.v
def numsT (x : Evn) : List Bs := [Lib.itoa x.k, Lib.itoa x.w, Lib.itoa x.n, Lib.itoa x.f, Lib.itoa x.m]
def wordsT (x : Evn) : List Bs := numsT x ++ x.rs.map recT
def lineT (x : Evn) : Bs := Lib.join (wordsT x) [32]
def okc (c : UInt8) : Prop := (48 ≤ c.toNat ∧ c.toNat ≤ 58) ∨ c = 32 ∨ c = 45
theorem recT_chars (r : Rc) : ∀ b ∈ recT r, b = 45 ∨ (48 ≤ b.toNat ∧ b.toNat ≤ 58) := by
  intro b hb
  unfold recT at hb
  rcases List.mem_append.1 hb with hb | hb
  · rcases itoa_chars _ b hb with h | h
    · exact .inl h
    · exact .inr ⟨h.1, by omega⟩
  · rcases List.mem_cons.1 hb with rfl | hb
    · exact .inr (by decide)
    · rcases itoa_chars _ b hb with h | h
      · exact .inl h
      · exact .inr ⟨h.1, by omega⟩
theorem words_chars (x : Evn) : ∀ w ∈ wordsT x, ∀ b ∈ w, b = 45 ∨ (48 ≤ b.toNat ∧ b.toNat ≤ 58) := by
  intro w hw b hb
  unfold wordsT at hw
  rcases List.mem_append.1 hw with hw | hw
  · have : ∃ n, w = Lib.itoa n := by
      simp only [numsT, List.mem_cons, List.not_mem_nil, or_false] at hw
      rcases hw with rfl | rfl | rfl | rfl | rfl <;> exact ⟨_, rfl⟩
    obtain ⟨n, rfl⟩ := this
    rcases itoa_chars _ b hb with h | h
    · exact .inl h
    · exact .inr ⟨h.1, by omega⟩
  · obtain ⟨r, _, rfl⟩ := List.mem_map.1 hw
    exact recT_chars r b hb
theorem words_no {c : UInt8} (x : Evn) (h1 : c ≠ 45) (h2 : c.toNat < 48 ∨ 58 < c.toNat) : ∀ w ∈ wordsT x, c ∉ w := fun w hw hc => by
  rcases words_chars x w hw c hc with h | h
  · exact h1 h
  · omega
theorem join_mem {b : UInt8} {sep : Bs} : ∀ {ws : List Bs}, b ∈ Lib.join ws sep → b ∈ sep ∨ ∃ w ∈ ws, b ∈ w
  | [], h => by simp [Lib.join_nil] at h
  | w :: r, h => by
    rw [Lib.join_cons] at h
    rcases List.mem_append.1 h with h | h
    · exact .inr ⟨w, by simp, h⟩
    · unfold Lib.joinTail at h
      rw [List.mem_flatten] at h
      obtain ⟨l, hl, hb⟩ := h
      obtain ⟨v, hv, rfl⟩ := List.mem_map.1 hl
      rcases List.mem_append.1 hb with hb | hb
      · exact .inl hb
      · exact .inr ⟨v, by simp [hv], hb⟩
theorem line_ok (x : Evn) : ∀ b ∈ lineT x, okc b := fun b hb => by
  rcases join_mem hb with h | ⟨w, hw, h⟩
  · simp at h; exact .inr (.inl h)
  · rcases words_chars x w hw b h with h | h
    · exact .inr (.inr h)
    · exact .inl h
theorem line_nonl (x : Evn) : (10 : UInt8) ∉ lineT x := fun h => by
  rcases line_ok x 10 h with h | h | h
  · exact absurd h.1 (by decide)
  · exact absurd h (by decide)
  · exact absurd h (by decide)
theorem spl_line (x : Evn) : spl 32 (lineT x) = wordsT x :=
  spl_join (by simp [wordsT, numsT]) (words_no x (by decide) (.inl (by decide)))
theorem cut_rec (r : Rc) : Lib.cut (recT r) [58] = (Lib.itoa r.k, Lib.itoa r.v, true) :=
  cut_app _ (itoa_no r.k (by decide) (.inr (by decide)))
theorem recT_inj {r s : Rc} (hr : I64 r.k ∧ I64 r.v) (hs : I64 s.k ∧ I64 s.v) (h : recT r = recT s) : r = s := by
  have h1 := cut_rec r
  rw [h, cut_rec s] at h1
  obtain ⟨k, v⟩ := r
  obtain ⟨k', v'⟩ := s
  simp only [Prod.mk.injEq, and_true] at h1
  have e1 : k = k' := itoa_inj hr.1 hs.1 h1.1.symm
  have e2 : v = v' := itoa_inj hr.2 hs.2 h1.2.symm
  rw [e1, e2]
theorem recs_inj : ∀ {l m : List Rc}, (∀ r ∈ l, I64 r.k ∧ I64 r.v) → (∀ r ∈ m, I64 r.k ∧ I64 r.v) → l.map recT = m.map recT → l = m
  | [], [], _, _, _ => rfl
  | [], _ :: _, _, _, h => by simp at h
  | _ :: _, [], _, _, h => by simp at h
  | r :: l, s :: m, hl, hm, h => by
    simp only [List.map_cons, List.cons.injEq] at h
    rw [recT_inj (hl r (by simp)) (hm s (by simp)) h.1, recs_inj (fun q hq => hl q (by simp [hq])) (fun q hq => hm q (by simp [hq])) h.2]
theorem line_inj {x y : Evn} (hx : x.Bd) (hy : y.Bd) (h : lineT x = lineT y) : x = y := by
  have h1 : wordsT x = wordsT y := by rw [← spl_line x, ← spl_line y, h]
  unfold wordsT numsT at h1
  simp only [List.cons_append, List.nil_append, List.cons.injEq] at h1
  obtain ⟨a, b, c, d, e, f⟩ := h1
  replace a := itoa_inj hx.k hy.k a
  replace b := itoa_inj hx.w hy.w b
  replace c := itoa_inj hx.n hy.n c
  replace d := itoa_inj hx.f hy.f d
  replace e := itoa_inj hx.m hy.m e
  replace f := recs_inj hx.rs hy.rs f
  cases x; cases y
  simp only at a b c d e f
  subst a b c d e f
  rfl
open Classical in
/-- The event of a line, if it has one. -/
noncomputable def evOf (s : Bs) : Option Evn := if h : ∃ x : Evn, x.Bd ∧ lineT x = s then some h.choose else none
theorem evOf_some {s : Bs} {x : Evn} (h : evOf s = some x) : x.Bd ∧ lineT x = s := by
  unfold evOf at h
  split at h
  · rename_i hx
    have := hx.choose_spec
    rw [Option.some.inj h] at this
    exact this
  · cases h
theorem evOf_line {x : Evn} (hx : x.Bd) : evOf (lineT x) = some x := by
  have : ∃ y : Evn, y.Bd ∧ lineT y = lineT x := ⟨x, hx, rfl⟩
  unfold evOf
  rw [dif_pos this]
  rw [line_inj this.choose_spec.1 hx this.choose_spec.2]
theorem evOf_none {s : Bs} (h : ∀ x : Evn, x.Bd → lineT x ≠ s) : evOf s = none := by
  cases e : evOf s with
  | none => rfl
  | some x => exact absurd (evOf_some e).2 (h x (evOf_some e).1)
end Go.Proofs.YtpfjolckhlgodaaDoor
