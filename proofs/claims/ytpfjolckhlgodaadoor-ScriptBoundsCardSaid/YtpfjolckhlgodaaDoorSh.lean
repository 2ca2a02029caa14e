/- Scripts, as bytes: what parsing gives, by lines. -/
import Derived.Test.YtpfjolckhlgodaaDoorSg
namespace Go.Proofs.YtpfjolckhlgodaaDoor
open Go
set_option linter.unusedSimpArgs false
set_option linter.unusedVariables false
abbrev PR := List Evn × Int × Int
/-- Line by line; the last one is to be empty. -/
noncomputable def parseL (acc : List Evn) : List Bs → PR
  | [] => (acc, 0, 0)
  | [z] => if z = [] then (acc, 0, 0) else ([], (acc.length : Int) + 1, 240)
  | z :: y :: r => match evOf z with
    | some x => parseL (acc ++ [x]) (y :: r)
    | none => ([], (acc.length : Int) + 1, 240)
noncomputable def parseP (s : Bs) : PR := if 65536 < s.length ∨ 2048 < s.count 10 then ([], 0, 3) else parseL [] (spl 10 s)
def printT (l : List Evn) : Bs := l.flatMap fun x => lineT x ++ [10]
theorem parseL_nil (acc : List Evn) : parseL acc (spl 10 []) = (acc, 0, 0) := by simp [spl, parseL]
theorem parseL_cut {acc : List Evn} {p r : Bs} (hp : (10 : UInt8) ∉ p) : parseL acc (spl 10 (p ++ 10 :: r)) = match evOf p with
    | some x => parseL (acc ++ [x]) (spl 10 r)
    | none => ([], (acc.length : Int) + 1, 240) := by
  rw [spl_app r hp]
  cases hs : spl 10 r with
  | nil => exact absurd hs (spl_ne 10 r)
  | cons y t => rfl
theorem parseL_end {acc : List Evn} {s : Bs} (h : (10 : UInt8) ∉ s) (h0 : s ≠ []) : parseL acc (spl 10 s) = ([], (acc.length : Int) + 1, 240) := by
  rw [spl_none h]
  unfold parseL
  rw [if_neg h0]
theorem printT_cons (x : Evn) (l : List Evn) : printT (x :: l) = lineT x ++ 10 :: printT l := by
  unfold printT
  rw [List.flatMap_cons, List.append_assoc]
  rfl
theorem printT_app (l m : List Evn) : printT (l ++ m) = printT l ++ printT m := by unfold printT; rw [List.flatMap_append]
theorem printT_snoc (l : List Evn) (x : Evn) : printT (l ++ [x]) = printT l ++ (lineT x ++ [10]) := by
  rw [printT_app]
  congr 1
  unfold printT
  simp
/-- What was printed, with something behind it. -/
theorem parseL_print : ∀ (l acc : List Evn) (s : Bs), (∀ x ∈ l, x.Bd) → parseL acc (spl 10 (printT l ++ s)) = parseL (acc ++ l) (spl 10 s)
  | [], acc, s, _ => by simp [printT]
  | x :: l, acc, s, h => by
    rw [printT_cons, List.append_assoc, List.cons_append, parseL_cut (line_nonl x), evOf_line (h x (by simp))]
    show parseL (acc ++ [x]) _ = _
    rw [parseL_print l (acc ++ [x]) s (fun y hy => h y (by simp [hy])), List.append_assoc]
    rfl
theorem parseL_back : ∀ (n : Nat) (s : Bs) (acc : List Evn) (L : List Evn) (k : Int), s.length ≤ n → parseL acc (spl 10 s) = (L, k, 0) → ∃ l, L = acc ++ l ∧ printT l = s ∧ k = 0 ∧ ∀ x ∈ l, x.Bd := by
  intro n
  induction n with
  | zero =>
    intro s acc L k hs h
    have : s = [] := List.length_eq_zero_iff.1 (by omega)
    subst this
    rw [parseL_nil] at h
    cases h
    exact ⟨[], by simp, rfl, rfl, fun x hx => by simp at hx⟩
  | succ n ih =>
    intro s acc L k hs h
    by_cases hc : (10 : UInt8) ∈ s
    · obtain ⟨p, r, rfl, hp⟩ := split_at hc
      rw [parseL_cut hp] at h
      split at h
      · rename_i x hx
        obtain ⟨hb, hl⟩ := evOf_some hx
        obtain ⟨l, h1, h2, h3, h4⟩ := ih r _ L k (by simp at hs; omega) h
        refine ⟨x :: l, by rw [h1, List.append_assoc]; rfl, by rw [printT_cons, h2, hl], h3, fun y hy => ?_⟩
        rcases List.mem_cons.1 hy with rfl | hy
        · exact hb
        · exact h4 y hy
      · simp at h
    · by_cases h0 : s = []
      · subst h0
        rw [parseL_nil] at h
        cases h
        exact ⟨[], by simp, rfl, rfl, fun x hx => by simp at hx⟩
      · rw [parseL_end hc h0] at h
        simp at h
theorem parseL_err : ∀ (n : Nat) (s : Bs) (acc : List Evn) (L : List Evn) (k e : Int), s.length ≤ n → parseL acc (spl 10 s) = (L, k, e) → e ≠ 0 → L = [] := by
  intro n
  induction n with
  | zero =>
    intro s acc L k e hs h he
    have : s = [] := List.length_eq_zero_iff.1 (by omega)
    subst this
    rw [parseL_nil] at h
    cases h
    exact absurd rfl he
  | succ n ih =>
    intro s acc L k e hs h he
    by_cases hc : (10 : UInt8) ∈ s
    · obtain ⟨p, r, rfl, hp⟩ := split_at hc
      rw [parseL_cut hp] at h
      split at h
      · exact ih r _ L k e (by simp at hs; omega) h he
      · simp at h; exact h.1
    · by_cases h0 : s = []
      · subst h0
        rw [parseL_nil] at h
        cases h
        exact absurd rfl he
      · rw [parseL_end hc h0] at h
        simp at h; exact h.1
theorem count_line (x : Evn) : (lineT x).count 10 = 0 := List.count_eq_zero.2 (line_nonl x)
theorem count_print : ∀ (l : List Evn), (printT l).count 10 = l.length
  | [] => rfl
  | x :: l => by
    rw [printT_cons, List.count_append, List.count_cons, count_line, count_print l]
    simp
theorem parseP_print {l : List Evn} (hb : ∀ x ∈ l, x.Bd) (h1 : (printT l).length ≤ 65536) (h2 : l.length ≤ 2048) : parseP (printT l) = (l, 0, 0) := by
  unfold parseP
  rw [if_neg (by rw [count_print]; omega)]
  have := parseL_print l [] [] hb
  rw [List.append_nil, parseL_nil] at this
  rw [this]; rfl
theorem parseP_back {s : Bs} {L : List Evn} {k : Int} (h : parseP s = (L, k, 0)) : printT L = s ∧ k = 0 ∧ s.length ≤ 65536 ∧ L.length ≤ 2048 ∧ ∀ x ∈ L, x.Bd := by
  unfold parseP at h
  split at h
  · simp at h
  · rename_i hn
    obtain ⟨l, h1, h2, h3, h4⟩ := parseL_back s.length s [] L k (Nat.le_refl _) h
    rw [List.nil_append] at h1
    subst h1
    refine ⟨h2, h3, by omega, ?_, h4⟩
    rw [← h2, count_print] at hn
    omega
theorem parseP_err {s : Bs} {L : List Evn} {k e : Int} (h : parseP s = (L, k, e)) (he : e ≠ 0) : L = [] := by
  unfold parseP at h
  split at h
  · simp at h; exact h.1
  · exact parseL_err s.length s [] L k e (Nat.le_refl _) h he
/-- Lines of a text are no longer than it, and no more than its records. -/
theorem join_len : ∀ (ws : List Bs), ws.length ≤ (Lib.join ws [32]).length + 1
  | [] => by simp
  | [w] => by simp
  | w :: v :: r => by
    have e : Lib.join (w :: v :: r) [32] = w ++ 32 :: Lib.join (v :: r) [32] := by
      rw [Lib.join_cons, Lib.join_cons]
      simp [Lib.joinTail]
    have := join_len (v :: r)
    rw [e]
    simp only [List.length_cons, List.length_append] at this ⊢
    omega
theorem rs_len (x : Evn) : x.rs.length ≤ (lineT x).length := by
  have := join_len (wordsT x)
  unfold lineT
  simp only [wordsT, numsT, List.length_append, List.length_cons, List.length_nil, List.length_map] at this ⊢
  omega
theorem itoa_len {n : Int} (h : I64 n) : (Lib.itoa n).length ≤ 21 := Lib.itoa_length_le n h.1 h.2
theorem joinTail_len {k : Nat} : ∀ {ws : List Bs}, (∀ w ∈ ws, w.length ≤ k) → (Lib.joinTail [32] ws).length ≤ ws.length * (k + 1)
  | [], _ => by simp [Lib.joinTail]
  | w :: r, h => by
    have := joinTail_len (ws := r) (fun x hx => h x (by simp [hx]))
    have hw := h w (by simp)
    have e : Lib.joinTail [32] (w :: r) = (32 :: w) ++ Lib.joinTail [32] r := by simp [Lib.joinTail]
    rw [e, List.length_append, List.length_cons, List.length_cons, Nat.succ_mul]
    omega
theorem line_len {x : Evn} (hb : x.Bd) : (lineT x).length ≤ (x.rs.length + 5) * 44 := by
  unfold lineT wordsT numsT
  rw [List.cons_append, Lib.join_cons]
  have h0 := itoa_len hb.k
  have := joinTail_len (k := 43) (ws := [Lib.itoa x.w, Lib.itoa x.n, Lib.itoa x.f, Lib.itoa x.m] ++ x.rs.map recT) (fun w hw => by
    rcases List.mem_append.1 hw with hw | hw
    · have a := itoa_len hb.w
      have b := itoa_len hb.n
      have c := itoa_len hb.f
      have d := itoa_len hb.m
      simp only [List.mem_cons, List.not_mem_nil, or_false] at hw
      rcases hw with rfl | rfl | rfl | rfl <;> omega
    · obtain ⟨r, hr, rfl⟩ := List.mem_map.1 hw
      have a := itoa_len (hb.rs r hr).1
      have b := itoa_len (hb.rs r hr).2
      unfold recT
      simp only [List.length_append, List.length_cons]
      omega)
  simp only [List.cons_append, List.nil_append, List.length_append, List.length_cons, List.length_nil, List.length_map] at this ⊢
  omega
end Go.Proofs.YtpfjolckhlgodaaDoor
