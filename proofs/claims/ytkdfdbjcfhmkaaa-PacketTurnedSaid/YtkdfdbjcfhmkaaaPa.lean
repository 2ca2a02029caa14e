/- The sum of bytes, as a plain law: it tells any byte that is turned, and two that change places. -/
namespace Go.Proofs.Ytkdfdbjcfhmkaaa
set_option linter.unusedSimpArgs false
def poly : BitVec 32 := 0xedb88320#32
/-- One bit on. -/
def crcT (r : BitVec 32) : BitVec 32 := (r >>> 1) ^^^ (if r.getLsbD 0 then poly else 0#32)
theorem crcT_lin (x y : BitVec 32) : crcT (x ^^^ y) = crcT x ^^^ crcT y := by
  unfold crcT
  rw [BitVec.getLsbD_xor]
  cases x.getLsbD 0 <;> cases y.getLsbD 0
  all_goals
    refine BitVec.eq_of_getLsbD_eq fun i hi => ?_
    simp [BitVec.getLsbD_xor, BitVec.getLsbD_ushiftRight]
    try (generalize x.getLsbD (1 + i) = a; generalize y.getLsbD (1 + i) = b; generalize poly.getLsbD i = c; cases a <;> cases b <;> cases c <;> rfl)
theorem crcT_zero {x : BitVec 32} (h : crcT x = 0#32) : x = 0#32 := by
  have h31 : (crcT x).getLsbD 31 = false := by rw [h]; rfl
  unfold crcT at h h31
  rw [BitVec.getLsbD_xor, BitVec.getLsbD_ushiftRight] at h31
  have e : x.getLsbD (1 + 31) = false := BitVec.getLsbD_of_ge _ _ (by decide)
  rw [e] at h31
  have h0 : x.getLsbD 0 = false := by
    cases hx : x.getLsbD 0 with
    | false => rfl
    | true =>
      rw [hx] at h31
      exact absurd h31 (by decide)
  rw [h0] at h
  refine BitVec.eq_of_getLsbD_eq fun i hi => ?_
  cases i with
  | zero => rw [h0]; rfl
  | succ i =>
    have := congrArg (fun b : BitVec 32 => b.getLsbD i) h
    simp [BitVec.getLsbD_xor, BitVec.getLsbD_ushiftRight] at this
    rw [Nat.add_comm]
    rw [this]
    simp
def crc8 (r : BitVec 32) : BitVec 32 := crcT (crcT (crcT (crcT (crcT (crcT (crcT (crcT r)))))))
theorem crc8_lin (x y : BitVec 32) : crc8 (x ^^^ y) = crc8 x ^^^ crc8 y := by
  unfold crc8; simp only [crcT_lin]
theorem crc8_zero {x : BitVec 32} (h : crc8 x = 0#32) : x = 0#32 := by
  unfold crc8 at h
  exact crcT_zero (crcT_zero (crcT_zero (crcT_zero (crcT_zero (crcT_zero (crcT_zero (crcT_zero h)))))))
theorem xor_zero {x y : BitVec 32} : x ^^^ y = 0#32 ↔ x = y := by
  constructor
  · intro h
    have := congrArg (fun b => b ^^^ y) h
    simpa [BitVec.xor_assoc] using this
  · rintro rfl; simp
theorem crc8_inj {x y : BitVec 32} (h : crc8 x = crc8 y) : x = y := by
  rw [← xor_zero]
  apply crc8_zero
  rw [crc8_lin, h]; simp
/-- A byte as a number of 32 bits. -/
def by32 (c : Int) : BitVec 32 := BitVec.ofInt 32 c
theorem by32_inj {c d : Int} (hc : 0 ≤ c ∧ c ≤ 255) (hd : 0 ≤ d ∧ d ≤ 255) (h : by32 c = by32 d) : c = d := by
  have := congrArg BitVec.toNat h
  unfold by32 at this
  rw [BitVec.toNat_ofInt, BitVec.toNat_ofInt] at this
  omega
def crcS (r : BitVec 32) (c : Int) : BitVec 32 := crc8 (r ^^^ by32 c)
def crcL (r : BitVec 32) (L : List Int) : BitVec 32 := L.foldl crcS r
def crcSum (L : List Int) : BitVec 32 := crcL 0xffffffff#32 L ^^^ 0xffffffff#32
theorem crcL_inj {r s : BitVec 32} : ∀ {L : List Int}, crcL r L = crcL s L → r = s
  | [], h => h
  | c :: L, h => by
    have h : crcL (crcS r c) L = crcL (crcS s c) L := h
    have := crcL_inj h
    have := crc8_inj this
    have := congrArg (fun b => b ^^^ by32 c) this
    simpa [BitVec.xor_assoc] using this
theorem crcL_app (r : BitVec 32) (L M : List Int) : crcL r (L ++ M) = crcL (crcL r L) M := by
  unfold crcL; rw [List.foldl_append]
theorem crcSum_inj {L M : List Int} (h : crcSum L = crcSum M) : crcL 0xffffffff#32 L = crcL 0xffffffff#32 M := by
  have := congrArg (fun b => b ^^^ 0xffffffff#32) h
  simpa [crcSum, BitVec.xor_assoc] using this
/-- A byte that is turned is told. -/
theorem crc_turned {A B : List Int} {c d : Int} (hc : 0 ≤ c ∧ c ≤ 255) (hd : 0 ≤ d ∧ d ≤ 255) (hne : c ≠ d) : crcSum (A ++ c :: B) ≠ crcSum (A ++ d :: B) := fun h => by
  have h := crcSum_inj h
  rw [crcL_app, crcL_app] at h
  have h : crcL (crcS (crcL 0xffffffff#32 A) c) B = crcL (crcS (crcL 0xffffffff#32 A) d) B := h
  have := crc8_inj (crcL_inj h)
  have := congrArg (fun b => crcL 0xffffffff#32 A ^^^ b) this
  simp only [← BitVec.xor_assoc, BitVec.xor_self, BitVec.zero_xor] at this
  exact hne (by32_inj hc hd this)
theorem crc8_byte : ∀ n : Fin 256, n ≠ 0 → crc8 (BitVec.ofNat 32 n.val) ≠ BitVec.ofNat 32 n.val := by decide +kernel
theorem by32_xor {c d : Int} (hc : 0 ≤ c ∧ c ≤ 255) (hd : 0 ≤ d ∧ d ≤ 255) (hne : c ≠ d) : ∃ n : Fin 256, n ≠ 0 ∧ by32 c ^^^ by32 d = BitVec.ofNat 32 n.val := by
  refine ⟨⟨c.toNat ^^^ d.toNat, ?_⟩, ?_, ?_⟩
  · exact Nat.xor_lt_two_pow (n := 8) (by omega) (by omega)
  · intro h
    have h : c.toNat ^^^ d.toNat = 0 := congrArg Fin.val h
    have := congrArg (fun b => b ^^^ d.toNat) h
    simp only [Nat.xor_assoc, Nat.xor_self, Nat.xor_zero, Nat.zero_xor] at this
    omega
  · apply BitVec.eq_of_toNat_eq
    have hlt : c.toNat ^^^ d.toNat < 256 := Nat.xor_lt_two_pow (n := 8) (by omega) (by omega)
    rw [BitVec.toNat_xor, BitVec.toNat_ofNat, Nat.mod_eq_of_lt (by omega)]
    unfold by32
    rw [BitVec.toNat_ofInt, BitVec.toNat_ofInt]
    congr 1 <;> omega
/-- Two bytes that change places, side by side, are told. -/
theorem crc_swapped {A B : List Int} {c d : Int} (hc : 0 ≤ c ∧ c ≤ 255) (hd : 0 ≤ d ∧ d ≤ 255) (hne : c ≠ d) : crcSum (A ++ c :: d :: B) ≠ crcSum (A ++ d :: c :: B) := fun h => by
  have h := crcSum_inj h
  rw [crcL_app, crcL_app] at h
  generalize crcL 0xffffffff#32 A = r at h
  have h : crcL (crcS (crcS r c) d) B = crcL (crcS (crcS r d) c) B := h
  have h := crc8_inj (crcL_inj h)
  unfold crcS at h
  rw [crc8_lin, crc8_lin] at h
  have := congrArg (fun b => crc8 r ^^^ (b ^^^ (by32 d ^^^ crc8 (by32 d)))) h
  obtain ⟨n, hn, he⟩ := by32_xor hc hd hne
  apply crc8_byte n hn
  rw [← he, crc8_lin]
  generalize crc8 r = a at *
  generalize crc8 (by32 c) = b at *
  generalize crc8 (by32 d) = e at *
  generalize by32 c = f at *
  generalize by32 d = g at *
  refine BitVec.eq_of_getLsbD_eq fun i hi => ?_
  have := congrArg (fun b : BitVec 32 => b.getLsbD i) h
  simp only [BitVec.getLsbD_xor] at this ⊢
  revert this
  generalize a.getLsbD i = a; generalize b.getLsbD i = b; generalize e.getLsbD i = e; generalize f.getLsbD i = f; generalize g.getLsbD i = g
  cases a <;> cases b <;> cases e <;> cases f <;> cases g <;> decide
end Go.Proofs.Ytkdfdbjcfhmkaaa
