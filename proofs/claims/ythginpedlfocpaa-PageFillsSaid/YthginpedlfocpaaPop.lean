/- The number of ones in a word, as the text reckons it, is the sum of its binary digits. -/
import Derived.Laws.BitsAllLaws
namespace Go.Alo

/-- Sum of the digits of x in base B, n of them. -/
def sd (B : Nat) : Nat → Nat → Nat
  | 0, _ => 0
  | n + 1, x => x % B + sd B n (x / B)

/-- The mask of n digits' low halves: M = 2^s. -/
def mk (M : Nat) : Nat → Nat
  | 0 => 0
  | n + 1 => (M - 1) + M * M * mk M n

theorem and_mul_add (s a b c d : Nat) (ha : a < 2 ^ s) (hc : c < 2 ^ s) : (a + 2 ^ s * b) &&& (c + 2 ^ s * d) = (a &&& c) + 2 ^ s * (b &&& d) := by
  apply Nat.eq_of_testBit_eq
  intro i
  have e1 : a + 2 ^ s * b = 2 ^ s * b + a := Nat.add_comm _ _
  have e2 : c + 2 ^ s * d = 2 ^ s * d + c := Nat.add_comm _ _
  have e3 : (a &&& c) + 2 ^ s * (b &&& d) = 2 ^ s * (b &&& d) + (a &&& c) := Nat.add_comm _ _
  have hac : a &&& c < 2 ^ s := Nat.lt_of_le_of_lt Nat.and_le_left ha
  rw [e1, e2, e3, Nat.testBit_and, Nat.testBit_two_pow_mul_add b ha, Nat.testBit_two_pow_mul_add d hc, Nat.testBit_two_pow_mul_add _ hac]
  split <;> simp [Nat.testBit_and]

/-- One step of the sum: the low halves and the high halves of n digits of base M * M, added, digit by digit. -/
theorem halves (s : Nat) (hs : s ≠ 0) : ∀ n x, x < (2 ^ s * 2 ^ s) ^ n →
    sd (2 ^ s * 2 ^ s) n ((x / 2 ^ s &&& mk (2 ^ s) n) + (x &&& mk (2 ^ s) n)) = sd (2 ^ s) (2 * n) x ∧
    (x / 2 ^ s &&& mk (2 ^ s) n) + (x &&& mk (2 ^ s) n) < (2 ^ s * 2 ^ s) ^ n
  | 0, x, hx => by
    simp only [Nat.pow_zero] at hx
    obtain rfl : x = 0 := by omega
    simp [sd, mk]
  | n + 1, x, hx => by
    have hM : 2 ≤ 2 ^ s := by
      have : 2 ^ 1 ≤ 2 ^ s := Nat.pow_le_pow_right (by omega) (by omega)
      omega
    generalize hMM : 2 ^ s = M at *
    have hMs : M * M = 2 ^ (s + s) := by rw [Nat.pow_add, hMM]
    have hpos : 0 < M := by omega
    have hpos2 : 0 < M * M := Nat.mul_pos hpos hpos
    have hq : x / (M * M) < (M * M) ^ n := by
      rw [Nat.pow_succ] at hx
      exact (Nat.div_lt_iff_lt_mul hpos2).2 hx
    have ih := halves s hs n (x / (M * M)) (by rw [hMM]; exact hq)
    rw [hMM] at ih
    obtain ⟨ih, ih2⟩ := ih
    -- the low digit
    have hd : x % (M * M) < M * M := Nat.mod_lt _ hpos2
    have hx1 : x = x % (M * M) + M * M * (x / (M * M)) := (Nat.mod_add_div _ _).symm
    have hlow : x % (M * M) % M = x % M := Nat.mod_mul_right_mod _ _ _
    have hmid : x % (M * M) / M = x / M % M := Nat.mod_mul_right_div_self _ _ _
    have hlo : x % M < M := Nat.mod_lt _ hpos
    have hhi : x / M % M < M := Nat.mod_lt _ hpos
    have hMM1 : M - 1 < M * M := by
      have : M * 1 ≤ M * M := Nat.mul_le_mul_left _ (by omega)
      omega
    have key : ∀ y, y &&& (M - 1) = y % M := fun y => by rw [← hMM]; exact Nat.and_two_pow_sub_one_eq_mod y s
    have a1 : x &&& mk M (n + 1) = x % M + M * M * (x / (M * M) &&& mk M n) := by
      have h := and_mul_add (s + s) (x % (M * M)) (x / (M * M)) (M - 1) (mk M n) (by rw [← hMs]; exact hd) (by rw [← hMs]; exact hMM1)
      rw [← hMs] at h
      rw [← hx1, key, hlow] at h
      exact h
    have a2 : x / M &&& mk M (n + 1) = x / M % M + M * M * (x / (M * M) / M &&& mk M n) := by
      have hx2 : x / M = x / M % (M * M) + M * M * (x / M / (M * M)) := (Nat.mod_add_div _ _).symm
      have hd2 : x / M % (M * M) < M * M := Nat.mod_lt _ hpos2
      have h := and_mul_add (s + s) (x / M % (M * M)) (x / M / (M * M)) (M - 1) (mk M n) (by rw [← hMs]; exact hd2) (by rw [← hMs]; exact hMM1)
      rw [← hMs] at h
      rw [← hx2, key] at h
      rw [Nat.mod_mul_right_mod] at h
      rw [show x / M / (M * M) = x / (M * M) / M from by rw [Nat.div_div_eq_div_mul, Nat.div_div_eq_div_mul, Nat.mul_comm]] at h
      exact h
    have hsum : (x / M &&& mk M (n + 1)) + (x &&& mk M (n + 1)) = (x / M % M + x % M) + M * M * ((x / (M * M) / M &&& mk M n) + (x / (M * M) &&& mk M n)) := by
      rw [a1, a2, Nat.mul_add]; omega
    have hsm : x / M % M + x % M < M * M := by
      have : 2 * M ≤ M * M := Nat.mul_le_mul_right _ hM
      omega
    constructor
    · rw [hsum]
      show ((x / M % M + x % M) + M * M * _) % (M * M) + sd (M * M) n (((x / M % M + x % M) + M * M * _) / (M * M)) = _
      rw [Nat.add_mul_mod_self_left, Nat.mod_eq_of_lt hsm, Nat.add_mul_div_left _ _ hpos2, Nat.div_eq_of_lt hsm, Nat.zero_add, ih]
      show _ = x % M + (x / M % M + sd M (2 * n) (x / M / M))
      rw [Nat.div_div_eq_div_mul]; omega
    · rw [hsum, Nat.pow_succ]
      have : (x / (M * M) / M &&& mk M n) + (x / (M * M) &&& mk M n) + 1 ≤ (M * M) ^ n := ih2
      have h3 := Nat.mul_le_mul_left (M * M) this
      rw [Nat.mul_add, Nat.mul_one] at h3
      rw [Nat.mul_comm ((M * M) ^ n)]
      omega

/-- Each of n digits in base B is at most k. -/
def dle (B k : Nat) : Nat → Nat → Prop
  | 0, _ => True
  | n + 1, x => x % B ≤ k ∧ dle B k n (x / B)

theorem halves_low (s : Nat) (hs : s ≠ 0) (n x : Nat) :
    ((x / 2 ^ s &&& mk (2 ^ s) (n + 1)) + (x &&& mk (2 ^ s) (n + 1))) = (x / 2 ^ s % 2 ^ s + x % 2 ^ s) + 2 ^ s * 2 ^ s * ((x / (2 ^ s * 2 ^ s) / 2 ^ s &&& mk (2 ^ s) n) + (x / (2 ^ s * 2 ^ s) &&& mk (2 ^ s) n)) ∧
    x / 2 ^ s % 2 ^ s + x % 2 ^ s < 2 ^ s * 2 ^ s := by
  have hM : 2 ≤ 2 ^ s := by
    have : 2 ^ 1 ≤ 2 ^ s := Nat.pow_le_pow_right (by omega) (by omega)
    omega
  generalize hMM : 2 ^ s = M at *
  have hMs : M * M = 2 ^ (s + s) := by rw [Nat.pow_add, hMM]
  have hpos : 0 < M := by omega
  have hpos2 : 0 < M * M := Nat.mul_pos hpos hpos
  have hd : x % (M * M) < M * M := Nat.mod_lt _ hpos2
  have hx1 : x = x % (M * M) + M * M * (x / (M * M)) := (Nat.mod_add_div _ _).symm
  have hlow : x % (M * M) % M = x % M := Nat.mod_mul_right_mod _ _ _
  have hlo : x % M < M := Nat.mod_lt _ hpos
  have hhi : x / M % M < M := Nat.mod_lt _ hpos
  have hMM1 : M - 1 < M * M := by
    have : M * 1 ≤ M * M := Nat.mul_le_mul_left _ (by omega)
    omega
  have key : ∀ y, y &&& (M - 1) = y % M := fun y => by rw [← hMM]; exact Nat.and_two_pow_sub_one_eq_mod y s
  have a1 : x &&& mk M (n + 1) = x % M + M * M * (x / (M * M) &&& mk M n) := by
    have h := and_mul_add (s + s) (x % (M * M)) (x / (M * M)) (M - 1) (mk M n) (by rw [← hMs]; exact hd) (by rw [← hMs]; exact hMM1)
    rw [← hMs] at h
    rw [← hx1, key, hlow] at h
    exact h
  have a2 : x / M &&& mk M (n + 1) = x / M % M + M * M * (x / (M * M) / M &&& mk M n) := by
    have hx2 : x / M = x / M % (M * M) + M * M * (x / M / (M * M)) := (Nat.mod_add_div _ _).symm
    have hd2 : x / M % (M * M) < M * M := Nat.mod_lt _ hpos2
    have h := and_mul_add (s + s) (x / M % (M * M)) (x / M / (M * M)) (M - 1) (mk M n) (by rw [← hMs]; exact hd2) (by rw [← hMs]; exact hMM1)
    rw [← hMs] at h
    rw [← hx2, key] at h
    rw [Nat.mod_mul_right_mod] at h
    rw [show x / M / (M * M) = x / (M * M) / M from by rw [Nat.div_div_eq_div_mul, Nat.div_div_eq_div_mul, Nat.mul_comm]] at h
    exact h
  refine ⟨by rw [a1, a2, Nat.mul_add]; omega, ?_⟩
  have : 2 * M ≤ M * M := Nat.mul_le_mul_right _ hM
  omega

theorem halves_dle (s : Nat) (hs : s ≠ 0) (k : Nat) : ∀ n x, dle (2 ^ s) k (2 * n) x → dle (2 ^ s * 2 ^ s) (k + k) n ((x / 2 ^ s &&& mk (2 ^ s) n) + (x &&& mk (2 ^ s) n))
  | 0, _, _ => trivial
  | n + 1, x, hx => by
    obtain ⟨h0, h1, h2⟩ := hx
    obtain ⟨e, hl⟩ := halves_low s hs n x
    have hpos2 : 0 < 2 ^ s * 2 ^ s := by omega
    rw [e]
    refine ⟨?_, ?_⟩
    · rw [Nat.add_mul_mod_self_left, Nat.mod_eq_of_lt hl]; omega
    · rw [Nat.add_mul_div_left _ _ hpos2, Nat.div_eq_of_lt hl, Nat.zero_add]
      refine halves_dle s hs k n _ ?_
      rw [← Nat.div_div_eq_div_mul]; exact h2

/-- The third step: nibbles of at most 4 each, added in pairs. -/
theorem nibbles : ∀ n z, dle 16 4 (2 * n) z → z < 256 ^ n →
    sd 256 n ((z / 16 + z) &&& mk 16 n) = sd 16 (2 * n) z ∧ dle 256 8 n ((z / 16 + z) &&& mk 16 n) ∧ ((z / 16 + z) &&& mk 16 n) < 256 ^ n
  | 0, z, _, hz => by
    simp only [Nat.pow_zero] at hz
    obtain rfl : z = 0 := by omega
    simp [sd, mk, dle]
  | n + 1, z, hd, hz => by
    obtain ⟨h0, h1, h2⟩ := hd
    have hy : z / 256 < 256 ^ n := by rw [Nat.pow_succ] at hz; omega
    have h2' : dle 16 4 (2 * n) (z / 256) := by rw [show z / 256 = z / 16 / 16 from by omega]; exact h2
    have ih := nibbles n (z / 256) h2' hy
    have hy4 : z / 256 % 16 ≤ 4 := by
      cases n with
      | zero => simp only [Nat.pow_zero] at hy; omega
      | succ n => exact h2'.1
    obtain ⟨i1, i2, i3⟩ := ih
    have e : z / 16 + z = (z % 16 + z / 16 % 16 + 16 * (z / 256 % 16 + z / 16 % 16)) + 2 ^ 8 * (z / 256 / 16 + z / 256) := by omega
    have e2 : (z / 16 + z) &&& mk 16 (n + 1) = (z % 16 + z / 16 % 16) + 256 * ((z / 256 / 16 + z / 256) &&& mk 16 n) := by
      have h := and_mul_add 8 (z % 16 + z / 16 % 16 + 16 * (z / 256 % 16 + z / 16 % 16)) (z / 256 / 16 + z / 256) 15 (mk 16 n) (by omega) (by omega)
      rw [← e, nat_mask4] at h
      rw [show mk 16 (n + 1) = 15 + 2 ^ 8 * mk 16 n from rfl, h]
      omega
    rw [e2]
    have hl8 : z % 16 + z / 16 % 16 ≤ 8 := by omega
    refine ⟨?_, ⟨?_, ?_⟩, ?_⟩
    · show _ % 256 + sd 256 n (_ / 256) = z % 16 + (z / 16 % 16 + sd 16 (2 * n) (z / 16 / 16))
      rw [show (z % 16 + z / 16 % 16 + 256 * ((z / 256 / 16 + z / 256) &&& mk 16 n)) / 256 = (z / 256 / 16 + z / 256) &&& mk 16 n from by omega, i1, show z / 16 / 16 = z / 256 from by omega]
      omega
    · rw [Nat.add_mul_mod_self_left, Nat.mod_eq_of_lt (by omega)]; exact hl8
    · rw [show (z % 16 + z / 16 % 16 + 256 * ((z / 256 / 16 + z / 256) &&& mk 16 n)) / 256 = (z / 256 / 16 + z / 256) &&& mk 16 n from by omega]
      exact i2
    · rw [Nat.pow_succ]; omega

/-- The last steps: eight bytes of at most 8 each. -/
theorem bytes8 (r : Nat) (hr : r < 256 ^ 8) (hd : dle 256 8 8 r) :
    r + r / 256 < 2 ^ 64 ∧ (r + r / 256) + (r + r / 256) / 65536 < 2 ^ 64 ∧
    ((r + r / 256) + (r + r / 256) / 65536) + ((r + r / 256) + (r + r / 256) / 65536) / 4294967296 < 2 ^ 63 ∧
    (((r + r / 256) + (r + r / 256) / 65536) + ((r + r / 256) + (r + r / 256) / 65536) / 4294967296) % 128 = sd 256 8 r := by
  simp only [dle, sd] at hd ⊢
  obtain ⟨h0, h1, h2, h3, h4, h5, h6, h7, -⟩ := hd
  generalize e0 : r % 256 = c0 at *
  generalize f0 : r / 256 = r1 at *
  generalize e1 : r1 % 256 = c1 at *
  generalize f1 : r1 / 256 = r2 at *
  generalize e2 : r2 % 256 = c2 at *
  generalize f2 : r2 / 256 = r3 at *
  generalize e3 : r3 % 256 = c3 at *
  generalize f3 : r3 / 256 = r4 at *
  generalize e4 : r4 % 256 = c4 at *
  generalize f4 : r4 / 256 = r5 at *
  generalize e5 : r5 % 256 = c5 at *
  generalize f5 : r5 / 256 = r6 at *
  generalize e6 : r6 % 256 = c6 at *
  generalize f6 : r6 / 256 = r7 at *
  generalize e7 : r7 % 256 = c7 at *
  have g7 : r7 = c7 := by omega
  have g6 : r6 = c6 + 256 * c7 := by omega
  have g5 : r5 = c5 + 256 * c6 + 65536 * c7 := by omega
  have g4 : r4 = c4 + 256 * c5 + 65536 * c6 + 16777216 * c7 := by omega
  have g3 : r3 = c3 + 256 * r4 := by omega
  have g2 : r2 = c2 + 256 * r3 := by omega
  have g1 : r1 = c1 + 256 * r2 := by omega
  have g0 : r = c0 + 256 * r1 := by omega
  clear e0 f0 e1 f1 e2 f2 e3 f3 e4 f4 e5 f5 e6 f6 e7 hr
  have k1 : (r + r1) / 65536 = r2 + r3 := by
    rw [show r + r1 = (c0 + c1 + 256 * (c1 + c2)) + 65536 * (r2 + r3) from by omega, Nat.add_mul_div_left _ _ (by decide), Nat.div_eq_of_lt (by omega), Nat.zero_add]
  have k2 : (r + r1 + (r2 + r3)) / 4294967296 = r4 + r5 + (r6 + r7) := by
    rw [show r + r1 + (r2 + r3) = ((c0 + 256 * c1 + 65536 * c2 + 16777216 * c3) + (c1 + 256 * c2 + 65536 * c3 + 16777216 * c4) + (c2 + 256 * c3 + 65536 * c4 + 16777216 * c5) + (c3 + 256 * c4 + 65536 * c5 + 16777216 * c6)) + 4294967296 * (r4 + r5 + (r6 + r7)) from by omega,
      Nat.add_mul_div_left _ _ (by decide), Nat.div_eq_of_lt (by omega), Nat.zero_add]
  rw [k1, k2]
  have hb : r ≤ 8 * 72340172838076673 := by omega
  have hb1 : r1 ≤ 8 * 282578800148737 := by omega
  have hb2 : r2 ≤ 8 * 1103823438081 := by omega
  have hb3 : r3 ≤ 8 * 4311810305 := by omega
  have hb4 : r4 ≤ 8 * 16843009 := by omega
  have hb5 : r5 ≤ 8 * 65793 := by omega
  have hb6 : r6 ≤ 8 * 257 := by omega
  refine ⟨by omega, by omega, by omega, ?_⟩
  rw [show r + r1 + (r2 + r3) + (r4 + r5 + (r6 + r7)) = (c0 + (c1 + (c2 + (c3 + (c4 + (c5 + (c6 + (c7 + 0)))))))) + 128 * (2 * (r1 + r2 + r3 + r4 + r5 + r6 + r7)) from by omega,
    Nat.add_mul_mod_self_left, Nat.mod_eq_of_lt (by omega)]

theorem dle_bits : ∀ n x, dle 2 1 n x
  | 0, _ => trivial
  | n + 1, x => ⟨by omega, dle_bits n _⟩

theorem pop_all (x : Nat) (hx : x < 18446744073709551616) (x1 x2 x3 x4 x5 x6 : Nat) (h1 : x1 = (x / 2 &&& 6148914691236517205) + (x &&& 6148914691236517205))
    (h2 : x2 = (x1 / 4 &&& 3689348814741910323) + (x1 &&& 3689348814741910323)) (h3 : x3 = (x2 / 16 + x2) &&& 1085102592571150095) (h4 : x4 = x3 + x3 / 256)
    (h5 : x5 = x4 + x4 / 65536) (h6 : x6 = x5 + x5 / 4294967296) :
    x1 < 18446744073709551616 ∧ x2 < 18446744073709551616 ∧ x2 / 16 + x2 < 18446744073709551616 ∧ x4 < 18446744073709551616 ∧ x5 < 18446744073709551616 ∧ x6 < 9223372036854775808 ∧ x6 % 128 = sd 2 64 x := by
  have m0 : mk (2 ^ 1) 32 = 6148914691236517205 := by decide +kernel
  have m1 : mk (2 ^ 2) 16 = 3689348814741910323 := by decide +kernel
  have m2 : mk 16 8 = 1085102592571150095 := by decide +kernel
  have a := halves 1 (by decide) 32 x (by rw [show (2 ^ 1 * 2 ^ 1) ^ 32 = 18446744073709551616 from by decide +kernel]; exact hx)
  have ad := halves_dle 1 (by decide) 1 32 x (dle_bits _ _)
  rw [m0] at a ad
  rw [show (2 : Nat) ^ 1 = 2 from rfl, ← h1] at a ad
  obtain ⟨a1, a2⟩ := a
  rw [show (2 * 2) ^ 32 = 18446744073709551616 from by decide +kernel] at a2
  have b := halves 2 (by decide) 16 x1 (by rw [show (2 ^ 2 * 2 ^ 2) ^ 16 = 18446744073709551616 from by decide +kernel]; exact a2)
  have bd := halves_dle 2 (by decide) 2 16 x1 ad
  rw [m1] at b bd
  rw [show (2 : Nat) ^ 2 = 4 from rfl, ← h2] at b bd
  obtain ⟨b1, b2⟩ := b
  rw [show (4 * 4) ^ 16 = 18446744073709551616 from by decide +kernel] at b2
  obtain ⟨c1, c2, c3⟩ := nibbles 8 x2 bd (by rw [show 256 ^ 8 = 18446744073709551616 from by decide +kernel]; exact b2)
  rw [m2, ← h3] at c1 c2 c3
  obtain ⟨d1, d2, d3, d4⟩ := bytes8 x3 c3 c2
  rw [← h4] at d1 d2 d3 d4
  rw [← h5] at d2 d3 d4
  rw [← h6] at d3 d4
  refine ⟨a2, b2, ?_, d1, d2, d3, ?_⟩
  · have hb : x2 % 16 ≤ 4 ∧ x2 / 16 < 1152921504606846976 := ⟨bd.1, by omega⟩
    have : x2 / 1152921504606846976 % 16 ≤ 4 := by
      have q := bd
      simp only [dle] at q
      obtain ⟨-, -, -, -, -, -, -, -, -, -, -, -, -, -, -, q, -⟩ := q
      rw [show x2 / 1152921504606846976 = x2 / 16 / 16 / 16 / 16 / 16 / 16 / 16 / 16 / 16 / 16 / 16 / 16 / 16 / 16 / 16 from by omega]
      exact q
    omega
  · rw [d4, c1]
    show sd 16 16 x2 = _
    have b1' : sd 16 16 x2 = sd 4 32 x1 := b1
    have a1' : sd 4 32 x1 = sd 2 64 x := a1
    rw [b1', a1']

end Go.Alo
