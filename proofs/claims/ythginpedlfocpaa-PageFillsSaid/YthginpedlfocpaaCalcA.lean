/- Contracts of small functions of calc and math/bits: a word's ones, powers of two, the bound. -/
import Derived.Test.YthginpedlfocpaaProg
import Derived.Test.YthginpedlfocpaaPop
import Derived.WalkKit
import Derived.WalkSpells
import Derived.WalkLawsBesides
import Derived.Lib.Hide
namespace Go.Proofs.Ythginpedlfocpaa
open Go.RowKit Go.Alo

/-- A power of two. -/
def IsP (x : Nat) : Prop := ∃ k, x = 2 ^ k

theorem isP_one : IsP 1 := ⟨0, rfl⟩

theorem isP_double (x : Nat) (hx : 0 < x) : IsP (2 * x) ↔ IsP x := by
  constructor
  · rintro ⟨k, hk⟩
    cases k with
    | zero => simp at hk; omega
    | succ k => exact ⟨k, by rw [Nat.pow_succ] at hk; omega⟩
  · rintro ⟨k, rfl⟩
    exact ⟨k + 1, by rw [Nat.pow_succ]; omega⟩

theorem isP_odd (x : Nat) (h : x % 2 = 1) : IsP x ↔ x = 1 := by
  constructor
  · rintro ⟨k, rfl⟩
    cases k with
    | zero => rfl
    | succ k => rw [Nat.pow_succ] at h; omega
  · rintro rfl; exact isP_one

theorem isP_zero : ¬ IsP 0 := by
  rintro ⟨k, hk⟩
  have := Nat.two_pow_pos k
  omega

theorem sd_zero (n x : Nat) (hx : x < 2 ^ n) : sd 2 n x = 0 ↔ x = 0 := by
  induction n generalizing x with
  | zero => simp [sd]; omega
  | succ n ih =>
    have := ih (x / 2) (by rw [Nat.pow_succ] at hx; omega)
    simp only [sd]
    omega

theorem sd_one (n x : Nat) (hx : x < 2 ^ n) : sd 2 n x = 1 ↔ IsP x := by
  induction n generalizing x with
  | zero =>
    simp only [Nat.pow_zero] at hx
    obtain rfl : x = 0 := by omega
    simp [sd, isP_zero]
  | succ n ih =>
    have hx2 : x / 2 < 2 ^ n := by rw [Nat.pow_succ] at hx; omega
    have h1 := ih (x / 2) hx2
    have h0 := sd_zero n (x / 2) hx2
    simp only [sd]
    rcases Nat.mod_two_eq_zero_or_one x with h | h
    · by_cases hz : x = 0
      · subst hz
        have : ¬ IsP 0 := isP_zero
        have h0' : sd 2 n (0 / 2) = 0 := h0.2 (by simp)
        simp [h0', this]
      · have := isP_double (x / 2) (by omega)
        rw [show 2 * (x / 2) = x from by omega] at this
        rw [this, ← h1]; omega
    · rw [isP_odd x h]
      omega

theorem i64_and127 (x : Int) (h0 : 0 ≤ x) (h1 : x < 9223372036854775808) : bits .and .i64 x 127 = x % 128 :=
  bits_mask .i64 63 (by decide) (fun n a b => by rw [IntKind.wrap_i64]; omega) 7 (by decide) x h0 (by omega)

theorem u64_in {n : Int} (h0 : 0 ≤ n) (h1 : n < 18446744073709551616) : IntKind.u64.wrap n = n := IntWalk.u64_in n ⟨h0, by omega⟩

/-- How many ones a word has. -/
def pcount (x : Nat) : Nat := sd 2 64 x
theorem pcount_eq (x : Nat) : pcount x = sd 2 64 x := rfl
attribute [irreducible] pcount

set_option maxRecDepth 100000 in
set_option maxHeartbeats 1000000 in
theorem ones_any (x : Int) (w : World) (h0 : 0 ≤ x) (h1 : x < 18446744073709551616) :
    Calls Try.prog 100 #[.int .u64 x] w fun e w' => e = .returned (.int .i64 (pcount x.toNat)) ∧ w = w' := by
  obtain ⟨n, rfl⟩ := Int.eq_ofNat_of_zero_le h0
  have hn : n < 18446744073709551616 := by omega
  rw [Int.toNat_natCast]
  have hpc := pcount_eq n
  generalize e1 : (n / 2 &&& 6148914691236517205) + (n &&& 6148914691236517205) = x1
  generalize e2 : (x1 / 4 &&& 3689348814741910323) + (x1 &&& 3689348814741910323) = x2
  generalize e3 : (x2 / 16 + x2) &&& 1085102592571150095 = x3
  generalize e4 : x3 + x3 / 256 = x4
  generalize e5 : x4 + x4 / 65536 = x5
  generalize e6 : x5 + x5 / 4294967296 = x6
  obtain ⟨b1, b2, b3, b4, b5, b6, b7⟩ := pop_all n hn x1 x2 x3 x4 x5 x6 e1.symm e2.symm e3.symm e4.symm e5.symm e6.symm
  have c1 : IntKind.u64.wrap (bits .and .u64 ((n : Int) / 2) 6148914691236517205 + bits .and .u64 (n : Int) 6148914691236517205) = (x1 : Int) := by
    rw [show ((n : Int) / 2) = ((n / 2 : Nat) : Int) from by omega, u64_and _ _ (by omega) (by omega) (by omega) (by omega), u64_and _ _ (by omega) (by omega) (by omega) (by omega)]
    simp only [Int.toNat_natCast, Int.reduceToNat]
    rw [← Int.natCast_add, e1]
    exact u64_in (by omega) (by omega)
  have c2 : IntKind.u64.wrap (bits .and .u64 ((x1 : Int) / 4) 3689348814741910323 + bits .and .u64 (x1 : Int) 3689348814741910323) = (x2 : Int) := by
    rw [show ((x1 : Int) / 4) = ((x1 / 4 : Nat) : Int) from by omega, u64_and _ _ (by omega) (by omega) (by omega) (by omega), u64_and _ _ (by omega) (by omega) (by omega) (by omega)]
    simp only [Int.toNat_natCast, Int.reduceToNat]
    rw [← Int.natCast_add, e2]
    exact u64_in (by omega) (by omega)
  have c3 : bits .and .u64 (IntKind.u64.wrap ((x2 : Int) / 16 + (x2 : Int))) 1085102592571150095 = (x3 : Int) := by
    rw [show ((x2 : Int) / 16 + (x2 : Int)) = ((x2 / 16 + x2 : Nat) : Int) from by omega, u64_in (by omega) (by omega), u64_and _ _ (by omega) (by omega) (by omega) (by omega)]
    simp only [Int.toNat_natCast, Int.reduceToNat]
    rw [e3]
  have c4 : IntKind.u64.wrap ((x3 : Int) + (x3 : Int) / 256) = (x4 : Int) := by rw [u64_in (by omega) (by omega)]; omega
  have c5 : IntKind.u64.wrap ((x4 : Int) + (x4 : Int) / 65536) = (x5 : Int) := by rw [u64_in (by omega) (by omega)]; omega
  have c6 : IntKind.u64.wrap ((x5 : Int) + (x5 : Int) / 4294967296) = (x6 : Int) := by rw [u64_in (by omega) (by omega)]; omega
  have c7 : bits .and .i64 (wrap64 (x6 : Int)) 127 = ((pcount n : Nat) : Int) := by
    rw [show wrap64 (x6 : Int) = (x6 : Int) from by unfold wrap64; omega, i64_and127 _ (by omega) (by omega)]; omega
  clear hpc b1 b2 b3 b4 b5 b6 b7 e1 e2 e3 e4 e5 e6 hn h0
  have C1 := Lib.hid c1
  have C2 := Lib.hid c2
  have C3 := Lib.hid c3
  have C4 := Lib.hid c4
  have C5 := Lib.hid c5
  have C6 := Lib.hid c6
  have C7 := Lib.hid c7
  clear c1 c2 c3 c4 c5 c6 c7
  have hn : 0 ≤ (n : Int) := by omega
  go_enter Try.func100, Try.ntmps100
  go_wp2
  go_ret
  refine ⟨?_, rfl⟩
  simp only [C1.out, C2.out, C3.out, C4.out, C5.out, C6.out, C7.out]
  rfl

/-- Whether a word is a power of two, as the text reckons it. -/
def isPB (x : Nat) : Bool := pcount x == 1

theorem isPB_iff (x : Nat) (hx : x < 18446744073709551616) : isPB x = true ↔ IsP x := by
  unfold isPB
  rw [beq_iff_eq, pcount_eq]
  exact sd_one 64 x (by rw [show (2 : Nat) ^ 64 = 18446744073709551616 from by decide +kernel]; exact hx)

theorem isPB_int (x : Nat) : (((pcount x : Nat) : Int) == 1) = isPB x := by
  unfold isPB
  rw [Bool.eq_iff_iff, beq_iff_eq, beq_iff_eq]
  omega
attribute [irreducible] isPB

set_option maxHeartbeats 400000 in
theorem pow2_any (x : Int) (w : World) (h0 : 0 ≤ x) (h1 : x < 18446744073709551616) :
    Calls Try.prog 24 #[.int .u64 x] w fun e w' => e = .returned (.bool (isPB x.toNat)) ∧ w = w' := by
  go_enter Try.func24, Try.ntmps24
  go_wp2_with (go_at_call 100; refine (ones_any _ _ h0 h1).mono ?_; rintro e w' ⟨rfl, rfl⟩)
  go_ret
  refine ⟨?_, rfl⟩
  show Ending.returned (Value.bool (((pcount x.toNat : Nat) : Int) == 1)) = _
  rw [isPB_int]

def heldF (x : Int) (b : Bool) : Int × Int := if b = true ∨ 1099511627776 < x then (0, 3) else (x, 0)

set_option maxHeartbeats 400000 in
theorem held_any (x : Int) (b : Bool) (w : World) :
    Calls Try.prog 96 #[.int .u64 x, .bool b] w fun e w' => e = .returned (.tuple #[.int .u64 (heldF x b).1, .int .i64 (heldF x b).2]) ∧ w = w' := by
  cases b with
  | true =>
    go_enter Try.func96, Try.ntmps96
    go_wp2
    go_ret2
    exact ⟨rfl, rfl⟩
  | false =>
    by_cases h : 1099511627776 < x
    · have hf : heldF x false = (0, 3) := by simp [heldF, h]
      have HF := Lib.hid hf
      clear hf
      go_enter Try.func96, Try.ntmps96
      go_wp2
      go_ret2
      exact ⟨by rw [HF.out]; rfl, rfl⟩
    · have hf : heldF x false = (x, 0) := by simp [heldF, h]
      have HF := Lib.hid hf
      clear hf
      go_enter Try.func96, Try.ntmps96
      go_wp2
      go_ret2
      exact ⟨by rw [HF.out]; rfl, rfl⟩

/-- Cutting the low bits off. -/
theorem andNot_pow (x a : Int) (h0 : 0 ≤ x) (h1 : x < 18446744073709551616) (ha0 : 0 ≤ a) (ha1 : a < 18446744073709551616) (hp : isPB a.toNat = true) :
    bits .andNot .u64 x (IntKind.u64.wrap (a - 1)) = x - x % a := by
  obtain ⟨n, rfl⟩ := Int.eq_ofNat_of_zero_le h0
  obtain ⟨m, rfl⟩ := Int.eq_ofNat_of_zero_le ha0
  rw [Int.toNat_natCast] at hp
  obtain ⟨k, rfl⟩ := (isPB_iff m (by omega)).1 hp
  have hpos : 0 < 2 ^ k := Nat.two_pow_pos k
  have hk : k < 64 := by
    rcases Nat.lt_or_ge k 64 with h | h
    · exact h
    · have : 2 ^ 64 ≤ 2 ^ k := Nat.pow_le_pow_right (by omega) h
      have e64 : (2 : Nat) ^ 64 = 18446744073709551616 := by decide +kernel
      omega
  rw [show ((2 ^ k : Nat) : Int) - 1 = ((2 ^ k - 1 : Nat) : Int) from by omega, u64_in (by omega) (by omega),
    u64_andNot _ _ (by omega) (by omega) (by omega) (by omega)]
  simp only [Int.toNat_natCast]
  have e : 18446744073709551615 - (2 ^ k - 1) = 0 + 2 ^ k * (2 ^ (64 - k) - 1) := by
    rw [Nat.mul_sub, ← Nat.pow_add, show k + (64 - k) = 64 from by omega, show (2 : Nat) ^ 64 = 18446744073709551616 from by decide +kernel]
    omega
  have hx := and_mul_add k (n % 2 ^ k) (n / 2 ^ k) 0 (2 ^ (64 - k) - 1) (Nat.mod_lt _ hpos) hpos
  rw [Nat.mod_add_div, ← e, Nat.and_zero, Nat.zero_add, Nat.and_two_pow_sub_one_eq_mod] at hx
  have hq : n / 2 ^ k < 2 ^ (64 - k) := by
    rw [Nat.div_lt_iff_lt_mul hpos, ← Nat.pow_add, show 64 - k + k = 64 from by omega, show (2 : Nat) ^ 64 = 18446744073709551616 from by decide +kernel]
    omega
  rw [Nat.mod_eq_of_lt hq] at hx
  have hm : (n : Int) % ((2 ^ k : Nat) : Int) = ((n % 2 ^ k : Nat) : Int) := (Int.natCast_emod n (2 ^ k)).symm
  rw [hm]
  have := Nat.mod_add_div n (2 ^ k)
  omega

def downF (x a : Int) : Int × Int := if isPB a.toNat = true then heldF (x - x % a) false else (0, 2)

set_option maxHeartbeats 400000 in
theorem down_any (x a : Int) (w : World) (h0 : 0 ≤ x) (h1 : x < 18446744073709551616) (ha0 : 0 ≤ a) (ha1 : a < 18446744073709551616) :
    Calls Try.prog 22 #[.int .u64 x, .int .u64 a] w fun e w' => e = .returned (.tuple #[.int .u64 (downF x a).1, .int .i64 (downF x a).2]) ∧ w = w' := by
  by_cases hp : isPB a.toNat = true
  · have hf : downF x a = heldF (x - x % a) false := by simp [downF, hp]
    have HF := Lib.hid hf
    clear hf
    have HA := Lib.hid (andNot_pow x a h0 h1 ha0 ha1 hp)
    go_enter Try.func22, Try.ntmps22
    go_wp2_with (first | (go_at_call 24; refine (pow2_any _ _ ha0 ha1).mono ?_; rintro e w' ⟨rfl, rfl⟩) | (go_at_call 96; refine (held_any _ _ _).mono ?_; rintro e w' ⟨rfl, rfl⟩))
    go_ret2
    exact ⟨by rw [HF.out, ← HA.out]; rfl, rfl⟩
  · have hf : downF x a = (0, 2) := by simp [downF, hp]
    have HF := Lib.hid hf
    clear hf
    have hp' : isPB a.toNat = false := by simpa using hp
    clear hp
    go_enter Try.func22, Try.ntmps22
    go_wp2_with (go_at_call 24; refine (pow2_any _ _ ha0 ha1).mono ?_; rintro e w' ⟨rfl, rfl⟩)
    go_ret2
    exact ⟨by rw [HF.out]; rfl, rfl⟩

def upF (x a : Int) : Int × Int := if isPB a.toNat = true then heldF ((x + (a - 1)) % 18446744073709551616 - (x + (a - 1)) % 18446744073709551616 % a) (decide (18446744073709551616 ≤ x + (a - 1))) else (0, 2)

end Go.Proofs.Ythginpedlfocpaa
