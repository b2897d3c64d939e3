/- Contracts of the reference's rounding. -/
import Derived.Test.YthginpedlfocpaaRefC
namespace Go.Proofs.Ythginpedlfocpaa
open Go.RowKit Go.Alo

theorem len_small {l : List Int} (h : Nm l) (hv : val l < 18446744073709551616) : l.length ≤ 5 := by
  rcases Nat.lt_or_ge l.length 6 with h1 | h1
  · omega
  · have hne : l ≠ [] := by intro e; subst e; simp at h1
    have h2 := val_ge h hne
    have h3 := pow4_mono (show 5 ≤ l.length - 1 by omega)
    have h7 : (10000 : Int) ^ 5 = 100000000000000000000 := by decide
    omega

def rdownF (x a : Int) : Int × Int := if isPB a.toNat = true then backF (x - x % a) else (0, 2)
def rupF (x a : Int) : Int × Int := if isPB a.toNat = true then backF (if 0 < x % a then x - x % a + a else x - x % a) else (0, 2)

def PairPost (p : Int × Int) (w : World) (e : Ending) (w' : World) : Prop := e = .returned (.tuple #[.int .u64 p.1, .int .i64 p.2]) ∧ Below w.heap.size w w'

theorem isPB_pos (a : Int) (h0 : 0 ≤ a) (h1 : a < 18446744073709551616) (hp : isPB a.toNat = true) : 1 ≤ a := by
  rcases Int.lt_or_le a 1 with h | h
  · have : a = 0 := by omega
    subst this
    exact absurd ((isPB_iff _ (by decide)).1 hp) isP_zero
  · exact h

set_option maxRecDepth 100000 in
set_option maxHeartbeats 1000000 in
theorem rdown_any (x a : Int) (w : World) (h0 : 0 ≤ x) (h1 : x < 18446744073709551616) (ha0 : 0 ≤ a) (ha1 : a < 18446744073709551616) :
    Calls Try.prog 23 #[.int .u64 x, .int .u64 a] w (PairPost (rdownF x a) w) := by
  by_cases hp : isPB a.toNat = true
  · have ha := isPB_pos a ha0 ha1 hp
    have hr0 : 0 ≤ x % a := Int.emod_nonneg x (by omega)
    have hr1 : x % a ≤ x := by
      have := Int.emod_add_mul_ediv x a
      have := Int.mul_nonneg ha0 (Int.ediv_nonneg h0 ha0)
      omega
    have hf : rdownF x a = backF (x - x % a) := by simp [rdownF, hp]
    have HF := Lib.hid hf
    have ha' : (a == 0) = false := by simp; omega
    clear hf
    go_enter Try.func23, Try.ntmps23
    go_wp2_with (go_at_call 25; refine (refPow2_any _ _ ha0 ha1).mono ?_; rintro e w' ⟨rfl, rfl⟩)
    refine (of_any (x - x % a) _ (by omega) (by omega)).mono ?_
    rintro e w1 ⟨v, l1, rfl, ho1, hn1, hv1, hb1⟩
    obtain ⟨A1, c1, rfl, hc1, hm1, hr1', hlen1⟩ := own_reads ho1
    have HR1 := Lib.hid hr1'
    have HN1 := Lib.hid hn1
    have HV1 := Lib.hid hv1
    have HB1 := Lib.hid hb1
    have hl1 : l1.length ≤ 9223372036854775807 := by have := len_small hn1 (by rw [hv1]; omega); omega
    clear hr1' hn1 hv1 ho1 hb1 hlen1 hc1 hm1
    go_wp2_with fail
    refine (back_any A1 c1 l1 _ HR1.out HN1.out hl1).mono ?_
    rintro e w2 ⟨rfl, hb2⟩
    rw [HV1.out]
    have HB2 := Lib.hid hb2
    clear hb2
    go_wp2
    go_ret2
    exact ⟨by rw [HF.out]; rfl, HB1.out.trans (HB2.out.mono HB1.out.size)⟩
  · have hf : rdownF x a = (0, 2) := by simp [rdownF, hp]
    have HF := Lib.hid hf
    clear hf
    have hp' : isPB a.toNat = false := by simpa using hp
    clear hp
    go_enter Try.func23, Try.ntmps23
    go_wp2_with (go_at_call 25; refine (refPow2_any _ _ ha0 ha1).mono ?_; rintro e w' ⟨rfl, rfl⟩)
    go_ret2
    exact ⟨by rw [HF.out]; rfl, Below.refl _ _⟩

set_option maxRecDepth 100000 in
set_option maxHeartbeats 1000000 in
theorem rup_any (x a : Int) (w : World) (h0 : 0 ≤ x) (h1 : x < 18446744073709551616) (ha0 : 0 ≤ a) (ha1 : a < 18446744073709551616) :
    Calls Try.prog 21 #[.int .u64 x, .int .u64 a] w (PairPost (rupF x a) w) := by
  by_cases hp : isPB a.toNat = true
  · have ha := isPB_pos a ha0 ha1 hp
    have hr0 : 0 ≤ x % a := Int.emod_nonneg x (by omega)
    have hr1 : x % a ≤ x := by
      have := Int.emod_add_mul_ediv x a
      have := Int.mul_nonneg ha0 (Int.ediv_nonneg h0 ha0)
      omega
    have hf : rupF x a = backF (if 0 < x % a then x - x % a + a else x - x % a) := by simp [rupF, hp]
    have HF := Lib.hid hf
    have ha' : (a == 0) = false := by simp; omega
    clear hf
    go_enter Try.func21, Try.ntmps21
    go_wp2_with (go_at_call 25; refine (refPow2_any _ _ ha0 ha1).mono ?_; rintro e w' ⟨rfl, rfl⟩)
    refine (of_any (x - x % a) _ (by omega) (by omega)).mono ?_
    rintro e w1 ⟨v, l1, rfl, ho1, hn1, hv1, hb1⟩
    obtain ⟨A1, c1, rfl, hc1, hm1, hr1', hlen1⟩ := own_reads ho1
    have HR1 := Lib.hid hr1'
    have HN1 := Lib.hid hn1
    have HV1 := Lib.hid hv1
    have HB1 := Lib.hid hb1
    have hl5 : l1.length ≤ 5 := len_small hn1 (by rw [hv1]; omega)
    have hl1 : l1.length ≤ 9223372036854775807 := by omega
    clear hr1' hn1 hv1 ho1 hb1 hlen1 hc1 hm1
    by_cases hpos : 0 < x % a
    · go_wp2_with fail
      refine (of_any a _ ha0 ha1).mono ?_
      rintro e w2 ⟨v, l2, rfl, ho2, hn2, hv2, hb2⟩
      obtain ⟨A2, c2, rfl, hc2, hm2, hr2', hlen2⟩ := own_reads ho2
      have HR2 := Lib.hid hr2'
      have HN2 := Lib.hid hn2
      have HV2 := Lib.hid hv2
      have HB2 := Lib.hid hb2
      have HR1' := Lib.hid (HR1.out.below hb2)
      have hl2 : l2.length ≤ 5 := len_small hn2 (by rw [hv2]; omega)
      clear hr2' hn2 hv2 ho2 hb2 hlen2 hc2 hm2
      go_wp2_with fail
      refine (plus_any A1 A2 c1 c2 l1 l2 _ HR1'.out HR2.out HN1.out HN2.out (by omega) (by omega)).mono ?_
      rintro e w3 ⟨v, l3, rfl, ho3, hn3, hv3, hb3⟩
      rw [HV1.out, HV2.out] at hv3
      obtain ⟨A3, c3, rfl, hc3, hm3, hr3', hlen3⟩ := own_reads ho3
      have HR3 := Lib.hid hr3'
      have HN3 := Lib.hid hn3
      have HV3 := Lib.hid hv3
      have HB3 := Lib.hid hb3
      have hl3 : l3.length ≤ 9223372036854775807 := by unfold maxLen at hm3; omega
      clear hr3' hn3 hv3 ho3 hb3 hlen3 hc3 hm3
      go_wp2_with fail
      refine (back_any A3 c3 l3 _ HR3.out HN3.out hl3).mono ?_
      rintro e w4 ⟨rfl, hb4⟩
      rw [HV3.out]
      have HB4 := Lib.hid hb4
      have HPOS := Lib.hid hpos
      clear hb4
      go_wp2
      go_ret2
      have b2 := HB1.out.trans (HB2.out.mono HB1.out.size)
      have b3 := b2.trans (HB3.out.mono b2.size)
      exact ⟨by rw [HF.out, if_pos HPOS.out]; rfl, b3.trans (HB4.out.mono b3.size)⟩
    · have HPOS := Lib.hid hpos
      go_wp2_with fail
      refine (back_any A1 c1 l1 _ HR1.out HN1.out hl1).mono ?_
      rintro e w2 ⟨rfl, hb2⟩
      rw [HV1.out]
      have HB2 := Lib.hid hb2
      clear hb2 hpos
      go_wp2
      go_ret2
      exact ⟨by rw [HF.out, if_neg (by have := HPOS.out; omega)]; rfl, HB1.out.trans (HB2.out.mono HB1.out.size)⟩
  · have hf : rupF x a = (0, 2) := by simp [rupF, hp]
    have HF := Lib.hid hf
    clear hf
    have hp' : isPB a.toNat = false := by simpa using hp
    clear hp
    go_enter Try.func21, Try.ntmps21
    go_wp2_with (go_at_call 25; refine (refPow2_any _ _ ha0 ha1).mono ?_; rintro e w' ⟨rfl, rfl⟩)
    go_ret2
    exact ⟨by rw [HF.out]; rfl, Below.refl _ _⟩

/-- The two downs are one. -/
theorem down_same (x a : Int) : downF x a = rdownF x a := by
  unfold downF rdownF heldF backF
  simp

/-- The two ups are one. -/
theorem up_same (x a : Int) (h0 : 0 ≤ x) (h1 : x < 18446744073709551616) (ha0 : 0 ≤ a) (ha1 : a < 18446744073709551616) : upF x a = rupF x a := by
  unfold upF rupF
  by_cases hp : isPB a.toNat = true
  · rw [if_pos hp, if_pos hp]
    have ha := isPB_pos a ha0 ha1 hp
    obtain ⟨k, hk⟩ := (isPB_iff _ (by omega)).1 hp
    have hd : (18446744073709551616 : Int) % a = 0 := by
      have hk64 : k < 64 := by
        rcases Nat.lt_or_ge k 64 with h | h
        · exact h
        · have : 2 ^ 64 ≤ 2 ^ k := Nat.pow_le_pow_right (by omega) h
          have e64 : (2 : Nat) ^ 64 = 18446744073709551616 := by decide +kernel
          omega
      have e : (18446744073709551616 : Nat) = 2 ^ k * 2 ^ (64 - k) := by
        rw [← Nat.pow_add, show k + (64 - k) = 64 from by omega]
      have ea : a = ((2 ^ k : Nat) : Int) := by omega
      have : (18446744073709551616 : Int) = ((2 ^ k * 2 ^ (64 - k) : Nat) : Int) := by rw [← e]; rfl
      rw [this, ea, Int.natCast_mul]
      exact Int.mul_emod_right _ _
    have hr0 : 0 ≤ x % a := Int.emod_nonneg x (by omega)
    have hr1 : x % a < a := Int.emod_lt_of_pos x (by omega)
    have ex := Int.emod_add_mul_ediv x a
    have eM := Int.emod_add_mul_ediv 18446744073709551616 a
    rw [hd] at eM
    obtain ⟨q, hq⟩ : ∃ q, x / a = q := ⟨_, rfl⟩
    obtain ⟨M, hM⟩ : ∃ M, 18446744073709551616 / a = M := ⟨_, rfl⟩
    obtain ⟨r, hr⟩ : ∃ r, x % a = r := ⟨_, rfl⟩
    rw [hq, hr] at ex
    rw [hM] at eM
    rw [hr] at hr0 hr1 ⊢
    have hq0 : 0 ≤ a * q := Int.mul_nonneg ha0 (by rw [← hq]; exact Int.ediv_nonneg h0 ha0)
    have hqM : q < M := by
      rcases Int.lt_or_le q M with h | h
      · exact h
      · have := Int.mul_le_mul_of_nonneg_left h ha0
        omega
    have hqM1 : a * (q + 1) ≤ a * M := Int.mul_le_mul_of_nonneg_left (by omega) ha0
    rw [Int.mul_add, Int.mul_one] at hqM1
    by_cases hpos : 0 < r
    · rw [if_pos hpos]
      by_cases hov : 18446744073709551616 ≤ x + (a - 1)
      · unfold heldF backF
        rw [decide_eq_true hov, if_pos (by simp), if_pos (by omega)]
      · have e1 : (x + (a - 1)) % 18446744073709551616 = x + (a - 1) := by omega
        have e2 : (x + (a - 1)) % a = r - 1 := by
          rw [show x + (a - 1) = (r - 1) + a * (q + 1) from by rw [Int.mul_add]; omega, Int.add_mul_emod_self_left, Int.emod_eq_of_lt (by omega) (by omega)]
        rw [e1, e2, decide_eq_false hov]
        unfold heldF backF
        simp only [Bool.false_eq_true, false_or]
        rw [show x + (a - 1) - (r - 1) = x - r + a from by omega]
    · rw [if_neg hpos]
      have e1 : (x + (a - 1)) % 18446744073709551616 = x + (a - 1) := by omega
      have e2 : (x + (a - 1)) % a = a - 1 := by
        rw [show x + (a - 1) = (a - 1) + a * q from by omega, Int.add_mul_emod_self_left, Int.emod_eq_of_lt (by omega) (by omega)]
      rw [e1, e2, decide_eq_false (by omega)]
      unfold heldF backF
      simp only [Bool.false_eq_true, false_or]
      rw [show x + (a - 1) - (a - 1) = x - r from by omega]
  · rw [if_neg hp, if_neg hp]

end Go.Proofs.Ythginpedlfocpaa
