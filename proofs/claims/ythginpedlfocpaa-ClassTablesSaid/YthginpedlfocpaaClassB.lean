/- Contracts: slices.BinarySearch over numbers; class.Of; the reference's Of, Slices, Blocks. -/
import Derived.Test.YthginpedlfocpaaClassA
import Derived.BigQuiet
namespace Go.Proofs.Ythginpedlfocpaa
open Go.RowKit Go.Alo
attribute [local go_sem] max_ints min_ints

/-- How many of a rising row are below a number. -/
def lowF (xs : List Int) (x : Int) : Nat := (xs.takeWhile (fun y => decide (y < x))).length

theorem lowF_le (xs : List Int) (x : Int) : lowF xs x ≤ xs.length := by
  unfold lowF
  have := (List.takeWhile_prefix (l := xs) (fun y => decide (y < x))).length_le
  exact this

theorem lowF_lt {xs : List Int} (hs : xs.Pairwise (· < ·)) (x : Int) (i : Nat) (hi : i < xs.length) : xs[i] < x ↔ i < lowF xs x := by
  induction xs generalizing i with
  | nil => simp at hi
  | cons a l ih =>
    obtain ⟨h1, h2⟩ := List.pairwise_cons.1 hs
    unfold lowF
    by_cases ha : a < x
    · rw [List.takeWhile_cons_of_pos (by simpa using ha), List.length_cons]
      cases i with
      | zero => simp [ha]
      | succ i =>
        have := ih h2 i (by simpa using hi)
        simp only [List.getElem_cons_succ]
        rw [this]
        unfold lowF
        omega
    · rw [List.takeWhile_cons_of_neg (by simpa using ha)]
      simp only [List.length_nil, Nat.not_lt_zero, iff_false]
      cases i with
      | zero => simpa using ha
      | succ i =>
        have := h1 (l[i]'(by simpa using hi)) (List.getElem_mem _)
        simp only [List.getElem_cons_succ]
        omega

set_option maxHeartbeats 400000 in
theorem cisnan_any (x : Int) (w : World) : Calls Try.prog 162 #[.int .u64 x] w fun e w' => e = .returned (.bool false) ∧ w = w' := by
  have hx : (x != x) = false := by simp
  go_enter Try.func162, Try.ntmps162
  go_wp2
  go_ret
  exact ⟨rfl, rfl⟩

set_option maxHeartbeats 400000 in
theorem sisnan_any (x : Int) (w : World) : Calls Try.prog 148 #[.int .u64 x] w fun e w' => e = .returned (.bool false) ∧ w = w' := by
  have hx : (x != x) = false := by simp
  go_enter Try.func148, Try.ntmps148
  go_wp2
  go_ret
  exact ⟨rfl, rfl⟩

set_option maxHeartbeats 400000 in
theorem less_any (x y : Int) (w : World) : Calls Try.prog 147 #[.int .u64 x, .int .u64 y] w fun e w' => e = .returned (.bool (decide (x < y))) ∧ w = w' := by
  go_enter Try.func147, Try.ntmps147
  go_wp2_with (go_at_call 162; refine (cisnan_any _ _).mono ?_; rintro e w' ⟨rfl, rfl⟩)
  go_ret
  exact ⟨rfl, rfl⟩

def BsPost (xs : List Int) (x : Int) (w : World) (e : Ending) (w' : World) : Prop :=
  (∃ b : Bool, e = .returned (.tuple #[.int .i64 (lowF xs x), .bool b])) ∧ w = w'

set_option maxRecDepth 100000 in
set_option maxHeartbeats 1000000 in
theorem bs_any (A : Option Addr) (cap : Nat) (xs : List Int) (x : Int) (w : World) (hr : Reads w A (ints .u64 xs)) (hs : xs.Pairwise (· < ·)) (hl : xs.length ≤ 1000000) :
    Calls Try.prog 114 #[.slice A xs.length cap, .int .u64 x] w (BsPost xs x w) := by
  have HR := Lib.hid hr
  have HS := Lib.hid hs
  have HLE := Lib.hid (lowF_le xs x)
  clear hr hs
  go_enter Try.func114, Try.ntmps114
  go_wp2
  go_loop [7, 8] (fun p q => ∃ (i j : Nat), p = .int .i64 i ∧ q = .int .i64 j ∧ i ≤ j ∧ j ≤ xs.length ∧ Hid (i ≤ lowF xs x ∧ lowF xs x ≤ j)) (fun p q => (intOf q - intOf p).toNat)
  case atStart => exact ⟨0, xs.length, rfl, rfl, Nat.zero_le _, Nat.le_refl _, ⟨Nat.zero_le _, HLE.out⟩⟩
  case round =>
    obtain ⟨i, j, rfl, rfl, hij, hj, HI⟩ := hrel
    by_cases hlt : i < j
    · obtain ⟨m, hm⟩ : ∃ m, (i + j) / 2 = m := ⟨_, rfl⟩
      have hm0 : i ≤ m := by omega
      have hm1 : m < j := by omega
      have hmx : m < xs.length := by omega
      obtain ⟨b1, o1, hA1, hc1⟩ := HR.out.get m (by simpa using hmx)
      rw [ints_get] at hc1
      have hiff := lowF_lt HS.out x m hmx
      obtain ⟨y, hy⟩ : ∃ y, xs[m] = y := ⟨_, rfl⟩
      rw [hy] at hc1 hiff
      have HIFF := Lib.hid hiff
      subst hA1
      have HMM := Lib.hid hm
      clear hiff hy
      by_cases hyx : y < x
      · have hd : decide (y < x) = true := by simp [hyx]
        have HYX := Lib.hid hyx
        clear hyx
        go_wp2_with (go_at_call 147; refine (less_any _ _ _).mono ?_; rintro e w' ⟨rfl, rfl⟩)
        go_round
        case rel => exact ⟨m + 1, j, by congr 1; omega, rfl, by omega, hj, Lib.hid ⟨HIFF.out.1 HYX.out, HI.out.2⟩⟩
        case measure => simp [intOf]; omega
      · have hd : decide (y < x) = false := by simp; omega
        have HYX := Lib.hid hyx
        clear hyx
        go_wp2_with (go_at_call 147; refine (less_any _ _ _).mono ?_; rintro e w' ⟨rfl, rfl⟩)
        go_round
        case rel => exact ⟨i, m, rfl, by congr 1; omega, hm0, by omega, Lib.hid ⟨HI.out.1, by have := HIFF.out; have := HYX.out; omega⟩⟩
        case measure => simp [intOf]; omega
    · have hij' : i = j := by omega
      have hi := HI.out
      have hlow : lowF xs x = i := by omega
      have HLOW := Lib.hid hlow
      clear hi hlow hij'
      by_cases hin : i < xs.length
      · obtain ⟨b1, o1, hA1, hc1⟩ := HR.out.get i (by simpa using hin)
        rw [ints_get] at hc1
        obtain ⟨y, hy⟩ : ∃ y, xs[i] = y := ⟨_, rfl⟩
        rw [hy] at hc1
        subst hA1
        clear hy
        by_cases hyx : y = x
        · have hd : (y == x) = true := by simp [hyx]
          clear hyx
          go_wp2
          go_ret2
          exact ⟨⟨_, by rw [HLOW.out]; rfl⟩, rfl⟩
        · have hd : (y == x) = false := by simp [hyx]
          clear hyx
          go_wp2_with (go_at_call 148; refine (sisnan_any _ _).mono ?_; rintro e w' ⟨rfl, rfl⟩)
          go_ret2
          exact ⟨⟨_, by rw [HLOW.out]; rfl⟩, rfl⟩
      · go_wp2
        go_ret2
        exact ⟨⟨_, by rw [HLOW.out]; rfl⟩, rfl⟩

theorem SZ_rises : SZ.Pairwise (· < ·) := by decide

/-- The class of so many bytes. -/
def cofF (n : Int) : Int × Int := if n ≤ 1024 then (lowF SZ n, 0) else (0, 2)

theorem low_in (n : Int) : lowF SZ n < 12 ↔ n ≤ 1024 := by
  have := lowF_lt SZ_rises n 11 (by decide)
  have h2 := lowF_le SZ n
  have h3 : SZ.length = 12 := rfl
  have h4 : SZ[11]'(by decide) = 1024 := rfl
  omega

set_option maxRecDepth 100000 in
set_option maxHeartbeats 1000000 in
theorem cof_any (n : Int) (w : World) : Calls Try.prog 47 #[.int .u64 n] w fun e w' => e = .returned (.tuple #[.int .i64 (cofF n).1, .int .i64 (cofF n).2]) ∧ Below w.heap.size w w' := by
  by_cases h : 1024 < n
  · have hc : cofF n = (0, 2) := by unfold cofF; rw [if_neg (by omega)]
    have HC := Lib.hid hc
    clear hc
    go_enter Try.func47, Try.ntmps47
    go_wp2
    go_ret2
    exact ⟨by rw [HC.out]; rfl, Below.refl _ _⟩
  · have hc : cofF n = ((lowF SZ n : Int), 0) := by unfold cofF; rw [if_pos (by omega)]
    have HC := Lib.hid hc
    clear hc
    go_enter Try.func47, Try.ntmps47
    go_wp2_with fail
    refine (sizes_any w).mono ?_
    rintro e w1 ⟨rfl, hb1⟩
    have HB := Lib.hid hb1
    clear hb1
    go_wp2_with fail
    have hrow := (Row.new w1 163 (ints .u64 SZ)).reads'
    rw [SZ_eq] at hrow
    refine (bs_any _ _ SZ n _ hrow SZ_rises (by decide)).mono ?_
    rintro e w2 ⟨⟨b, rfl⟩, rfl⟩
    clear hrow
    go_wp2
    go_ret2
    exact ⟨by rw [HC.out]; rfl, (HB.out).trans ((((Below.refl _ _).alloc (Nat.le_refl _) _)).mono HB.out.size)⟩

/-- The reference's class of so many bytes. -/
def rofF (n : Int) : Int × Bool := if n ≤ 1024 then (lowF SZ n, true) else (0, false)

set_option maxRecDepth 100000 in
set_option maxHeartbeats 1000000 in
theorem rof_any (n : Int) (w : World) : Calls Try.prog 48 #[.int .u64 n] w fun e w' => e = .returned (.tuple #[.int .i64 (rofF n).1, .bool (rofF n).2]) ∧ Below w.heap.size w w' := by
  have HLI := Lib.hid (low_in n)
  have HLE := Lib.hid (lowF_le SZ n)
  go_enter Try.func48, Try.ntmps48
  go_wp2_with fail
  refine (rsizes_any w).mono ?_
  rintro e w1 ⟨rfl, hw1⟩
  have hb1 : Below w.heap.size w w1 := by rw [hw1]; exact (Below.refl _ _).alloc (Nat.le_refl _) _
  have hrow : Row w1 w.heap.size 22 (ints .u64 SZ) := by rw [hw1]; exact Row.new _ _ _
  have HB := Lib.hid hb1
  have HR := Lib.hid hrow
  clear hb1 hrow hw1
  go_wp2
  go_loop [8] (fun i => ∃ k : Nat, k ≤ 12 ∧ i = .int .i64 k ∧ Hid (k ≤ lowF SZ n)) (fun i => 12 - (intOf i).toNat)
  case atStart => exact ⟨0, Nat.zero_le _, rfl, Nat.zero_le _⟩
  case round =>
    obtain ⟨k, hk, rfl, HK⟩ := hrel
    by_cases hlt : k < 12
    · have hc := HR.out.cell k (by simpa [SZ] using hlt)
      rw [ints_get] at hc
      have hiff := lowF_lt SZ_rises n k (by simpa [SZ] using hlt)
      obtain ⟨z, hz⟩ : ∃ z, SZ[k]'(by simpa [SZ] using hlt) = z := ⟨_, rfl⟩
      rw [hz] at hc hiff
      have HI := Lib.hid hiff
      clear hiff hz
      by_cases hzn : n ≤ z
      · have hres : rofF n = ((k : Int), true) := by
          have h1 := HI.out
          have h2 := HK.out
          have h3 := HLI.out
          have e : lowF SZ n = k := by omega
          unfold rofF
          rw [if_pos (by omega), e]
        have HRES := Lib.hid hres
        clear hres
        go_wp2
        go_ret2
        exact ⟨by rw [HRES.out]; rfl, HB.out⟩
      · have hzn' : z < n := by omega
        clear hzn
        go_wp2
        go_round
        case rel => exact ⟨k + 1, by omega, by go_num, Lib.hid (by have := HI.out; omega)⟩
        case measure => simp [intOf]; omega
    · have hres : rofF n = (0, false) := by
        have h2 := HK.out
        have h3 := HLI.out
        unfold rofF
        rw [if_neg (by omega)]
      have HRES := Lib.hid hres
      clear hres
      go_wp2
      go_ret2
      exact ⟨by rw [HRES.out]; rfl, HB.out⟩

set_option maxRecDepth 100000 in
set_option maxHeartbeats 1000000 in
theorem rslices_any (k : Nat) (hk : k < 12) (w : World) : Calls Try.prog 50 #[.int .i64 k] w fun e w' => e = .returned (.int .i64 (slN (SZ.getD k 0))) ∧ Below w.heap.size w w' := by
  obtain ⟨hz0, hz1⟩ := SZ_bd k hk
  have hcell : ∀ W : World, (W.alloc (.cells (ints .u64 SZ).toArray 22)).cell? ⟨W.heap.size, k, none⟩ = some (.int .u64 (SZ.getD k 0)) := by
    intro W
    have := (Row.new W 22 (ints .u64 SZ)).cell k (by simpa [SZ] using hk)
    rw [this, ints_get]
    simp [SZ, hk]
  obtain ⟨z, hz⟩ : ∃ z, SZ.getD k 0 = z := ⟨_, rfl⟩
  rw [hz] at hz0 hz1 ⊢
  simp only [hz] at hcell
  have HC := Lib.hid hcell
  have hsl : Hid (slN z = if z ≤ 256 then 1 else if z ≤ 512 then 2 else 4) := Lib.hid rfl
  obtain ⟨sl, hsl'⟩ : ∃ sl, slN z = sl := ⟨_, rfl⟩
  rw [hsl'] at hsl ⊢
  clear hsl' hcell hz
  have hkI : (k : Int) < 12 := by omega
  by_cases h1 : z ≤ 256
  · go_enter Try.func50, Try.ntmps50
    go_wp2_with fail
    refine (rsizes_any w).mono ?_
    rintro e w1 ⟨rfl, hw1⟩
    have hc := HC.out w
    rw [← hw1] at hc
    have HB : Hid (Below w.heap.size w w1) := Lib.hid (by rw [hw1]; exact (Below.refl _ _).alloc (Nat.le_refl _) _)
    clear hw1
    go_wp2
    go_ret
    exact ⟨by rw [hsl.out, if_pos (by omega)]; rfl, HB.out⟩
  · by_cases h2 : z ≤ 512
    all_goals
      go_enter Try.func50, Try.ntmps50
      go_wp2_with fail
      refine (rsizes_any w).mono ?_
      rintro e w1 ⟨rfl, hw1⟩
      have hc := HC.out w
      rw [← hw1] at hc
      have HB : Hid (Below w.heap.size w w1) := Lib.hid (by rw [hw1]; exact (Below.refl _ _).alloc (Nat.le_refl _) _)
      clear hw1
      go_wp2
      go_ret
      exact ⟨by rw [hsl.out, if_neg (by omega)]; first | (rw [if_pos h2]; rfl) | (rw [if_neg (by omega)]; rfl), HB.out⟩

end Go.Proofs.Ythginpedlfocpaa
