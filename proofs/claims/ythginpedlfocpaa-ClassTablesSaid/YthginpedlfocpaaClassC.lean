/- Contracts: the reference's Blocks; class.All; class.For. -/
import Derived.Test.YthginpedlfocpaaClassB
import Derived.BigQuiet
import Derived.Deep.RegionWith
namespace Go.Proofs.Ythginpedlfocpaa
open Go.RowKit Go.Alo
attribute [local go_sem] max_ints min_ints

theorem rsizes_at (k : Nat) (hk : k < 12) (z : Int) (hz : SZ.getD k 0 = z) (w : World) : Calls Try.prog 49 #[] w fun e w' => ∃ g, e = .returned (.slice (some ⟨g, 0, none⟩) 12 12) ∧ g < w'.heap.size ∧ w'.cell? ⟨g, k, none⟩ = some (.int .u64 z) ∧ Below w.heap.size w w' := by
  refine (rsizes_any w).mono ?_
  rintro e w1 ⟨rfl, rfl⟩
  refine ⟨_, rfl, by simp, ?_, (Below.refl _ _).alloc (Nat.le_refl _) _⟩
  have := (Row.new w 22 (ints .u64 SZ)).cell k (by simpa [SZ] using hk)
  rw [this, ints_get, ← hz]
  simp [SZ, hk]

set_option maxRecDepth 100000 in
set_option maxHeartbeats 4000000 in
theorem rblocks_any (k : Nat) (hk : k < 12) (w : World) : Calls Try.prog 51 #[.int .i64 k] w fun e w' => e = .returned (.int .i64 (slN (SZ.getD k 0) * 1024 / SZ.getD k 0)) ∧ Below w.heap.size w w' := by
  obtain ⟨hz0, hz1⟩ := SZ_bd k hk
  have hrs := fun W => rslices_any k hk W
  have hrz := fun z hz W => rsizes_at k hk z hz W
  have hsb := slN_bd (SZ.getD k 0)
  obtain ⟨z, hz⟩ : ∃ z, SZ.getD k 0 = z := ⟨_, rfl⟩
  have hrz' := hrz z hz
  rw [hz] at hz0 hz1 hsb ⊢
  simp only [hz] at hrs
  obtain ⟨sl, hsl⟩ : ∃ sl, slN z = sl := ⟨_, rfl⟩
  rw [hsl] at hsb ⊢
  simp only [hsl] at hrs
  have hsl0 : 1 ≤ sl := by omega
  have hsl1 : sl ≤ 4 := by omega
  have HS := Lib.hid hrs
  have HZ := Lib.hid hrz'
  have hkI : (k : Int) < 12 := by omega
  have hkN : ((k : Int)).toNat = k := by omega
  have hk00 : (0 : Int) ≤ (k : Int) := by omega
  clear hrs hrz hrz' hz hsl hsb
  go_enter Try.func51, Try.ntmps51
  go_wp2
  go_loopw [3] (fun n wr => ∃ t : Nat, n = .int .i64 t ∧ t ≤ 256 ∧ Hid ((t : Int) * z ≤ 1024 * sl) ∧ Hid (Below w.heap.size w wr)) (fun n _ => 300 - (intOf n).toNat)
  case atStart => exact ⟨0, rfl, by omega, by unfold Hid; simp; omega, Below.refl _ _⟩
  case round =>
    obtain ⟨t, rfl, ht, HT, HB⟩ := hrel
    obtain ⟨p, hp⟩ : ∃ p, ((t : Int) + 1) * z = p := ⟨_, rfl⟩
    have hp0 : 0 ≤ p := by rw [← hp]; exact Int.mul_nonneg (by omega) (by omega)
    have hp1 : p ≤ 5120 := by
      have := HT.out
      have e : ((t : Int) + 1) * z = (t : Int) * z + z := by rw [Int.add_mul, Int.one_mul]
      omega
    have HWP : Hid (IntKind.u64.wrap (((t : Int) + 1) * z) = p) := Lib.hid (by rw [hp]; exact u64_in hp0 (by omega))
    have HP := Lib.hid hp
    clear hp
    by_cases hle : p ≤ 1024 * sl
    · have hd : decide (p ≤ 1024 * sl) = true := by simp [hle]
      have HLE := Lib.hid hle
      clear hle
      go_wp2
      have hw1 : IntKind.i64.wrap ((t : Int) + 1) = (t : Int) + 1 := IntWalk.i64_in _ (by omega)
      have hw2 : IntKind.u64.wrap ((t : Int) + 1) = (t : Int) + 1 := u64_in (by omega) (by omega)
      have hw3 : IntKind.u64.wrap sl = sl := u64_in (by omega) (by omega)
      have hw4 : IntKind.u64.wrap (1024 * sl) = 1024 * sl := u64_in (by omega) (by omega)
      have hwp : IntKind.u64.wrap (((t : Int) + 1) * z) = p := HWP.out
      go_region_with (first | (go_at_call 49; refine (HZ.out _).mono ?_; rintro e w1 ⟨g, rfl, hlt1, hc1, hB1⟩; have hcc1 := bcell hB1) | (go_at_call 50; refine (HS.out _).mono ?_; rintro e w2 ⟨rfl, hB2⟩; have hcc2 := bcell hB2))
      all_goals
        clear hw1 hw2 hw3 hw4 hwp
        go_wp2
        go_roundw
      all_goals first | (exact ⟨t + 1, by go_num, by
            have h1 := HP.out
            have h2 := HLE.out
            have h3 : ((t : Int) + 1) * 16 ≤ ((t : Int) + 1) * z := Int.mul_le_mul_of_nonneg_left hz0 (by omega)
            omega, Lib.hid (by
            have h1 := HP.out
            have h2 := HLE.out
            rw [show ((t + 1 : Nat) : Int) = (t : Int) + 1 from by omega, h1]; exact h2), Lib.hid ((HB.out.drew.trans (hB1.mono HB.out.size)).trans (hB2.mono (Nat.le_trans HB.out.size hB1.size)))⟩) | (simp [intOf]; omega)
    · have hd : decide (p ≤ 1024 * sl) = false := by simp; omega
      have hres : sl * 1024 / z = t := by
        have h1 := HP.out
        have h2 := HT.out
        have e : ((t : Int) + 1) * z = (t : Int) * z + z := by rw [Int.add_mul, Int.one_mul]
        have e2 : (t : Int) * z ≤ sl * 1024 := by omega
        have e3 : sl * 1024 < ((t : Int) + 1) * z := by omega
        have := (Int.le_ediv_iff_mul_le (a := (t : Int)) (b := sl * 1024) (c := z) (by omega)).2 e2
        have := (Int.ediv_lt_iff_lt_mul (a := sl * 1024) (b := (t : Int) + 1) (c := z) (by omega)).2 e3
        omega
      have HRES := Lib.hid hres
      clear hle hres
      go_wp2
      have hw1 : IntKind.i64.wrap ((t : Int) + 1) = (t : Int) + 1 := IntWalk.i64_in _ (by omega)
      have hw2 : IntKind.u64.wrap ((t : Int) + 1) = (t : Int) + 1 := u64_in (by omega) (by omega)
      have hw3 : IntKind.u64.wrap sl = sl := u64_in (by omega) (by omega)
      have hw4 : IntKind.u64.wrap (1024 * sl) = 1024 * sl := u64_in (by omega) (by omega)
      have hwp : IntKind.u64.wrap (((t : Int) + 1) * z) = p := HWP.out
      go_region_with (first | (go_at_call 49; refine (HZ.out _).mono ?_; rintro e w1 ⟨g, rfl, hlt1, hc1, hB1⟩; have hcc1 := bcell hB1) | (go_at_call 50; refine (HS.out _).mono ?_; rintro e w2 ⟨rfl, hB2⟩; have hcc2 := bcell hB2))
      all_goals
        clear hw1 hw2 hw3 hw4 hwp
        go_wp2
        go_ret
        exact ⟨by rw [HRES.out]; rfl, (HB.out.drew.trans (hB1.mono HB.out.size)).trans (hB2.mono (Nat.le_trans HB.out.size hB1.size))⟩

/-- The first class that serves. -/
def forF (n a : Int) : List Int → Nat → Option (Nat × Int)
  | [], _ => none
  | s :: l, i => if n ≤ s ∧ bits .and .u64 s (a - 1) = 0 then some (i, s) else forF n a l (i + 1)

theorem forF_drop (n a : Int) (l : List Int) (k : Nat) (h : k < l.length) : forF n a (l.drop k) k = if n ≤ l[k] ∧ bits .and .u64 l[k] (a - 1) = 0 then some (k, l[k]) else forF n a (l.drop (k + 1)) (k + 1) := by
  rw [List.drop_eq_getElem_cons h, forF]

/-- The plan of so many bytes. -/
def planF (n a : Int) : Int × Int × Int × Int := match forF n a SZ 0 with
  | some (k, s) => (k, slN s, 0, s)
  | none => if n ≤ 15360 then (-1, (n + 1023) / 1024, 0, (n + 1023) / 1024 * 1024) else (-1, 0, (n + 16383) / 16384, (n + 16383) / 16384 * 16384)

set_option maxHeartbeats 400000 in
theorem units_any (n u : Int) (w : World) (h0 : 1 ≤ n) (h1 : n ≤ 1048576) (hu : 1 ≤ u) (hu1 : u ≤ 16384) (hb : (n + u - 1) / u * u ≤ 2000000) : Calls Try.prog 146 #[.int .u64 n, .int .u64 u] w fun e w' => e = .returned (.tuple #[.int .i64 ((n + u - 1) / u), .int .u64 ((n + u - 1) / u * u)]) ∧ w = w' := by
  have hq0 : 0 ≤ (n + u - 1) / u := Int.ediv_nonneg (by omega) (by omega)
  have hq1 : (n + u - 1) / u ≤ 1064960 := Int.le_trans (Int.ediv_le_self _ (by omega)) (by omega)
  have hu0 : (u == 0) = false := by simp; omega
  have hw : IntKind.u64.wrap ((n + u - 1) / u * u) = (n + u - 1) / u * u := u64_in (Int.mul_nonneg hq0 (by omega)) (by omega)
  go_enter Try.func146, Try.ntmps146
  go_wp2
  go_ret2
  exact ⟨rfl, rfl⟩

end Go.Proofs.Ythginpedlfocpaa
