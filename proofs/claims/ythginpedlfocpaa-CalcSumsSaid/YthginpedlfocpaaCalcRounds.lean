/- For every number and step the roundings of calc are the reference's: CalcRounds answers true; without conditions. -/
import Derived.Test.YthginpedlfocpaaRefD
import Derived.Test.YthginpedlfocpaaRows
import Derived.ProofKit
import Derived.OpenShut
namespace Go.Proofs.Ythginpedlfocpaa
open Go.RowKit Go.Alo

set_option maxRecDepth 100000 in
set_option maxHeartbeats 1000000 in
theorem alive01 (w : World) : Calls Try.prog 19 #[] w fun e w' => e = .returned (.bool true) ∧ Below w.heap.size w w' := by
  have hu : upF 17 16 = (32, 0) := by
    have h : isPB (16 : Int).toNat = true := (isPB_iff _ (by decide)).2 ⟨4, rfl⟩
    unfold upF; rw [if_pos h]; decide
  have h8 : isPB (8 : Int).toNat = true := (isPB_iff _ (by decide)).2 ⟨3, rfl⟩
  have hm1 : mulF [549755813888, 2] = (1099511627776, 0) := by decide
  have hm2 : mulF [1099511627776, 2] = (0, 3) := by decide
  have H8 := Lib.hid h8
  clear h8
  have HU := Lib.hid hu
  have HM1 := Lib.hid hm1
  have HM2 := Lib.hid hm2
  clear hu hm1 hm2
  go_enter Try.func19, Try.ntmps19
  go_wp2_with fail
  refine (up_any 17 16 _ (by omega) (by omega) (by omega)).mono ?_
  rintro e w' ⟨rfl, rfl⟩
  rw [HU.out]
  go_wp2_with fail
  refine (mul_any (some ⟨w.heap.size, 0, none⟩) [549755813888, 2] 2 _ (Row.new w 22 (ints .u64 [549755813888, 2])).reads' (by decide) (by decide)).mono ?_
  rintro e w' ⟨rfl, rfl⟩
  rw [HM1.out]
  go_wp2_with fail
  refine (mul_any (some ⟨w.heap.size + 1, 0, none⟩) [1099511627776, 2] 2 _ ?_ (by decide) (by decide)).mono ?_
  · have := (Row.new (w.alloc (.cells #[.int .u64 549755813888, .int .u64 2] 22)) 22 (ints .u64 [1099511627776, 2])).reads'
    rwa [World.size_alloc] at this
  rintro e w' ⟨rfl, rfl⟩
  rw [HM2.out]
  go_wp2_with (go_at_call 24; refine (pow2_any _ _ (by omega) (by omega)).mono ?_; rintro e w' ⟨rfl, rfl⟩)
  go_ret
  refine ⟨?_, ?_⟩
  · show Ending.returned (.bool (isPB (8 : Int).toNat)) = _
    rw [H8.out]
  exact ((Below.refl _ _).alloc (Nat.le_refl _) _).alloc (by simp) _

set_option maxRecDepth 100000 in
set_option maxHeartbeats 2000000 in
theorem rounds_walk (x a : Int) (w : World) (h0 : 0 ≤ x) (h1 : x < 18446744073709551616) (ha0 : 0 ≤ a) (ha1 : a < 18446744073709551616) :
    Calls Try.prog 3 #[.int .u64 x, .int .u64 a] w fun e w' => e = .returned (.bool true) ∧ Below w.heap.size w w' := by
  have HU := Lib.hid (up_same x a h0 h1 ha0 ha1)
  have HD := Lib.hid (down_same x a)
  obtain ⟨p, hp⟩ : ∃ p, rupF x a = p := ⟨_, rfl⟩
  obtain ⟨q, hq⟩ : ∃ q, rdownF x a = q := ⟨_, rfl⟩
  have HP := Lib.hid hp
  have HQ := Lib.hid hq
  clear hp hq
  go_enter Try.func3, Try.ntmps3
  go_wp2_with fail
  refine (alive01 _).mono ?_
  rintro e w1 ⟨rfl, hb1⟩
  have HB1 := Lib.hid hb1
  clear hb1
  go_wp2_with fail
  refine (up_any x a _ h0 ha0 ha1).mono ?_
  rintro e w' ⟨rfl, rfl⟩
  rw [HU.out, HP.out]
  go_wp2_with fail
  refine (rup_any x a _ h0 h1 ha0 ha1).mono ?_
  rintro e w2 ⟨rfl, hb2⟩
  rw [HP.out]
  have HB2 := Lib.hid hb2
  clear hb2
  go_wp2_with fail
  refine (down_any x a _ h0 h1 ha0 ha1).mono ?_
  rintro e w' ⟨rfl, rfl⟩
  rw [HD.out, HQ.out]
  go_wp2_with fail
  refine (rdown_any x a _ h0 h1 ha0 ha1).mono ?_
  rintro e w3 ⟨rfl, hb3⟩
  rw [HQ.out]
  have HB3 := Lib.hid hb3
  clear hb3
  go_wp2_with (first | (go_at_call 24; refine (pow2_any _ _ h0 h1).mono ?_; rintro e w' ⟨rfl, rfl⟩) | (go_at_call 25; refine (refPow2_any _ _ h0 h1).mono ?_; rintro e w' ⟨rfl, rfl⟩))
  go_ret
  have b2 := HB1.out.trans (HB2.out.mono HB1.out.size)
  exact ⟨rfl, b2.trans (HB3.out.mono b2.size)⟩

end Go.Proofs.Ythginpedlfocpaa
