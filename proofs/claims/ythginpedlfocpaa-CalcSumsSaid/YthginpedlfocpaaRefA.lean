/- Contracts of the reference's long numbers: powers of two, digits, trimming, comparing, back. -/
import Derived.Test.YthginpedlfocpaaCalcB
import Derived.Test.YthginpedlfocpaaDig
import Derived.Deep.QuietTactic
import Derived.BigQuiet
namespace Go.Proofs.Ythginpedlfocpaa
open Go.RowKit Go.Alo

theorem info_int : (Try.prog.info? 3).map (fun i => (i.zero, i.size, i.bytes)) = some (some (.int .i64 0), 1, 8) := by kernel_rfl

set_option maxHeartbeats 400000 in
theorem refPow2_any (x : Int) (w : World) (h0 : 0 ≤ x) (h1 : x < 18446744073709551616) :
    Calls Try.prog 25 #[.int .u64 x] w fun e w' => e = .returned (.bool (isPB x.toNat)) ∧ w = w' := by
  have HX := Lib.hid h1
  go_enter Try.func25, Try.ntmps25
  go_wp2
  go_loop [0] (fun v => ∃ y : Int, 0 ≤ y ∧ y ≤ x ∧ v = .int .u64 y ∧ Hid (IsP y.toNat ↔ IsP x.toNat)) (fun v => (intOf v).toNat)
  case atStart => exact ⟨x, h0, Int.le_refl _, rfl, Iff.rfl⟩
  case round =>
    obtain ⟨y, hy0, hy1, rfl, HK⟩ := hrel
    by_cases hb : 1 < y
    · by_cases he : y % 2 = 0
      · have HE := Lib.hid he
        have he' : (y % 2 == 0) = true := by simp [he]
        clear he
        go_wp2
        go_round
        case rel => exact ⟨y / 2, by omega, by omega, by go_num, Lib.hid (by
          have := HE.out
          rw [← HK.out, ← isP_double (y / 2).toNat (by omega), show 2 * (y / 2).toNat = y.toNat from by omega])⟩
        case measure => simp [intOf]; omega
      · have HE := Lib.hid he
        have he' : (y % 2 == 0) = false := by simp [he]
        have hy : (y == 1) = false := by simp; omega
        have hf : isPB x.toNat = false := by
          rw [Bool.eq_false_iff]
          intro hp
          have := (isPB_iff x.toNat (by omega)).1 hp
          rw [← HK.out, isP_odd y.toNat (by omega)] at this
          omega
        have HF := Lib.hid hf
        clear he hf
        go_wp2
        go_ret
        exact ⟨by rw [HF.out]; rfl, rfl⟩
    · have hf : (y == 1) = isPB x.toNat := by
        rw [Bool.eq_iff_iff, isPB_iff x.toNat (by omega), ← HK.out, beq_iff_eq]
        have : y = 0 ∨ y = 1 := by omega
        rcases this with rfl | rfl
        · simp [isP_zero]
        · simp [isP_one]
      have HF := Lib.hid hf
      clear hf
      go_wp2
      go_ret
      exact ⟨by rw [← HF.out]; rfl, rfl⟩

/-- Digits of the call's own. -/
def DigPost (x : Int) (w : World) (e : Ending) (w' : World) : Prop :=
  ∃ (v : Value) (l : List Int), e = .returned v ∧ w'.ownsRow w.heap.size 3 1 v l.length (ints .i64 l) ∧ Nm l ∧ val l = x ∧ Below w.heap.size w w'

set_option maxHeartbeats 400000 in
theorem of_any (x : Int) (w : World) (h0 : 0 ≤ x) (h1 : x < 18446744073709551616) :
    Calls Try.prog 97 #[.int .u64 x] w (DigPost x w) := by
  obtain ⟨i0, hi, hz0, hz1, hz2⟩ := info_parts info_int
  have HX := Lib.hid h1
  go_enter Try.func97, Try.ntmps97
  go_wp2
  go_loopw [0, 3] (fun v0 v wr => ∃ (y : Int) (l : List Int), 0 ≤ y ∧ y ≤ x ∧ v0 = .int .u64 y ∧ Hid (wr.ownsRow w.heap.size 3 1 v l.length (ints .i64 l)) ∧ l.length ≤ 5 ∧ Hid (Dig l ∧ val l + 10000 ^ l.length * y = x ∧ (y = 0 → Nm l)) ∧ Hid (Below w.heap.size w wr)) (fun v0 _ _ => (intOf v0).toNat)
  case atStart =>
    refine ⟨x, [], h0, Int.le_refl _, rfl, World.ownsRow_nil _ _ _ _, by simp, ⟨Dig.nil, by simp [val], fun _ => Nm.nil⟩, Below.refl _ _⟩
  case round =>
    obtain ⟨y, l, hy0, hy1, rfl, hown, hlen, HV, HB⟩ := hrel
    have hsz := HB.out.size
    by_cases hp : 0 < y
    · have hl4 : l.length ≤ 4 := by
        have h2 := HV.out.2.1
        have h3 := val_nonneg HV.out.1
        have h4 := HX.out
        rcases Nat.lt_or_ge l.length 5 with h | h
        · omega
        · have h5 := pow4_mono h
          have h6 : (10000 : Int) ^ l.length * 1 ≤ 10000 ^ l.length * y := Int.mul_le_mul_of_nonneg_left (by omega) (by omega)
          have h7 : (10000 : Int) ^ 5 = 100000000000000000000 := by decide
          omega
      go_wp2_with (at_builtin; refine wpList_append_own _ rfl _ _ 142 rfl w.heap.size 3 i0 (.int .i64 0) 1 8 Try.underlying142 hi hz0 hz1 hz2 rfl (by decide) _ _ _ rfl (hown.out.alloc _) ⟨wr.heap.size, 0, none⟩ 1 1 [.int .i64 (y % 10000)] rfl rfl ?c1 ?c2 ?c3 ?c4 ?c5 ?_)
      case c1 => exact cell_one_new _ _ _
      case c2 => simp [Value.oneCell']
      case c3 => unfold maxLen; omega
      case c4 => omega
      case c5 => simp; omega
      intro v' w1 hown1 hgrow _
      have hB1 : Hid (Below w.heap.size w w1) := Lib.hid ((HB.out.alloc hsz _).grown hgrow (by simp; omega) (fun k hk => ownsRow_base hown.out k hk))
      have HO1 := Lib.hid hown1
      clear hown1 hgrow
      go_wp2
      go_roundw
      case rel =>
        refine ⟨y / 10000, l ++ [y % 10000], by omega, by omega, by go_num, ?_, by simp; omega, ?_, hB1⟩
        · refine Lib.hid ?_
          have := HO1.out
          simpa [ints] using this
        · obtain ⟨d1, d2, d3⟩ := HV.out
          refine ⟨d1.snoc (by omega) (by omega), ?_, fun h => Nm.snoc d1 (by omega) (by omega)⟩
          rw [val_append, List.length_append, List.length_singleton, Int.pow_succ]
          simp only [val]
          have e1 : y = y % 10000 + 10000 * (y / 10000) := by omega
          generalize (10000 : Int) ^ l.length = p at *
          have e2 : p * y = p * (y % 10000) + p * 10000 * (y / 10000) := by
            rw [Int.mul_assoc, ← Int.mul_add, ← e1]
          rw [Int.mul_zero, Int.add_zero]
          omega
      case measure => simp [intOf]; omega
    · go_wp2
      go_ret
      have hy : y = 0 := by omega
      obtain ⟨d1, d2, d3⟩ := HV.out
      exact ⟨u3, l, rfl, hown.out, d3 hy, by rw [← d2, hy]; simp, HB.out⟩

end Go.Proofs.Ythginpedlfocpaa
