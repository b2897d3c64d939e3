/- Contracts of calc, second part: rounding up, products. -/
import Derived.Test.YthginpedlfocpaaCalcA
import Derived.Test.YthginpedlfocpaaGround
namespace Go.Proofs.Ythginpedlfocpaa
open Go.RowKit Go.Alo

set_option maxRecDepth 100000 in
set_option maxHeartbeats 400000 in
theorem up_any (x a : Int) (w : World) (h0 : 0 ≤ x) (ha0 : 0 ≤ a) (ha1 : a < 18446744073709551616) :
    Calls Try.prog 20 #[.int .u64 x, .int .u64 a] w fun e w' => e = .returned (.tuple #[.int .u64 (upF x a).1, .int .i64 (upF x a).2]) ∧ w = w' := by
  by_cases hp : isPB a.toNat = true
  · have ha : 1 ≤ a := by
      rcases Int.lt_or_le a 1 with h | h
      · have : a = 0 := by omega
        subst this
        exact absurd ((isPB_iff _ (by decide)).1 hp) isP_zero
      · exact h
    have hs : (x + (a - 1) + 0) % 18446744073709551616 < 18446744073709551616 := by omega
    have ha' := andNot_pow ((x + (a - 1) + 0) % 18446744073709551616) a (by omega) hs ha0 ha1 hp
    rw [u64_in (n := a - 1) (by omega) (by omega)] at ha'
    have HA := Lib.hid ha'
    clear ha'
    have hadd : ∀ w, (callFunc 95 #[.int .u64 x, .int .u64 (a - 1), .int .u64 0]).run Try.prog w = .ok (.value (.tuple #[.int .u64 ((x + (a - 1) + 0) % 18446744073709551616), .int .u64 ((x + (a - 1) + 0) / 18446744073709551616)])) w :=
      fun w => by rw [run_callFunc_extern Try.func95 (by kernel_rfl) (by kernel_rfl) (by kernel_rfl) (e := add64Entry) (by kernel_rfl), run_add64 x (a - 1) 0 h0 (by omega) (by omega) (by omega) w]; rfl
    have hf : upF x a = heldF ((x + (a - 1) + 0) % 18446744073709551616 - (x + (a - 1) + 0) % 18446744073709551616 % a) (decide (0 < (x + (a - 1) + 0) / 18446744073709551616)) := by
      unfold upF
      rw [if_pos hp, Int.add_zero]
      congr 1
      rw [decide_eq_decide]
      omega
    have HF := Lib.hid hf
    clear hf hs
    generalize (x + (a - 1) + 0) % 18446744073709551616 = s at *
    generalize (x + (a - 1) + 0) / 18446744073709551616 = c at *
    go_enter Try.func20, Try.ntmps20
    go_wp2_with (first | (go_at_call 24; refine (pow2_any _ _ ha0 ha1).mono ?_; rintro e w' ⟨rfl, rfl⟩) | (go_at_call 96; refine (held_any _ _ _).mono ?_; rintro e w' ⟨rfl, rfl⟩))
    go_ret2
    exact ⟨by rw [HF.out, ← HA.out]; rfl, rfl⟩
  · have hf : upF x a = (0, 2) := by simp [upF, hp]
    have HF := Lib.hid hf
    clear hf
    have hp' : isPB a.toNat = false := by simpa using hp
    clear hp
    go_enter Try.func20, Try.ntmps20
    go_wp2_with (go_at_call 24; refine (pow2_any _ _ ha0 ha1).mono ?_; rintro e w' ⟨rfl, rfl⟩)
    go_ret2
    exact ⟨by rw [HF.out]; rfl, rfl⟩

theorem and_low32w (z : Int) : bits .and .u64 (IntKind.u64.wrap z) 4294967295 = IntKind.u64.wrap z % 4294967296 := by
  apply and_low32
  · rw [IntKind.wrap_u64]; omega
  · rw [IntKind.wrap_u64]; omega

theorem ret2_u64 {a b c d : Int} {k l : IntKind} (h1 : a = c) (h2 : b = d) : Ending.returned (.tuple #[.int k a, .int l b]) = Ending.returned (.tuple #[.int k c, .int l d]) := by rw [h1, h2]

/-- The high and the low word of a product. -/
def hiF (x y : Int) : Int := x * y / 18446744073709551616
def loF (x y : Int) : Int := x * y % 18446744073709551616

set_option maxRecDepth 100000 in
set_option maxHeartbeats 400000 in
theorem mul64_any (x y : Int) (w : World) (h0 : 0 ≤ x) (h1 : x < 18446744073709551616) (ha0 : 0 ≤ y) (ha1 : y < 18446744073709551616) :
    Calls Try.prog 107 #[.int .u64 x, .int .u64 y] w fun e w' => e = .returned (.tuple #[.int .u64 (hiF x y), .int .u64 (loF x y)]) ∧ w = w' := by
  go_enter Try.func107, Try.ntmps107
  go_wp2
  go_ret2
  refine ⟨ret2_u64 (?_) (?_), rfl⟩
  · simp only [and_low32 x h0 h1, and_low32 y ha0 ha1, and_low32w]
    simp only [IntKind.wrap_u64]
    exact mul64_arith x y h0 h1 ha0 ha1
  · rw [IntKind.wrap_u64]; rfl

/-- Where a number stands first, from a place on: -1 if nowhere. -/
def idxF (x : Int) : List Int → Nat → Int
  | [], _ => -1
  | y :: l, i => if x = y then (i : Int) else idxF x l (i + 1)

theorem idxF_drop (x : Int) (l : List Int) (i : Nat) (h : i < l.length) : idxF x (l.drop i) i = if x = l[i] then (i : Int) else idxF x (l.drop (i + 1)) (i + 1) := by
  rw [List.drop_eq_getElem_cons h, idxF]

theorem idxF_mem (x : Int) : ∀ (l : List Int) (i : Nat), 0 ≤ idxF x l i ↔ x ∈ l
  | [], i => by simp [idxF]
  | y :: l, i => by
    simp only [idxF, List.mem_cons]
    by_cases h : x = y
    · rw [if_pos h]; simp [h]
    · rw [if_neg h, idxF_mem x l (i + 1)]; simp [h]

set_option maxRecDepth 100000 in
set_option maxHeartbeats 400000 in
theorem index64_any (A : Option Addr) (l : List Int) (cap : Nat) (x : Int) (w : World) (hr : Reads w A (ints .u64 l)) (hl : l.length ≤ 9223372036854775807) :
    Calls Try.prog 145 #[.slice A l.length cap, .int .u64 x] w fun e w' => e = .returned (.int .i64 (idxF x l 0)) ∧ w = w' := by
  have HR := Lib.hid hr
  clear hr
  go_enter Try.func145, Try.ntmps145
  go_wp2
  go_loop [8] (fun i => ∃ k : Nat, k ≤ l.length ∧ i = .int .i64 k ∧ Hid (idxF x (l.drop k) k = idxF x l 0)) (fun i => l.length - (intOf i).toNat)
  case atStart => exact ⟨0, Nat.zero_le _, rfl, rfl⟩
  case round =>
    obtain ⟨k, hk, rfl, HK⟩ := hrel
    by_cases hlt : k < l.length
    · obtain ⟨b, off, hA, hc⟩ := HR.out.get k (by simpa using hlt)
      subst hA
      rw [ints_get] at hc
      have HX := Lib.hid (idxF_drop x l k hlt)
      generalize l[k] = y at *
      by_cases hxy : x = y
      · have hxy' : (x == y) = true := by simp [hxy]
        have HXY := Lib.hid hxy
        clear hxy
        go_wp2
        go_ret
        exact ⟨by rw [← HK.out, HX.out, if_pos HXY.out]; rfl, rfl⟩
      · have hxy' : (x == y) = false := by simp [hxy]
        have HXY := Lib.hid hxy
        clear hxy
        go_wp2
        go_round
        case rel => exact ⟨k + 1, by omega, by go_num, Lib.hid (by rw [← HK.out, HX.out, if_neg HXY.out])⟩
        case measure => simp [intOf]; omega
    · have hk' : k = l.length := by omega
      have HE := Lib.hid hk'
      clear hk'
      go_wp2
      go_ret
      exact ⟨by rw [← HK.out, HE.out, List.drop_length]; rfl, rfl⟩

set_option maxRecDepth 100000 in
set_option maxHeartbeats 400000 in
theorem contains64_any (A : Option Addr) (l : List Int) (cap : Nat) (x : Int) (w : World) (hr : Reads w A (ints .u64 l)) (hl : l.length ≤ 9223372036854775807) :
    Calls Try.prog 106 #[.slice A l.length cap, .int .u64 x] w fun e w' => e = .returned (.bool (decide (x ∈ l))) ∧ w = w' := by
  have HR := Lib.hid hr
  clear hr
  have HD : Hid (decide (0 ≤ idxF x l 0) = decide (x ∈ l)) := Lib.hid (by rw [decide_eq_decide]; exact idxF_mem x l 0)
  go_enter Try.func106, Try.ntmps106
  go_wp2_with (go_at_call 145; refine (index64_any _ _ _ _ _ HR.out hl).mono ?_; rintro e w' ⟨rfl, rfl⟩)
  go_ret
  exact ⟨by rw [← HD.out]; rfl, rfl⟩

/-- A product, as the text reckons it: none is beyond, till one is. -/
def mulL (o : Int) : List Int → Int × Int
  | [] => (o, 0)
  | x :: l => if 1099511627776 < o * x then (0, 3) else mulL (o * x) l

def mulF (l : List Int) : Int × Int := if 0 ∈ l then (0, 0) else mulL 1 l

theorem mulL_drop (o : Int) (l : List Int) (i : Nat) (h : i < l.length) : mulL o (l.drop i) = if 1099511627776 < o * l[i] then (0, 3) else mulL (o * l[i]) (l.drop (i + 1)) := by
  rw [List.drop_eq_getElem_cons h, mulL]

theorem hilo (a b : Int) (h0 : 0 ≤ a * b) : (0 < hiF a b ∨ 1099511627776 < loF a b) ↔ 1099511627776 < a * b := by
  unfold hiF loF
  generalize a * b = p at *
  omega

set_option maxRecDepth 100000 in
set_option maxHeartbeats 1000000 in
theorem mul_any (A : Option Addr) (l : List Int) (cap : Nat) (w : World) (hr : Reads w A (ints .u64 l)) (hl : l.length ≤ 9223372036854775807) (hb : ∀ x ∈ l, 0 ≤ x ∧ x < 18446744073709551616) :
    Calls Try.prog 38 #[.slice A l.length cap] w fun e w' => e = .returned (.tuple #[.int .u64 (mulF l).1, .int .i64 (mulF l).2]) ∧ w = w' := by
  have HR := Lib.hid hr
  have HB := Lib.hid hb
  clear hr hb
  by_cases h0 : 0 ∈ l
  · have hm : mulF l = (0, 0) := by simp [mulF, h0]
    have HM := Lib.hid hm
    have hd : decide (0 ∈ l) = true := by simp [h0]
    clear hm h0
    go_enter Try.func38, Try.ntmps38
    go_wp2_with (go_at_call 106; refine (contains64_any _ _ _ _ _ HR.out hl).mono ?_; rintro e w' ⟨rfl, rfl⟩)
    go_ret2
    exact ⟨by rw [HM.out]; rfl, rfl⟩
  · have hm : mulF l = mulL 1 l := by simp [mulF, h0]
    have HM := Lib.hid hm
    have hd : decide (0 ∈ l) = false := by simp [h0]
    clear hm h0
    go_enter Try.func38, Try.ntmps38
    go_wp2_with (go_at_call 106; refine (contains64_any _ _ _ _ _ HR.out hl).mono ?_; rintro e w' ⟨rfl, rfl⟩)
    go_loop [4, 13] (fun o i => ∃ (k : Nat) (y : Int), k ≤ l.length ∧ 0 ≤ y ∧ y ≤ 1099511627776 ∧ i = .int .i64 k ∧ o = .int .u64 y ∧ Hid (mulL y (l.drop k) = mulL 1 l)) (fun _ i => l.length - (intOf i).toNat)
    case atStart => exact ⟨0, 1, Nat.zero_le _, by omega, by omega, rfl, rfl, rfl⟩
    case round =>
      obtain ⟨k, y, hk, hy0, hy1, rfl, rfl, HK⟩ := hrel
      by_cases hlt : k < l.length
      · obtain ⟨b, off, hA, hc⟩ := HR.out.get k (by simpa using hlt)
        subst hA
        rw [ints_get] at hc
        have HX := Lib.hid (mulL_drop y l k hlt)
        obtain ⟨hx0, hx1⟩ := HB.out l[k] (List.getElem_mem hlt)
        generalize l[k] = x at *
        have hp : 0 ≤ y * x := Int.mul_nonneg hy0 hx0
        have hl := hilo y x hp
        have HP := Lib.hid hp
        clear hp
        by_cases hbig : 1099511627776 < y * x
        · have hh : (0 < hiF y x ∨ 1099511627776 < loF y x) := hl.2 hbig
          have HBIG := Lib.hid hbig
          clear hbig hl
          have hf : heldF 0 true = (0, 3) := by simp [heldF]
          have HF := Lib.hid hf
          clear hf
          by_cases h1 : 0 < hiF y x
          all_goals
            go_wp2_with (first | (go_at_call 107; refine (mul64_any _ _ _ hy0 (by omega) hx0 hx1).mono ?_; rintro e w' ⟨rfl, rfl⟩) | (go_at_call 96; refine (held_any _ _ _).mono ?_; rintro e w' ⟨rfl, rfl⟩))
            go_ret2
            exact ⟨by rw [HM.out, ← HK.out, HX.out, if_pos HBIG.out, HF.out]; rfl, rfl⟩
        · have hh : ¬ (0 < hiF y x ∨ 1099511627776 < loF y x) := fun h => hbig (hl.1 h)
          have h1 : ¬ 0 < hiF y x := fun h => hh (.inl h)
          have h2 : ¬ 1099511627776 < loF y x := fun h => hh (.inr h)
          have HV : Hid (loF y x = y * x) := Lib.hid (by have := HP.out; unfold loF; omega)
          have HBIG := Lib.hid hbig
          have HPB : Hid (0 ≤ loF y x) := Lib.hid (by unfold loF; omega)
          clear hbig hl hh
          go_wp2_with (first | (go_at_call 107; refine (mul64_any _ _ _ hy0 (by omega) hx0 hx1).mono ?_; rintro e w' ⟨rfl, rfl⟩))
          go_round
          case rel => exact ⟨k + 1, loF y x, by omega, HPB.out, by omega, by go_num, rfl, Lib.hid (by rw [← HK.out, HX.out, if_neg (by have := HBIG.out; omega), HV.out])⟩
          case measure => simp [intOf]; omega
      · have hk' : k = l.length := by omega
        have HE := Lib.hid hk'
        clear hk'
        go_wp2
        go_ret2
        exact ⟨by rw [HM.out, ← HK.out, HE.out, List.drop_length]; rfl, rfl⟩

end Go.Proofs.Ythginpedlfocpaa
