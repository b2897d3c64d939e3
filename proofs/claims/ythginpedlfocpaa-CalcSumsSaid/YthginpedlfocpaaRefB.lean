/- Contracts of the reference's long numbers, second part: trimming, comparing, back. -/
import Derived.Test.YthginpedlfocpaaRefA
namespace Go.Proofs.Ythginpedlfocpaa
open Go.RowKit Go.Alo

def TrimPost (A : Option Addr) (cap : Nat) (l : List Int) (w : World) (e : Ending) (w' : World) : Prop :=
  ∃ m, m ≤ l.length ∧ e = .returned (.slice A m cap) ∧ Nm (l.take m) ∧ val (l.take m) = val l ∧ w = w'

set_option maxRecDepth 100000 in
set_option maxHeartbeats 400000 in
theorem trim_any (A : Option Addr) (cap : Nat) (l : List Int) (w : World) (hr : Reads w A (ints .i64 l)) (hd : Dig l) (hc : l.length ≤ cap) (hm : cap ≤ 9223372036854775807) :
    Calls Try.prog 141 #[.slice A l.length cap] w (TrimPost A cap l w) := by
  have HR := Lib.hid hr
  have HD := Lib.hid hd
  clear hr hd
  go_enter Try.func141, Try.ntmps141
  go_wp2
  go_loop [0] (fun v => ∃ m : Nat, m ≤ l.length ∧ v = .slice A m cap ∧ Hid (val (l.take m) = val l)) (fun v => match v with | .slice _ m _ => m | _ => 0)
  case atStart => exact ⟨l.length, Nat.le_refl _, rfl, by rw [List.take_length]; rfl⟩
  case round =>
    obtain ⟨m, hml, rfl, HV⟩ := hrel
    by_cases hp : 0 < m
    · obtain ⟨b, off, hA, hcell⟩ := HR.out.get (m - 1) (by simp; omega)
      subst hA
      rw [ints_get] at hcell
      have hidx : ((m : Int) - 1).toNat = m - 1 := by omega
      have hz : ∃ d, l[m - 1] = d := ⟨_, rfl⟩
      obtain ⟨d, hz⟩ := hz
      rw [hz] at hcell
      have HZ := Lib.hid hz
      clear hz
      by_cases h0 : d = 0
      · have h0' : (d == 0) = true := by simp [h0]
        have H0 := Lib.hid h0
        clear h0
        go_wp2
        go_round
        case rel =>
          refine ⟨m - 1, by omega, ?_, ?_⟩
          · rfl
          · refine Lib.hid ?_
            rw [← HV.out]
            have e := val_dropLast (l := l.take m) (by simp; omega) (by simp only [List.length_take, List.getElem_take]; rw [show l[min m l.length - 1] = l[m - 1] from by congr 1; omega]; rw [HZ.out, H0.out])
            rw [List.length_take, Nat.min_eq_left hml, List.take_take, Nat.min_eq_left (by omega)] at e
            exact e
        case measure => simp; omega
      · have h0' : (d == 0) = false := by simp [h0]
        have H0 := Lib.hid h0
        clear h0
        go_wp2
        go_ret
        refine ⟨m, hml, rfl, Nm.of_last (HD.out.take m) ?_, HV.out, rfl⟩
        intro _
        simp only [List.length_take, List.getElem_take]
        rw [show l[min m l.length - 1] = l[m - 1] from by congr 1; omega, HZ.out]
        exact H0.out
    · have hm0 : m = 0 := by omega
      have HM := Lib.hid hm0
      clear hm0
      go_wp2
      go_ret
      refine ⟨m, hml, rfl, ?_, HV.out, rfl⟩
      rw [HM.out]; exact Nm.nil

def QuietB (b : Bool) (w : World) (e : Ending) (w' : World) : Prop := e = .returned (.bool b) ∧ ∃ n, w' = w.drewN n

set_option maxRecDepth 100000 in
set_option maxHeartbeats 1000000 in
theorem more_any (A0 A1 : Option Addr) (c0 c1 : Nat) (l0 l1 : List Int) (w : World) (hr0 : Reads w A0 (ints .i64 l0)) (hr1 : Reads w A1 (ints .i64 l1)) (hn0 : Nm l0) (hn1 : Nm l1)
    (hl0 : l0.length ≤ 9223372036854775807) :
    Calls Try.prog 142 #[.slice A0 l0.length c0, .slice A1 l1.length c1] w (QuietB (decide (val l1 < val l0)) w) := by
  have HR0 := Lib.hid hr0
  have HR1 := Lib.hid hr1
  have HN0 := Lib.hid hn0
  have HN1 := Lib.hid hn1
  clear hr0 hr1 hn0 hn1
  by_cases hlen : l0.length = l1.length
  · have HLEN := Lib.hid hlen
    rw [← hlen]
    clear hlen
    go_enter Try.func142, Try.ntmps142
    go_wp2
    go_loopw [5] (fun v wr => ∃ (k n : Nat), k ≤ l0.length ∧ v = .int .i64 ((k : Int) - 1) ∧ wr = w.drewN n ∧ Hid (l0.drop k = l1.drop k)) (fun v _ => (intOf v + 1).toNat)
    case atStart => exact ⟨l0.length, 0, Nat.le_refl _, rfl, rfl, by rw [List.drop_length, HLEN.out, List.drop_length]; rfl⟩
    case round =>
      obtain ⟨k, n, hk, rfl, rfl, HD⟩ := hrel
      by_cases hp : 0 < k
      · obtain ⟨b0, o0, hA0, hc0⟩ := HR0.out.get (k - 1) (by simp; omega)
        obtain ⟨b1, o1, hA1, hc1⟩ := HR1.out.get (k - 1) (by have := HLEN.out; simp; omega)
        subst hA0
        subst hA1
        rw [ints_get] at hc0 hc1
        have hidx : ((k : Int) - 1).toNat = k - 1 := by omega
        obtain ⟨x, hx⟩ : ∃ x, l0[k - 1] = x := ⟨_, rfl⟩
        obtain ⟨y, hy⟩ : ∃ y, l1[k - 1]'(by have := HLEN.out; omega) = y := ⟨_, rfl⟩
        rw [hx] at hc0
        rw [hy] at hc1
        have HX := Lib.hid hx
        have HY := Lib.hid hy
        clear hx hy
        have hi0 : (0 : Int) ≤ (k : Int) - 1 := by omega
        have hi1 : (k : Int) - 1 < (l0.length : Int) := by omega
        by_cases hxy : x = y
        · have hxy' : (x != y) = false := by simp [hxy]
          have HXY := Lib.hid hxy
          clear hxy
          go_wp2
          go_quiet (fail)
          go_wp2
          go_roundw
          case rel =>
            refine ⟨k - 1, _, by omega, ?_, rfl, ?_⟩
            · congr 1; omega
            · refine Lib.hid ?_
              rw [List.drop_eq_getElem_cons (by omega : k - 1 < l0.length), List.drop_eq_getElem_cons (by have := HLEN.out; omega : k - 1 < l1.length), HX.out, HY.out, HXY.out, show k - 1 + 1 = k from by omega, HD.out]
          case measure => simp [intOf]; omega
        · have hxy' : (x != y) = true := by simp [hxy]
          have HXY := Lib.hid hxy
          clear hxy
          go_wp2
          go_quiet (fail)
          go_wp2
          go_quiet (fail)
          go_wp2
          go_ret
          refine ⟨?_, _, drewN3 _ _ _ _⟩
          have e : decide (y < x) = decide (val l1 < val l0) := by
            rw [decide_eq_decide]
            have h1 := val_at HN0.out.1 HN1.out.1 HLEN.out (k - 1) (by omega) (by rw [show k - 1 + 1 = k from by omega]; exact HD.out)
            have h2 := val_at HN1.out.1 HN0.out.1 HLEN.out.symm (k - 1) (by have := HLEN.out; omega) (by rw [show k - 1 + 1 = k from by omega]; exact HD.out.symm)
            rw [HX.out, HY.out] at h1 h2
            have h3 := HXY.out
            constructor
            · exact h2
            · intro h
              rcases Int.lt_or_le y x with h4 | h4
              · exact h4
              · have := h1 (by omega)
                omega
          rw [← e]; rfl
      · have hk0 : k = 0 := by omega
        have HK := Lib.hid hk0
        clear hk0
        go_wp2
        go_ret
        refine ⟨?_, n, rfl⟩
        have e : l0 = l1 := by have := HD.out; rw [HK.out, List.drop_zero, List.drop_zero] at this; exact this
        rw [e]; simp
  · have HNE := Lib.hid hlen
    have hb : ((l0.length : Int) != (l1.length : Int)) = true := by simp; omega
    clear hlen
    go_enter Try.func142, Try.ntmps142
    go_wp2
    go_ret
    refine ⟨?_, 0, rfl⟩
    have e : decide (l1.length < l0.length) = decide (val l1 < val l0) := by
      rw [decide_eq_decide]
      have h1 := HNE.out
      rcases Nat.lt_or_ge l1.length l0.length with h | h
      · have := val_len HN1.out.1 HN0.out h
        constructor <;> intro _ <;> assumption
      · have := val_len HN0.out.1 HN1.out (by omega)
        omega
    rw [← e]; rfl

/-- A number that isn't above the bound, or that it is. -/
def backF (x : Int) : Int × Int := if 1099511627776 < x then (0, 3) else (x, 0)

def BackPost (x : Int) (w : World) (e : Ending) (w' : World) : Prop :=
  e = .returned (.tuple #[.int .u64 (backF x).1, .int .i64 (backF x).2]) ∧ Below w.heap.size w w'

set_option maxRecDepth 100000 in
set_option maxHeartbeats 1000000 in
theorem back_any (A : Option Addr) (c : Nat) (l : List Int) (w : World) (hr : Reads w A (ints .i64 l)) (hn : Nm l) (hl : l.length ≤ 9223372036854775807) :
    Calls Try.prog 99 #[.slice A l.length c] w (BackPost (val l) w) := by
  have HR := Lib.hid hr
  have HN := Lib.hid hn
  clear hr hn
  go_enter Try.func99, Try.ntmps99
  go_wp2_with fail
  refine (of_any 1099511627776 _ (by omega) (by omega)).mono ?_
  rintro e w1 ⟨v, l1, rfl, ho1, hn1, hv1, hb1⟩
  obtain ⟨A1, c1, rfl, hc1, hm1, hr1, hlen1⟩ := own_reads ho1
  have HR1 := Lib.hid hr1
  have HN1 := Lib.hid hn1
  have HV1 := Lib.hid hv1
  have HB1 := Lib.hid hb1
  have HRW := Lib.hid (HR.out.below hb1)
  clear hr1 hn1 hv1 ho1 hb1 hlen1
  go_wp2_with fail
  refine (more_any A A1 c c1 l l1 _ HRW.out HR1.out HN.out HN1.out hl).mono ?_
  rintro e w2 ⟨rfl, n, rfl⟩
  rw [HV1.out]
  by_cases hbig : 1099511627776 < val l
  · have HBIG := Lib.hid hbig
    have hd : decide (1099511627776 < val l) = true := by simp [hbig]
    clear hbig
    go_wp2
    go_ret2
    exact ⟨by unfold backF; rw [if_pos HBIG.out]; rfl, belowN HB1.out n⟩
  · have HBIG := Lib.hid hbig
    have hd : decide (1099511627776 < val l) = false := by simp [hbig]
    clear hbig
    go_wp2
    go_loop [4, 5] (fun x i => ∃ (k : Nat), k ≤ l.length ∧ i = .int .i64 ((k : Int) - 1) ∧ x = .int .u64 (val (l.drop k))) (fun _ i => (intOf i + 1).toNat)
    case atStart => exact ⟨l.length, Nat.le_refl _, rfl, by rw [List.drop_length]; rfl⟩
    case round =>
      obtain ⟨k, hk, rfl, rfl⟩ := hrel
      by_cases hp : 0 < k
      · obtain ⟨b0, o0, hA0, hc0⟩ := HRW.out.get (k - 1) (by simp; omega)
        subst hA0
        rw [ints_get] at hc0
        have hidx : ((k : Int) - 1).toNat = k - 1 := by omega
        have hi0 : (0 : Int) ≤ (k : Int) - 1 := by omega
        have hi1 : (k : Int) - 1 < (l.length : Int) := by omega
        have e1 := val_back l (k - 1) (by omega)
        rw [show k - 1 + 1 = k from by omega] at e1
        have hle := val_drop_le HN.out.1 (k - 1)
        have h3 := val_nonneg (HN.out.1.drop k)
        have hd2 := HN.out.1 _ (List.getElem_mem (show k - 1 < l.length by omega))
        obtain ⟨x, hx⟩ : ∃ x, l[k - 1] = x := ⟨_, rfl⟩
        rw [hx] at hc0 e1 hd2
        have hup : val (l.drop k) * 10000 + x ≤ 1099511627776 := by have := HBIG.out; omega
        obtain ⟨hx0, hx1⟩ := hd2
        have HE := Lib.hid e1
        clear hle hx e1
        generalize val (l.drop k) = y at *
        go_wp2
        go_round
        case rel => exact ⟨k - 1, by omega, by congr 1; omega, by rw [HE.out]; congr 1; omega⟩
        case measure => simp [intOf]; omega
      · have hk0 : k = 0 := by omega
        have HK := Lib.hid hk0
        clear hk0
        go_wp2
        go_ret2
        exact ⟨by unfold backF; rw [if_neg (by have := HBIG.out; omega), HK.out]; rfl, belowN HB1.out n⟩

end Go.Proofs.Ythginpedlfocpaa
