/- Contracts: Most, Least; the reference's Ends, Sum, Mul. -/
import Derived.Test.YthginpedlfocpaaSums
import Derived.BigQuiet
namespace Go.Proofs.Ythginpedlfocpaa
open Go.RowKit Go.Alo
attribute [local go_sem] max_ints min_ints

set_option maxHeartbeats 1000000 in
theorem max_any (A : Option Addr) (x0 : Int) (l : List Int) (cap : Nat) (w : World) (hr : Reads w A (ints .u64 (x0 :: l))) (hl : (x0 :: l).length ≤ 9223372036854775807) :
    Calls Try.prog 110 #[.slice A (x0 :: l).length cap] w fun e w' => e = .returned (.int .u64 (mxF x0 l)) ∧ w = w' := by
  have HR := Lib.hid hr
  obtain ⟨b1, o1, hA1, hc1⟩ := HR.out.get 0 (by simp)
  rw [ints_get, List.getElem_cons_zero, Nat.add_zero] at hc1
  obtain ⟨n, hn⟩ : ∃ n, (x0 :: l).length = n + 1 := ⟨l.length, rfl⟩
  have HN := Lib.hid hn
  rw [hn] at hl ⊢
  subst hA1
  have hn1 : ¬ ((n : Int) + 1 < 1) := by omega
  clear hr hn
  go_enter Try.func110, Try.ntmps110
  go_wp2
  go_loop [3, 4] (fun m i => ∃ (k : Nat) (m' : Int), k ≤ n ∧ i = .int .i64 ((k : Int) + 1) ∧ m = .int .u64 m' ∧ Hid (mxF m' (l.drop k) = mxF x0 l)) (fun _ i => n + 1 - (intOf i).toNat)
  case atStart => exact ⟨0, x0, Nat.zero_le _, rfl, rfl, rfl⟩
  case round =>
    obtain ⟨k, m, hk, rfl, rfl, HM⟩ := hrel
    have hln : l.length = n := by have := HN.out; simpa using this
    have HLN := Lib.hid hln
    by_cases hlt : k < n
    · obtain ⟨b2, o2, hA2, hc2⟩ := HR.out.get (k + 1) (by simp; omega)
      rw [ints_get, List.getElem_cons_succ] at hc2
      injection hA2 with hA2
      injection hA2 with e1 e2
      subst e1 e2
      have hd := mxF_drop m l k (by omega)
      obtain ⟨x, hx⟩ : ∃ x, l[k]'(by omega) = x := ⟨_, rfl⟩
      rw [hx] at hc2 hd
      have HD := Lib.hid hd
      have hidx : ((k : Int) + 1).toNat = k + 1 := by omega
      have hb1 : (k : Int) + 1 < (n : Int) + 1 := by omega
      clear hx hd hln
      go_wp2
      go_round
      case rel => exact ⟨k + 1, mx m x, by omega, by go_num, rfl, Lib.hid (HD.out.symm.trans HM.out)⟩
      case measure => simp [intOf]; omega
    · have hke : k = n := by omega
      have hres : m = mxF x0 l := by
        have := HM.out
        rw [hke, ← HLN.out, List.drop_length] at this
        exact this
      have HRES := Lib.hid hres
      have hb1 : ¬ (k : Int) + 1 < (n : Int) + 1 := by omega
      clear hln hke hres
      go_wp2
      go_ret
      exact ⟨by rw [HRES.out]; rfl, rfl⟩

set_option maxHeartbeats 1000000 in
theorem min_any (A : Option Addr) (x0 : Int) (l : List Int) (cap : Nat) (w : World) (hr : Reads w A (ints .u64 (x0 :: l))) (hl : (x0 :: l).length ≤ 9223372036854775807) :
    Calls Try.prog 111 #[.slice A (x0 :: l).length cap] w fun e w' => e = .returned (.int .u64 (mnF x0 l)) ∧ w = w' := by
  have HR := Lib.hid hr
  obtain ⟨b1, o1, hA1, hc1⟩ := HR.out.get 0 (by simp)
  rw [ints_get, List.getElem_cons_zero, Nat.add_zero] at hc1
  obtain ⟨n, hn⟩ : ∃ n, (x0 :: l).length = n + 1 := ⟨l.length, rfl⟩
  have HN := Lib.hid hn
  rw [hn] at hl ⊢
  subst hA1
  have hn1 : ¬ ((n : Int) + 1 < 1) := by omega
  clear hr hn
  go_enter Try.func111, Try.ntmps111
  go_wp2
  go_loop [3, 4] (fun m i => ∃ (k : Nat) (m' : Int), k ≤ n ∧ i = .int .i64 ((k : Int) + 1) ∧ m = .int .u64 m' ∧ Hid (mnF m' (l.drop k) = mnF x0 l)) (fun _ i => n + 1 - (intOf i).toNat)
  case atStart => exact ⟨0, x0, Nat.zero_le _, rfl, rfl, rfl⟩
  case round =>
    obtain ⟨k, m, hk, rfl, rfl, HM⟩ := hrel
    have hln : l.length = n := by have := HN.out; simpa using this
    have HLN := Lib.hid hln
    by_cases hlt : k < n
    · obtain ⟨b2, o2, hA2, hc2⟩ := HR.out.get (k + 1) (by simp; omega)
      rw [ints_get, List.getElem_cons_succ] at hc2
      injection hA2 with hA2
      injection hA2 with e1 e2
      subst e1 e2
      have hd := mnF_drop m l k (by omega)
      obtain ⟨x, hx⟩ : ∃ x, l[k]'(by omega) = x := ⟨_, rfl⟩
      rw [hx] at hc2 hd
      have HD := Lib.hid hd
      have hidx : ((k : Int) + 1).toNat = k + 1 := by omega
      have hb1 : (k : Int) + 1 < (n : Int) + 1 := by omega
      clear hx hd hln
      go_wp2
      go_round
      case rel => exact ⟨k + 1, mn m x, by omega, by go_num, rfl, Lib.hid (HD.out.symm.trans HM.out)⟩
      case measure => simp [intOf]; omega
    · have hke : k = n := by omega
      have hres : m = mnF x0 l := by
        have := HM.out
        rw [hke, ← HLN.out, List.drop_length] at this
        exact this
      have HRES := Lib.hid hres
      have hb1 : ¬ (k : Int) + 1 < (n : Int) + 1 := by omega
      clear hln hke hres
      go_wp2
      go_ret
      exact ⟨by rw [HRES.out]; rfl, rfl⟩

set_option maxHeartbeats 1000000 in
theorem chosen_max (A : Option Addr) (l : List Int) (cap : Nat) (w : World) (hr : Reads w A (ints .u64 l)) (hl : l.length ≤ 9223372036854775807) :
    Calls Try.prog 109 #[.func (.func 110) #[] #[], .slice A l.length cap] w fun e w' => e = .returned (.tuple #[.int .u64 (mostF l).1, .int .i64 (mostF l).2]) ∧ w = w' := by
  have HR := Lib.hid hr
  clear hr
  cases l with
  | nil =>
    go_enter Try.func109, Try.ntmps109
    go_wp2
    go_ret2
    exact ⟨rfl, rfl⟩
  | cons x l =>
    have hl0 : (((x :: l).length : Int) == 0) = false := by simp; omega
    have HM := Lib.hid (max_any A x l cap w HR.out hl)
    obtain ⟨n, hn⟩ : ∃ n, (x :: l).length = n := ⟨_, rfl⟩
    rw [hn] at hl0 HM ⊢
    clear hn
    go_enter Try.func109, Try.ntmps109
    go_wp2_with fail
    refine HM.out.mono ?_
    rintro e w1 ⟨rfl, rfl⟩
    go_wp2
    go_ret2
    exact ⟨rfl, rfl⟩

set_option maxHeartbeats 1000000 in
theorem chosen_min (A : Option Addr) (l : List Int) (cap : Nat) (w : World) (hr : Reads w A (ints .u64 l)) (hl : l.length ≤ 9223372036854775807) :
    Calls Try.prog 109 #[.func (.func 111) #[] #[], .slice A l.length cap] w fun e w' => e = .returned (.tuple #[.int .u64 (leastF l).1, .int .i64 (leastF l).2]) ∧ w = w' := by
  have HR := Lib.hid hr
  clear hr
  cases l with
  | nil =>
    go_enter Try.func109, Try.ntmps109
    go_wp2
    go_ret2
    exact ⟨rfl, rfl⟩
  | cons x l =>
    have hl0 : (((x :: l).length : Int) == 0) = false := by simp; omega
    have HM := Lib.hid (min_any A x l cap w HR.out hl)
    obtain ⟨n, hn⟩ : ∃ n, (x :: l).length = n := ⟨_, rfl⟩
    rw [hn] at hl0 HM ⊢
    clear hn
    go_enter Try.func109, Try.ntmps109
    go_wp2_with fail
    refine HM.out.mono ?_
    rintro e w1 ⟨rfl, rfl⟩
    go_wp2
    go_ret2
    exact ⟨rfl, rfl⟩

set_option maxHeartbeats 1000000 in
theorem most_any (A : Option Addr) (l : List Int) (cap : Nat) (w : World) (hr : Reads w A (ints .u64 l)) (hl : l.length ≤ 9223372036854775807) :
    Calls Try.prog 40 #[.slice A l.length cap] w fun e w' => e = .returned (.tuple #[.int .u64 (mostF l).1, .int .i64 (mostF l).2]) ∧ w = w' := by
  have HC := Lib.hid (chosen_max A l cap w hr hl)
  clear hr
  go_enter Try.func40, Try.ntmps40
  go_wp2_with fail
  refine HC.out.mono ?_
  rintro e w1 ⟨rfl, rfl⟩
  go_wp2
  go_ret2
  exact ⟨rfl, rfl⟩

set_option maxHeartbeats 1000000 in
theorem least_any (A : Option Addr) (l : List Int) (cap : Nat) (w : World) (hr : Reads w A (ints .u64 l)) (hl : l.length ≤ 9223372036854775807) :
    Calls Try.prog 41 #[.slice A l.length cap] w fun e w' => e = .returned (.tuple #[.int .u64 (leastF l).1, .int .i64 (leastF l).2]) ∧ w = w' := by
  have HC := Lib.hid (chosen_min A l cap w hr hl)
  clear hr
  go_enter Try.func41, Try.ntmps41
  go_wp2_with fail
  refine HC.out.mono ?_
  rintro e w1 ⟨rfl, rfl⟩
  go_wp2
  go_ret2
  exact ⟨rfl, rfl⟩

theorem mx_self (a : Int) : mx a a = a := by rw [mx_eq]; omega
theorem mn_self (a : Int) : mn a a = a := by rw [mn_eq]; omega

def EndsPost (l : List Int) (w : World) (e : Ending) (w' : World) : Prop :=
  e = .returned (.tuple #[.int .u64 (mostF l).1, .int .u64 (leastF l).1, .int .i64 (mostF l).2]) ∧ ∃ n, w' = w.drewN n

theorem least_err (l : List Int) : (leastF l).2 = (mostF l).2 := by cases l <;> rfl

set_option maxHeartbeats 1000000 in
theorem ends_any (A : Option Addr) (l : List Int) (cap : Nat) (w : World) (hr : Reads w A (ints .u64 l)) (hl : l.length ≤ 9223372036854775807) :
    Calls Try.prog 42 #[.slice A l.length cap] w (EndsPost l w) := by
  have HR := Lib.hid hr
  clear hr
  cases l with
  | nil =>
    go_enter Try.func42, Try.ntmps42
    go_wp2
    go_ret3
    exact ⟨rfl, 0, rfl⟩
  | cons x0 l =>
    have hl0 : (((x0 :: l).length : Int) == 0) = false := by simp; omega
    obtain ⟨b1, o1, hA1, hc1⟩ := HR.out.get 0 (by simp)
    rw [ints_get, List.getElem_cons_zero, Nat.add_zero] at hc1
    obtain ⟨n, hn⟩ : ∃ n, (x0 :: l).length = n := ⟨_, rfl⟩
    have hn0 : 0 < n := by rw [← hn]; simp
    have hn1 : (0 : Int) < (n : Int) := by omega
    have HN := Lib.hid hn
    rw [hn] at hl0 hl ⊢
    subst hA1
    clear hn
    go_enter Try.func42, Try.ntmps42
    go_wp2
    go_quiet (fail)
    go_wp2
    obtain ⟨W, hW⟩ : ∃ W, w.drewN nq = W := ⟨_, rfl⟩
    have HRW := Lib.hid (HR.out.drewN nq)
    have HW := Lib.hid hW
    rw [hW] at HRW ⊢
    clear hW hc1
    go_loop [5, 6, 20] (fun p q i => ∃ (k : Nat) (p' q' : Int), k ≤ n ∧ i = .int .i64 k ∧ p = .int .u64 p' ∧ q = .int .u64 q' ∧ Hid (mxF p' ((x0 :: l).drop k) = mxF x0 l ∧ mnF q' ((x0 :: l).drop k) = mnF x0 l)) (fun _ _ i => n - (intOf i).toNat)
    case atStart => exact ⟨0, x0, x0, Nat.zero_le _, rfl, rfl, rfl, by rw [List.drop_zero, mxF, mx_self, mnF, mn_self]; exact ⟨rfl, rfl⟩⟩
    case round =>
      obtain ⟨k, p, q, hk, rfl, rfl, rfl, HM⟩ := hrel
      by_cases hlt : k < n
      · have hkl : k < (x0 :: l).length := by rw [HN.out]; exact hlt
        obtain ⟨b2, o2, hA2, hc2⟩ := HRW.out.get k (by simpa using hkl)
        rw [ints_get] at hc2
        injection hA2 with hA2
        injection hA2 with e1 e2
        subst e1 e2
        have hd1 := mxF_drop p (x0 :: l) k hkl
        have hd2 := mnF_drop q (x0 :: l) k hkl
        obtain ⟨x, hx⟩ : ∃ x, (x0 :: l)[k]'hkl = x := ⟨_, rfl⟩
        rw [hx] at hc2 hd1 hd2
        have HD1 := Lib.hid hd1
        have HD2 := Lib.hid hd2
        clear hx hd1 hd2 hkl
        go_wp2
        go_round
        case rel => exact ⟨k + 1, mx p x, mn q x, by omega, by go_num, rfl, rfl, Lib.hid ⟨HD1.out.symm.trans HM.out.1, HD2.out.symm.trans HM.out.2⟩⟩
        case measure => simp [intOf]; omega
      · have hke : k = n := by omega
        have hm := HM.out
        rw [hke, ← HN.out, List.drop_length] at hm
        have HP := Lib.hid (show p = mxF x0 l from hm.1)
        have HQ := Lib.hid (show q = mnF x0 l from hm.2)
        clear hm hke
        go_wp2
        go_ret3
        exact ⟨by rw [HP.out, HQ.out]; rfl, nq, HW.out.symm⟩

/-- A row of digits that is a number below 10000 to the n-th has no more than n. -/
theorem len_pow {l : List Int} {n : Nat} (h : Nm l) (hv : val l < 10000 ^ n) : l.length ≤ n := by
  rcases Nat.lt_or_ge n l.length with hlt | hge
  · have hne : l ≠ [] := by intro e; subst e; simp at hlt
    have h1 := val_ge h hne
    have h2 := pow4_mono (a := n) (b := l.length - 1) (by omega)
    omega
  · exact hge

theorem tot_le {l : List Int} (h : ∀ x ∈ l, x ≤ 18446744073709551616) : tot l ≤ 18446744073709551616 * l.length := by
  induction l with
  | nil => simp [tot]
  | cons x l ih =>
    have h1 := h x (by simp)
    have h2 := ih (fun y hy => h y (by simp [hy]))
    simp only [tot, List.length_cons]; omega

set_option maxRecDepth 100000 in
set_option maxHeartbeats 2000000 in
theorem rsum_any (A : Option Addr) (l : List Int) (cap : Nat) (w : World) (hr : Reads w A (ints .u64 l)) (hl : l.length ≤ 300) (hb : ∀ x ∈ l, 0 ≤ x ∧ x < 18446744073709551616) :
    Calls Try.prog 37 #[.slice A l.length cap] w (BackPost (tot l) w) := by
  have HR := Lib.hid hr
  have HB := Lib.hid hb
  clear hr hb
  go_enter Try.func37, Try.ntmps37
  go_wp2
  go_loopw [4, 9] (fun v i wr => ∃ (k : Nat) (A1 : Option Addr) (c1 : Nat) (n : List Int), k ≤ l.length ∧ i = .int .i64 k ∧ v = .slice A1 n.length c1 ∧ Hid (Reads wr A1 (ints .i64 n)) ∧ n.length ≤ 7 ∧ Hid (Nm n ∧ val n = tot (l.take k)) ∧ Hid (Below w.heap.size w wr)) (fun _ i _ => l.length - (intOf i).toNat)
  case atStart => exact ⟨0, none, 0, [], Nat.zero_le _, rfl, rfl, .inl rfl, by simp, ⟨Nm.nil, rfl⟩, Below.refl _ _⟩
  case round =>
    obtain ⟨k, A1, c1, n, hk, rfl, rfl, HRn, hn7, HV, HBl⟩ := hrel
    by_cases hlt : k < l.length
    · obtain ⟨b1, o1, hA1, hc1⟩ := (HR.out.below HBl.out).get k (by simpa using hlt)
      rw [ints_get] at hc1
      have hxb := HB.out l[k] (List.getElem_mem hlt)
      have htk := tot_take l k hlt
      obtain ⟨x, hx⟩ : ∃ x, l[k] = x := ⟨_, rfl⟩
      rw [hx] at hc1 hxb htk
      obtain ⟨hx0, hx1⟩ := hxb
      subst hA1
      have HT := Lib.hid htk
      clear hx htk
      go_wp2_with fail
      refine (of_any x wr hx0 hx1).mono ?_
      rintro e w1 ⟨v1, l1, rfl, ho1, hn1, hv1, hb1⟩
      obtain ⟨A2, c2, rfl, hc2, hm2, hr2, hlen2⟩ := own_reads ho1
      have HN1 := Lib.hid hn1
      have HV1 := Lib.hid hv1
      have HR2 := Lib.hid hr2
      have HRn2 := Lib.hid (HRn.out.below hb1)
      have HB1 := Lib.hid (HBl.out.trans (hb1.mono HBl.out.size))
      have hl15 := len_small hn1 (by rw [hv1]; exact hx1)
      clear ho1 hn1 hv1 hb1 hr2 hlen2
      go_wp2_with fail
      refine (plus_any A1 A2 c1 c2 n l1 w1 HRn2.out HR2.out HV.out.1 HN1.out (by omega) (by omega)).mono ?_
      rintro e w2 ⟨v3, l3, rfl, ho3, hn3, hv3, hb3⟩
      obtain ⟨A3, c3, rfl, hc3, hm3, hr3, hlen3⟩ := own_reads ho3
      have hv3' : val l3 = tot (l.take (k + 1)) := by rw [hv3, HV.out.2, HV1.out, HT.out]
      have hl7 : l3.length ≤ 7 := by
        refine len_pow hn3 ?_
        have h1 := tot_le (l := l.take (k + 1)) (fun y hy => by have := HB.out y (List.mem_of_mem_take hy); omega)
        have h2 : (l.take (k + 1)).length ≤ 300 := by rw [List.length_take]; omega
        have h3 : (10000 : Int) ^ 7 = 10000000000000000000000000000 := by decide
        rw [hv3', h3]
        omega
      have HV3 := Lib.hid (And.intro hn3 hv3')
      have HR3 := Lib.hid hr3
      have HB3 := Lib.hid (HB1.out.trans (hb3.mono HB1.out.size))
      clear ho3 hn3 hv3 hb3 hr3 hlen3 hv3'
      go_wp2
      go_roundw
      case rel => exact ⟨k + 1, A3, c3, l3, by omega, by go_num, rfl, HR3, hl7, HV3, HB3⟩
      case measure => simp [intOf]; omega
    · have hke : k = l.length := by omega
      have hv := HV.out
      rw [hke, List.take_length] at hv
      have HV2 := Lib.hid hv
      clear hke hv
      go_wp2_with fail
      refine (back_any A1 c1 n wr HRn.out HV2.out.1 (by omega)).mono ?_
      rw [HV2.out.2]
      rintro e w3 ⟨rfl, hb3⟩
      go_wp2
      go_ret2
      exact ⟨rfl, HBl.out.trans (hb3.mono HBl.out.size)⟩

end Go.Proofs.Ythginpedlfocpaa
