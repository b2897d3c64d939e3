/- CalcSums: the reference's Mul; the walk. -/
import Derived.Test.YthginpedlfocpaaSumsB
namespace Go.Proofs.Ythginpedlfocpaa
open Go.RowKit Go.Alo
attribute [local go_sem] max_ints min_ints

theorem nm_drop {l : List Int} (h : Nm l) (n : Nat) : Nm (l.drop n) := by
  refine ⟨h.1.drop n, fun hne => ?_⟩
  have hl : l ≠ [] := by intro e; subst e; simp at hne
  rw [List.getLast_drop]
  exact h.2 hl

/-- What a product's row says of the product: it is it; or both are great. -/
def Mul12 (P : Int) (l : List Int) : Prop := Nm l ∧ l.length ≤ 12 ∧ (val l = P ∨ (10000 ^ 11 ≤ val l ∧ 10000 ^ 11 ≤ P))

theorem mul12_step {P x : Int} {l l' : List Int} (h : Mul12 P l) (hP : 0 ≤ P) (hx : 0 ≤ x) (hn : Nm l') (hv : val l' = val l * x) :
    (l'.length ≤ 12 → Mul12 (P * x) l') ∧ (12 < l'.length → Mul12 (P * x) (l'.drop (l'.length - 12))) := by
  obtain ⟨h1, h2, h3⟩ := h
  have big : 10000 ^ 11 ≤ val l → 1 ≤ x → 10000 ^ 11 ≤ val l' := by
    intro hb h1x
    have : val l * 1 ≤ val l * x := Int.mul_le_mul_of_nonneg_left h1x (val_nonneg h1.1)
    omega
  have bigP : 10000 ^ 11 ≤ P → 1 ≤ x → 10000 ^ 11 ≤ P * x := by
    intro hb h1x
    have : P * 1 ≤ P * x := Int.mul_le_mul_of_nonneg_left h1x hP
    omega
  constructor
  · intro hl
    refine ⟨hn, hl, ?_⟩
    rcases h3 with h3 | ⟨h3, h4⟩
    · left; rw [hv, h3]
    · rcases Int.lt_or_le x 1 with hx1 | hx1
      · have : x = 0 := by omega
        subst this
        left; rw [hv]; simp
      · right; exact ⟨big h3 hx1, bigP h4 hx1⟩
  · intro hl
    have hne : l'.drop (l'.length - 12) ≠ [] := by
      intro e
      have := congrArg List.length e
      simp at this; omega
    have hge := val_ge (nm_drop hn (l'.length - 12)) hne
    have hge2 := val_ge hn (by intro e; subst e; simp at hl)
    have hlen : (l'.drop (l'.length - 12)).length = 12 := by simp; omega
    rw [hlen] at hge
    have hp11 := pow4_mono (a := 11) (b := l'.length - 1) (by omega)
    refine ⟨nm_drop hn _, by omega, .inr ⟨hge, ?_⟩⟩
    rcases h3 with h3 | ⟨h3, h4⟩
    · rw [← h3, ← hv]; omega
    · rcases Int.lt_or_le x 1 with hx1 | hx1
      · have : x = 0 := by omega
        subst this
        rw [Int.mul_zero] at hv
        have := pow4_pos 11
        omega
      · exact bigP h4 hx1

theorem mul12_back {P : Int} {l : List Int} (h : Mul12 P l) : backF (val l) = backF P := by
  rcases h.2.2 with h3 | ⟨h3, h4⟩
  · rw [h3]
  · have : (10000 : Int) ^ 11 = 100000000000000000000000000000000000000000000 := by decide
    unfold backF
    rw [if_pos (by omega), if_pos (by omega)]

theorem reads_drop {w : World} {b o : Nat} {k : IntKind} {l : List Int} (h : Reads w (some ⟨b, o, none⟩) (ints k l)) (n : Nat) : Reads w (some ⟨b, o + n, none⟩) (ints k (l.drop n)) := by
  rcases h with h | ⟨b', off, e, h⟩
  · have : l = [] := by simpa [ints] using h
    subst this
    exact .inl (by simp [ints])
  · injection e with e
    injection e with e1 e2
    subst e1 e2
    refine .inr ⟨_, _, rfl, fun i v hi => ?_⟩
    have := h (n + i) v (by simpa [ints, List.getElem?_drop] using hi)
    rwa [← Nat.add_assoc] at this

set_option maxRecDepth 100000 in
set_option maxHeartbeats 2000000 in
theorem rmul_any (A : Option Addr) (l : List Int) (cap : Nat) (w : World) (hr : Reads w A (ints .u64 l)) (hl : l.length ≤ 300) (hb : ∀ x ∈ l, 0 ≤ x ∧ x < 18446744073709551616) :
    Calls Try.prog 39 #[.slice A l.length cap] w (BackPost (prd l) w) := by
  have HR := Lib.hid hr
  have HB := Lib.hid hb
  clear hr hb
  go_enter Try.func39, Try.ntmps39
  go_wp2
  go_loopw [4, 10] (fun v i wr => ∃ (k : Nat) (A1 : Option Addr) (c1 : Nat) (n : List Int), k ≤ l.length ∧ i = .int .i64 k ∧ v = .slice A1 n.length c1 ∧ n.length ≤ c1 ∧ c1 ≤ 9223372036854775807 ∧ Hid (Reads wr A1 (ints .i64 n)) ∧ Hid (Mul12 (prd (l.take k)) n) ∧ Hid (Below w.heap.size w wr)) (fun _ i _ => l.length - (intOf i).toNat)
  case atStart =>
    refine ⟨0, some ⟨w.heap.size, 0, none⟩, 1, [1], Nat.zero_le _, rfl, rfl, by simp, by decide, Lib.hid ?_, Lib.hid ?_, Lib.hid ((Below.refl _ _).alloc (Nat.le_refl _) _)⟩
    · exact (Row.new w 3 [.int .i64 1]).reads'
    · refine ⟨⟨fun d hd => by simp at hd; omega, fun _ => by simp⟩, by simp, .inl ?_⟩
      simp [val, prd]
  case round =>
    obtain ⟨k, A1, c1, n, hk, rfl, rfl, hnc, hcm, HRn, HV, HBl⟩ := hrel
    by_cases hlt : k < l.length
    · obtain ⟨b1, o1, hA1, hc1⟩ := (HR.out.below HBl.out).get k (by simpa using hlt)
      rw [ints_get] at hc1
      have hxb := HB.out l[k] (List.getElem_mem hlt)
      have htk := prd_take l k hlt
      obtain ⟨x, hx⟩ : ∃ x, l[k] = x := ⟨_, rfl⟩
      rw [hx] at hc1 hxb htk
      obtain ⟨hx0, hx1⟩ := hxb
      subst hA1
      have HT := Lib.hid htk
      clear hx htk
      go_wp2_with fail
      refine (of_any x wr hx0 hx1).mono ?_
      rintro e w1 ⟨v1, l1, rfl, ho1, hn1, hv1, hb1⟩
      obtain ⟨A2, c2, rfl, hc2, hm2, hr2, hlen2⟩ := own_reads ho1
      have HN1 := Lib.hid hn1
      have HV1 := Lib.hid hv1
      have HR2 := Lib.hid hr2
      have HRn2 := Lib.hid (HRn.out.below hb1)
      have HB1 := Lib.hid (HBl.out.trans (hb1.mono HBl.out.size))
      have hl15 := len_small hn1 (by rw [hv1]; exact hx1)
      have hn12 := HV.out.2.1
      clear ho1 hn1 hv1 hb1 hr2 hlen2
      go_wp2_with fail
      refine (times_any A1 A2 c1 c2 n l1 w1 HRn2.out HR2.out HV.out.1 HN1.out (by omega) (by omega)).mono ?_
      rintro e w2 ⟨v3, l3, rfl, ho3, hn3, hv3, hb3⟩
      obtain ⟨A3, c3, rfl, hc3, hm3, hr3, hlen3⟩ := own_reads ho3
      rw [HV1.out] at hv3
      have hstep := mul12_step HV.out (prd_nonneg (fun y hy => (HB.out y (List.mem_of_mem_take hy)).1)) hx0 hn3 hv3
      rw [← HT.out] at hstep
      have HST := Lib.hid hstep
      have HR3 := Lib.hid hr3
      have HB3 := Lib.hid (HB1.out.trans (hb3.mono HB1.out.size))
      rw [show maxLen = 9223372036854775807 from rfl] at hm3
      clear ho3 hn3 hv3 hb3 hr3 hlen3 hstep
      by_cases hbig : 12 < l3.length
      · obtain ⟨b4, o4, hA4, -⟩ := HR3.out.get 0 (by simp; omega)
        have hbi : (12 : Int) < (l3.length : Int) := by omega
        have hcc : ¬ c3 = l3.length - 12 := by omega
        subst hA4
        go_wp2
        go_roundw
        case rel =>
          refine ⟨k + 1, some ⟨b4, o4 + (l3.length - 12), none⟩, c3 - (l3.length - 12), l3.drop (l3.length - 12), by omega, by go_num, by rw [List.length_drop], by rw [List.length_drop]; omega, by omega, Lib.hid (reads_drop HR3.out _), Lib.hid (HST.out.2 hbig), HB3⟩
        case measure => simp [intOf]; omega
      · have hbi : ¬ (12 : Int) < (l3.length : Int) := by omega
        go_wp2
        go_roundw
        case rel => exact ⟨k + 1, A3, c3, l3, by omega, by go_num, rfl, hc3, hm3, HR3, Lib.hid (HST.out.1 (by omega)), HB3⟩
        case measure => simp [intOf]; omega
    · have hke : k = l.length := by omega
      have hv := HV.out
      rw [hke, List.take_length] at hv
      have HV2 := Lib.hid hv
      have hn12 := hv.2.1
      clear hke hv
      go_wp2_with fail
      refine (back_any A1 c1 n wr HRn.out HV2.out.1 (by omega)).mono ?_
      unfold BackPost
      rw [mul12_back HV2.out]
      rintro e w3 ⟨rfl, hb3⟩
      go_wp2
      go_ret2
      exact ⟨rfl, HBl.out.trans (hb3.mono HBl.out.size)⟩

set_option maxRecDepth 100000 in
set_option maxHeartbeats 4000000 in
theorem sums_walk (A : Option Addr) (cap : Nat) (l : List Int) (w : World) (hx : Reads w A (ints .u64 l)) (hb : ∀ x ∈ l, 0 ≤ x ∧ x < 18446744073709551616) (ll : l.length ≤ 9223372036854775807) :
    Calls Try.prog 7 #[.slice A l.length cap] w fun e w' => e = .returned (.bool true) ∧ Below w.heap.size w w' := by
  have HR := Lib.hid hx
  have HB := Lib.hid hb
  clear hx hb
  go_enter Try.func7, Try.ntmps7
  go_wp2_with fail
  refine (alive01 w).mono ?_
  rintro e w1 ⟨rfl, hb1⟩
  have HB1 := Lib.hid hb1
  have HR1 := Lib.hid (HR.out.below hb1)
  clear hb1
  by_cases h300 : 300 < l.length
  · have h3 : (300 : Int) < (l.length : Int) := by omega
    go_wp2
    go_ret
    exact ⟨rfl, HB1.out⟩
  · have h3 : ¬ (300 : Int) < (l.length : Int) := by omega
    have h30 : l.length ≤ 300 := by omega
    clear h300
    go_wp2_with fail
    refine (sum_any A l cap w1 HR1.out ll HB.out).mono ?_
    rintro e w2 ⟨rfl, rfl⟩
    go_wp2_with fail
    refine (rsum_any A l cap w1 HR1.out h30 HB.out).mono ?_
    rintro e w2 ⟨rfl, hb2⟩
    have HB2 := Lib.hid (HB1.out.trans (hb2.mono HB1.out.size))
    have HR2 := Lib.hid (HR1.out.below hb2)
    clear hb2 HB1 HR1
    go_wp2_with fail
    have hmul := mul_any A l cap w2 HR2.out ll HB.out
    rw [mulF_prd l (fun x hx => (HB.out x hx).1)] at hmul
    refine hmul.mono ?_
    rintro e w3 ⟨rfl, rfl⟩
    clear hmul
    go_wp2_with fail
    refine (rmul_any A l cap w2 HR2.out h30 HB.out).mono ?_
    rintro e w3 ⟨rfl, hb3⟩
    have HB3 := Lib.hid (HB2.out.trans (hb3.mono HB2.out.size))
    have HR3 := Lib.hid (HR2.out.below hb3)
    clear hb3 HB2 HR2
    go_wp2_with fail
    refine (most_any A l cap w3 HR3.out ll).mono ?_
    rintro e w4 ⟨rfl, rfl⟩
    go_wp2_with fail
    refine (least_any A l cap w3 HR3.out ll).mono ?_
    rintro e w4 ⟨rfl, rfl⟩
    go_wp2_with fail
    refine (ends_any A l cap w3 HR3.out ll).mono ?_
    rintro e w4 ⟨rfl, nq, rfl⟩
    rw [least_err l]
    obtain ⟨s1, hs1⟩ : ∃ s, (backF (tot l)).1 = s := ⟨_, rfl⟩
    obtain ⟨s2, hs2⟩ : ∃ s, (backF (tot l)).2 = s := ⟨_, rfl⟩
    obtain ⟨p1, hp1⟩ : ∃ s, (backF (prd l)).1 = s := ⟨_, rfl⟩
    obtain ⟨p2, hp2⟩ : ∃ s, (backF (prd l)).2 = s := ⟨_, rfl⟩
    obtain ⟨m1, hm1⟩ : ∃ s, (mostF l).1 = s := ⟨_, rfl⟩
    obtain ⟨m2, hm2⟩ : ∃ s, (mostF l).2 = s := ⟨_, rfl⟩
    obtain ⟨m3, hm3⟩ : ∃ s, (leastF l).1 = s := ⟨_, rfl⟩
    rw [hs1, hs2, hp1, hp2, hm1, hm2, hm3]
    clear hs1 hs2 hp1 hp2 hm1 hm2 hm3
    go_wp2
    go_ret
    exact ⟨rfl, belowN HB3.out nq⟩

end Go.Proofs.Ythginpedlfocpaa
