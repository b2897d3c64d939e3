/- Contracts of the reference's long numbers, fifth part: products. -/
import Derived.Test.YthginpedlfocpaaRefD
import Derived.Test.YthginpedlfocpaaTimes
import Derived.BigRegion
namespace Go.Proofs.Ythginpedlfocpaa
open Go.RowKit Go.Alo
attribute [local go_sem] max_ints min_ints

theorem run_make_ints2 (W : World) (a b : Nat) (ha : a ≤ 20) (hb : b ≤ 20) :
    (Instr.makeSlice 142 (.int .i64 ((a : Int) + (b : Int) + 1)) (.int .i64 ((a : Int) + (b : Int) + 1))).run Try.prog W = .ok (.slice (some ⟨W.heap.size, 0, none⟩) (a + b + 1) (a + b + 1)) (W.alloc (.cells (ints .i64 (List.replicate (a + b + 1) 0)).toArray 3)) := by
  have := run_make_ints W (a + b) (by omega)
  rw [show (((a + b : Nat) : Int) + 1) = (a : Int) + (b : Int) + 1 from by omega] at this
  exact this

set_option maxRecDepth 100000 in
set_option maxHeartbeats 4000000 in
theorem times_any (A0 A1 : Option Addr) (c0 c1 : Nat) (l0 l1 : List Int) (w : World) (hr0 : Reads w A0 (ints .i64 l0)) (hr1 : Reads w A1 (ints .i64 l1)) (hn0 : Nm l0) (hn1 : Nm l1)
    (hl0 : l0.length ≤ 20) (hl1 : l1.length ≤ 20) :
    Calls Try.prog 108 #[.slice A0 l0.length c0, .slice A1 l1.length c1] w (DigPost (val l0 * val l1) w) := by
  have HR0 := Lib.hid hr0
  have HR1 := Lib.hid hr1
  have HN0 := Lib.hid hn0
  have HN1 := Lib.hid hn1
  clear hr0 hr1 hn0 hn1
  have hmk := run_make_ints2
  go_enter Try.func108, Try.ntmps108
  go_wp2
  clear hmk
  go_loopw [18] (fun i wr => ∃ (i' : Nat) (o : List Int), i' ≤ l0.length ∧ i = .int .i64 i' ∧ Hid (Row wr w.heap.size 3 (ints .i64 o)) ∧ Hid (Prods l0 l1 i' 0 o) ∧ Hid (Below w.heap.size w wr)) (fun i _ => l0.length - (intOf i).toNat)
  case atStart =>
    refine ⟨0, _, Nat.zero_le _, rfl, Lib.hid ?_, Prods.start l0 l1, Lib.hid ?_⟩
    · simpa [ints] using Row.new w 3 (ints .i64 (List.replicate (l0.length + l1.length + 1) 0))
    · exact (Below.refl _ _).alloc (Nat.le_refl _) _
  case round =>
    obtain ⟨i, o, hi, rfl, HO, HP, HB⟩ := hrel
    by_cases hlt : i < l0.length
    · obtain ⟨b0, o0, hA0, hc0⟩ := HR0.out.get i (by simpa using hlt)
      rw [ints_get] at hc0
      obtain ⟨u, hu⟩ : ∃ u, l0[i] = u := ⟨_, rfl⟩
      rw [hu] at hc0
      have hub := HN0.out.1 l0[i] (List.getElem_mem hlt)
      rw [hu] at hub
      obtain ⟨hu0, hu1⟩ := hub
      have HU := Lib.hid hu
      have HC0 := Lib.hid hc0
      have hbl0 := cell_lt hc0
      subst hA0
      clear hu hc0
      go_wp2
      go_loopw [23] (fun k wr => ∃ (k' : Nat) (o : List Int), k' ≤ l1.length ∧ k = .int .i64 k' ∧ Hid (Row wr w.heap.size 3 (ints .i64 o)) ∧ Hid (Prods l0 l1 i k' o) ∧ Hid (Below w.heap.size w wr)) (fun k _ => l1.length - (intOf k).toNat)
      case atStart => exact ⟨0, o, Nat.zero_le _, rfl, HO, HP, HB⟩
      case round =>
        clear HO HP HB
        obtain ⟨k, o, hk, rfl, HO, HP, HB⟩ := hrel
        have hlen := HP.out.len
        by_cases hkt : k < l1.length
        · obtain ⟨b1, o1, hA1, hc1⟩ := HR1.out.get k (by simpa using hkt)
          rw [ints_get] at hc1
          obtain ⟨v, hv⟩ : ∃ v, l1[k] = v := ⟨_, rfl⟩
          rw [hv] at hc1
          have hvb := HN1.out.1 l1[k] (List.getElem_mem hkt)
          rw [hv] at hvb
          obtain ⟨hv0, hv1⟩ := hvb
          have hik : i + k < o.length := by omega
          have hik1 : i + k + 1 < o.length := by omega
          have hcx := HO.out.cell (i + k) (by simpa using hik)
          have hcz := HO.out.cell (i + k + 1) (by simpa using hik1)
          have hfx := HO.out.frozen (i + k)
          have hfz := HO.out.frozen (i + k + 1)
          rw [ints_get] at hcx hcz
          have HST := fun y hy => HP.out.step hlt hkt HN0.out.1 HN1.out.1 (by omega) (by omega) hik hik1 y hy
          rw [HU.out, hv] at HST
          have hlx := HP.out.low (i + k) hik
          have hlz := HP.out.low (i + k + 1) hik1
          obtain ⟨x, hx⟩ : ∃ x, o[i + k] = x := ⟨_, rfl⟩
          obtain ⟨z, hz⟩ : ∃ z, o[i + k + 1] = z := ⟨_, rfl⟩
          rw [hx] at hcx hlx HST
          rw [hz] at hcz hlz HST
          obtain ⟨p, hp⟩ : ∃ p, u * v = p := ⟨_, rfl⟩
          have hpb := prod_bd hu0 hu1 hv0 hv1
          rw [hp] at hpb HST
          obtain ⟨hp0, hp1⟩ := hpb
          obtain ⟨hx0, hx1⟩ := hlx
          obtain ⟨hz0, hz1⟩ := hlz
          have hx2 : x ≤ 1000000000000 := by omega
          have hz2 : z ≤ 1000000000000 := by omega
          have HST' := Lib.hid (HST (x + p) rfl)
          subst hA1
          have hbl1 := cell_lt hc1
          have hc0' : wr.cell? ⟨b0, o0 + i, none⟩ = some (.int .i64 u) := by rw [bcell HB.out b0 (o0 + i) hbl0]; exact HC0.out
          have hc1' : wr.cell? ⟨b1, o1 + k, none⟩ = some (.int .i64 v) := by rw [bcell HB.out b1 (o1 + k) hbl1]; exact hc1
          have hne0 : b0 ≠ w.heap.size := by omega
          have hne1 : b1 ≠ w.heap.size := by omega
          have hwp : IntKind.i64.wrap (u * v) = p := by rw [hp, IntKind.wrap_i64]; omega
          have hidx : ((i : Int) + (k : Int)).toNat = i + k := by omega
          have hidx1 : ((i : Int) + (k : Int) + 1).toNat = i + k + 1 := by omega
          have HZ := Lib.hid hz
          clear hc1 HST hx hz hv hx1 hz1 hp
          go_wp2
          go_region
          all_goals go_wp2
          have HR1' := Lib.hid ((HO.out.set (i + k) (.int .i64 (x + p))).drew)
          have HB1 := Lib.hid ((HB.out.setCell (p := ⟨w.heap.size, i + k, none⟩) (Nat.le_refl _) (.int .i64 (x + p))).drew)
          obtain ⟨W1, hW1⟩ : ∃ W, (wr.setCell ⟨w.heap.size, i + k, none⟩ (.int .i64 (x + p))).drew = W := ⟨_, rfl⟩
          rw [hW1] at HR1' HB1 ⊢
          clear hW1 hcx hcz hfx hfz hc0' hc1' hwp
          have hy0 : 0 ≤ x + p := by omega
          have hsz1 : i + k < (ints .i64 o).length := by simpa using hik
          have hsz2 : i + k + 1 < (ints .i64 o).length := by simpa using hik1
          have hcx := HR1'.out.cell (i + k) (by rw [List.length_set]; exact hsz1)
          have hcz := HR1'.out.cell (i + k + 1) (by rw [List.length_set]; exact hsz2)
          have hfx := HR1'.out.frozen (i + k)
          have hfz := HR1'.out.frozen (i + k + 1)
          rw [List.getElem_set_self] at hcx
          rw [List.getElem_set_ne (by omega), ints_get, HZ.out] at hcz
          go_wp2
          go_region
          all_goals go_wp2
          go_roundw
          case rel =>
            have h2 := ((HR1'.out.set (i + k + 1) (.int .i64 (z + (x + p) / 10000))).set (i + k) (.int .i64 ((x + p) % 10000))).drew
            refine ⟨k + 1, _, by omega, by go_num, Lib.hid ?_, HST', Lib.hid (((HB1.out.setCell (Nat.le_refl _) _).setCell (Nat.le_refl _) _).drew)⟩
            simpa [ints, List.map_set] using h2
          case measure => simp [intOf]; omega
        · go_wp2
          go_roundw
          case rel =>
            have hke : k = l1.length := by omega
            subst hke
            exact ⟨i + 1, o, by omega, by go_num, HO, Lib.hid (HP.out.row hlt (by omega)), HB⟩
          case measure => simp [intOf]; omega
    · have hie : i = l0.length := by omega
      subst hie
      have HC := Lib.hid (HP.out.carry (by omega))
      clear HP
      go_wp2
      go_loopw [8] (fun t wr => ∃ (j : Nat) (o : List Int), j ≤ l0.length + l1.length ∧ t = .int .i64 j ∧ Hid (Row wr w.heap.size 3 (ints .i64 o)) ∧ Hid (Carry (val l0 * val l1) (l0.length + l1.length) j o) ∧ Hid (Below w.heap.size w wr)) (fun t _ => l0.length + l1.length - (intOf t).toNat)
      case atStart => exact ⟨0, o, Nat.zero_le _, rfl, HO, HC, HB⟩
      case round =>
        clear HO HC HB
        obtain ⟨j, o, hj, rfl, HO, HC, HB⟩ := hrel
        have hlen := HC.out.len
        by_cases hjt : j < l0.length + l1.length
        · have hj0 : j < o.length := by omega
          have hj1 : j + 1 < o.length := by omega
          have hcx := HO.out.cell j (by simpa using hj0)
          have hcz := HO.out.cell (j + 1) (by simpa using hj1)
          have hfx := HO.out.frozen j
          have hfz := HO.out.frozen (j + 1)
          rw [ints_get] at hcx hcz
          have hlx := HC.out.low j hj0
          have hlz := HC.out.low (j + 1) hj1
          have HST := HC.out.step hjt (by omega) hj0 hj1
          obtain ⟨x, hx⟩ : ∃ x, o[j] = x := ⟨_, rfl⟩
          obtain ⟨z, hz⟩ : ∃ z, o[j + 1] = z := ⟨_, rfl⟩
          rw [hx] at hcx hlx HST
          rw [hz] at hcz hlz HST
          obtain ⟨hx0, hx1⟩ := hlx
          obtain ⟨hz0, hz1⟩ := hlz
          have hx2 : x ≤ 100000000000000 := by omega
          have hz2 : z ≤ 100000000000000 := by omega
          have HST' := Lib.hid HST
          have hjt' : (j : Int) + 1 < (l0.length : Int) + (l1.length : Int) + 1 := by omega
          clear HST hx hz hx1 hz1
          go_wp2
          go_region
          all_goals go_wp2
          go_roundw
          case rel =>
            have h2 := ((HO.out.set (j + 1) (.int .i64 (z + x / 10000))).set j (.int .i64 (x % 10000))).drew
            refine ⟨j + 1, _, by omega, by go_num, Lib.hid ?_, HST', Lib.hid (((HB.out.setCell (Nat.le_refl _) _).setCell (Nat.le_refl _) _).drew)⟩
            simpa [ints, List.map_set] using h2
          case measure => simp [intOf]; omega
        · have hje : j = l0.length + l1.length := by omega
          subst hje
          obtain ⟨hd, hv⟩ := HC.out.done (val_mul_lt HN0.out.1 HN1.out.1)
          have HREAD := Lib.hid HO.out.reads'
          have HD := Lib.hid hd
          have HV := Lib.hid hv
          have HLEN := Lib.hid hlen
          have harg : l0.length + l1.length + 1 = o.length := hlen.symm
          have hjt' : ¬ (((l0.length + l1.length : Nat) : Int) + 1 < (l0.length : Int) + (l1.length : Int) + 1) := by omega
          clear hd hv hlen HC
          go_wp2_with fail
          have hcap : o.length ≤ 9223372036854775807 := by have := HLEN.out; omega
          refine (trim_any _ _ o wr HREAD.out HD.out (Nat.le_refl _) hcap).mono ?_
          rintro e w2 ⟨m, hm, rfl, hnm, hvm, rfl⟩
          have HNM := Lib.hid hnm
          have HVM := Lib.hid hvm
          have HM := Lib.hid hm
          clear hnm hvm hm harg hcap
          go_wp2
          go_ret
          refine ⟨_, o.take m, rfl, ?_, HNM.out, by rw [HVM.out, HV.out], HB.out⟩
          have h := HO.out.owns (Nat.le_refl w.heap.size) m (by have := HM.out; simp; omega) (by have := HLEN.out; simp [maxLen]; omega)
          have hmm := HM.out
          rw [List.length_take, Nat.min_eq_left hmm]
          have e1 : (ints .i64 o).length = o.length := by simp
          rw [e1] at h
          rw [show ints .i64 (List.take m o) = List.take m (ints .i64 o) from by simp [ints, List.map_take]]
          exact h

end Go.Proofs.Ythginpedlfocpaa
