/- Contracts of the reference's long numbers, third part: sums. -/
import Derived.Test.YthginpedlfocpaaRefB
import Derived.Laws.CopyOwn
import Derived.BigRegion
namespace Go.Proofs.Ythginpedlfocpaa
open Go.RowKit Go.Alo
attribute [local go_sem] max_ints min_ints

theorem madeInts (n : Nat) : madeCells (Value.int .i64 0).cells n = ((ints .i64 (List.replicate n 0)).toArray : Array Value) := by
  apply Array.ext
  · simp [madeCells]
  · intro i h1 h2
    simp [madeCells, Value.cells, ints, Nat.mod_one]

theorem run_make_ints (W : World) (n : Nat) (hn : n ≤ 1000000) :
    (Instr.makeSlice 142 (.int .i64 ((n : Int) + 1)) (.int .i64 ((n : Int) + 1))).run Try.prog W = .ok (.slice (some ⟨W.heap.size, 0, none⟩) (n + 1) (n + 1)) (W.alloc (.cells (ints .i64 (List.replicate (n + 1) 0)).toArray 3)) := by
  obtain ⟨i0, hi, hz0, hz1, hz2⟩ := info_parts info_int
  have := run_make (P := Try.prog) W 142 3 i0 (.int .i64 0) Try.underlying142 hi hz0 .i64 .i64 (n + 1) (n + 1) (by omega) (by omega) (by rw [hz2]; omega) (by omega)
  rw [hz1, Nat.mul_one, show ((n : Int) + 1).toNat = n + 1 from by omega, madeInts] at this
  exact this

set_option maxRecDepth 100000 in
set_option maxHeartbeats 2000000 in
theorem plus_any (A0 A1 : Option Addr) (c0 c1 : Nat) (l0 l1 : List Int) (w : World) (hr0 : Reads w A0 (ints .i64 l0)) (hr1 : Reads w A1 (ints .i64 l1)) (hn0 : Nm l0) (hn1 : Nm l1)
    (hl0 : l0.length ≤ 1000000) (hl1 : l1.length ≤ 1000000) :
    Calls Try.prog 98 #[.slice A0 l0.length c0, .slice A1 l1.length c1] w (DigPost (val l0 + val l1) w) := by
  have HR0 := Lib.hid hr0
  have HR1 := Lib.hid hr1
  have HN0 := Lib.hid hn0
  have HN1 := Lib.hid hn1
  clear hr0 hr1 hn0 hn1
  have hmk := run_make_ints
  obtain ⟨N, hb0, hb1, hN⟩ : ∃ N : Nat, l0.length ≤ N ∧ l1.length ≤ N ∧ (N = l0.length ∨ N = l1.length) := ⟨max l0.length l1.length, by omega, by omega, by omega⟩
  have hNm : N ≤ 1000000 := by omega
  have hmax : mx (l0.length : Int) (l1.length : Int) = (N : Int) := by rw [mx_eq]; omega
  go_enter Try.func98, Try.ntmps98
  go_wp2_with ((with_reducible refine gate (N := 16) rfl ?_); refine wpList_copy_splice rfl (.tmp 14) (.tmp 15) 142 142 rfl 3 Try.underlying142 ?cz (some ⟨w.heap.size, 0, none⟩) A0 (N + 1) (N + 1) l0.length c0 rfl rfl w.heap.size 0 (ints .i64 (List.replicate (N + 1) 0)) 3 ?cr (ints .i64 l0) ?c1 ?c2 ?c3 (ints_one _ _) w.heap.size w ((Below.refl _ _).alloc (Nat.le_refl _) _) (Nat.le_refl _) ?_)
  case cz => kernel_rfl
  case cr =>
    have h := Row.new w 3 (ints .i64 (List.replicate (N + 1) 0))
    simpa [Row, ints] using h
  case c1 =>
    rw [List.length_map]; exact (Nat.min_eq_left (by omega)).symm
  case c2 =>
    intro hp
    obtain ⟨ad, e, h⟩ := (HR0.out.below ((Below.refl w.heap.size w).alloc (Nat.le_refl _) (.cells (Array.replicate (N + 1) (Value.int .i64 0)) 3))).addr (by simpa using hp)
    exact ⟨ad, e, fun j a hj => h j _ (by simp [ints, hj])⟩
  case c3 => simp; omega
  intro w1 hrow hb1
  have HROW : Hid (Row w1 w.heap.size 3 (ints .i64 (l0 ++ List.replicate (N + 1 - l0.length) 0))) := Lib.hid (by
    have h := hrow.out
    have e : splice (List.replicate (N + 1) (Value.int .i64 0)) 0 (ints .i64 l0) = ints .i64 (l0 ++ List.replicate (N + 1 - l0.length) 0) := by
      simp [splice, ints, List.drop_replicate]
    rw [e] at h
    exact h)
  have HB1 := Lib.hid hb1
  clear hrow hb1 hmk
  go_wp2
  go_loopw [19] (fun i wr => ∃ (k : Nat) (o : List Int), k ≤ N + 1 ∧ i = .int .i64 k ∧ Hid (Row wr w.heap.size 3 (ints .i64 o)) ∧ Hid (Adds (val l0 + val l1) l1 N k o) ∧ Hid (Below w.heap.size w wr)) (fun i _ => N + 1 - (intOf i).toNat)
  case atStart => exact ⟨0, _, Nat.zero_le _, rfl, HROW, Adds.start HN0.out.1 hb0, HB1⟩
  case round =>
    obtain ⟨k, o, hk, rfl, HO, HA, HB⟩ := hrel
    have hlen := HA.out.len
    by_cases hlt : k < N + 1
    · have hko : k < o.length := by omega
      have hc := HO.out.cell k (by simpa using hko)
      have hf := HO.out.frozen k
      rw [ints_get] at hc
      obtain ⟨x, hx⟩ : ∃ x, o[k] = x := ⟨_, rfl⟩
      rw [hx] at hc
      have hlow := HA.out.low k hko
      rw [if_pos rfl, hx] at hlow
      obtain ⟨hx0, hx1⟩ := hlow
      have hy := HN1.out.1.getD k
      obtain ⟨y, hyd⟩ : ∃ y, l1.getD k 0 = y := ⟨_, rfl⟩
      rw [hyd] at hy
      obtain ⟨hy0, hy1⟩ := hy
      by_cases hk1 : k < l1.length
      · obtain ⟨b1, o1, hA1, hc1⟩ := HR1.out.get k (by simpa using hk1)
        rw [ints_get] at hc1
        have hyl : l1[k] = y := by rw [← hyd]; simp [hk1]
        rw [hyl] at hc1
        subst hA1
        have HBR := Lib.hid HB.out
        have hc1' : wr.cell? ⟨b1, o1 + k, none⟩ = some (.int .i64 y) := by
          rw [bcell HB.out b1 (o1 + k) (cell_lt hc1)]; exact hc1
        have hne : b1 ≠ w.heap.size := by have := cell_lt hc1; omega
        by_cases hbig : 10000 ≤ x + y
        · have hB := HA.out.big hko (by rw [hx, hyd]; exact hbig) HN1.out.1 hb1
          obtain ⟨hkN, hB⟩ := hB
          have hB' := hB (by omega)
          rw [hx, hyd] at hB'
          have HBIG := Lib.hid hB'
          have hcz := HO.out.cell (k + 1) (by simp; omega)
          have hfz := HO.out.frozen (k + 1)
          rw [ints_get] at hcz
          obtain ⟨z, hz⟩ : ∃ z, o[k + 1]'(by omega) = z := ⟨_, rfl⟩
          rw [hz] at hcz HBIG
          have hlz := HA.out.low (k + 1) (by omega)
          rw [if_neg (by omega), hz] at hlz
          obtain ⟨hz0, hz1⟩ := hlz
          clear hB hB' hx hyd hyl hz
          go_wp2
          go_region
          all_goals go_wp2
          go_roundw
          case rel =>
            refine ⟨k + 1, _, by omega, by go_num, Lib.hid ?_, HBIG, Lib.hid ((((HB.out.setCell (Nat.le_refl _) _).setCell (Nat.le_refl _) _).setCell (Nat.le_refl _) _).drew)⟩
            have h := (((HO.out.set k (.int .i64 (x + y))).set k (.int .i64 (x + y - 10000))).set (k + 1) (.int .i64 (z + 1))).drew
            rw [List.set_set] at h
            simpa [ints, List.map_set] using h
          case measure => simp [intOf]; omega
        · have HSM := Lib.hid (HA.out.small hko (by rw [hx, hyd]; omega) HN1.out.1)
          rw [hx, hyd] at HSM
          clear hx hyd hyl
          go_wp2
          go_region
          all_goals go_wp2
          go_roundw
          case rel =>
            refine ⟨k + 1, _, by omega, by go_num, Lib.hid ?_, HSM, Lib.hid ((HB.out.setCell (Nat.le_refl _) _).drew)⟩
            have h := (HO.out.set k (.int .i64 (x + y))).drew
            simpa [ints, List.map_set] using h
          case measure => simp [intOf]; omega
      · have hy0' : y = 0 := by rw [← hyd]; exact getD_out _ _ (by omega)
        subst hy0'
        by_cases hbig : 10000 ≤ x
        · have hB := HA.out.big hko (by rw [hx, hyd]; omega) HN1.out.1 hb1
          obtain ⟨hkN, hB⟩ := hB
          have hB' := hB (by omega)
          rw [hx, hyd, Int.add_zero] at hB'
          have HBIG := Lib.hid hB'
          have hcz := HO.out.cell (k + 1) (by simp; omega)
          have hfz := HO.out.frozen (k + 1)
          rw [ints_get] at hcz
          obtain ⟨z, hz⟩ : ∃ z, o[k + 1]'(by omega) = z := ⟨_, rfl⟩
          rw [hz] at hcz HBIG
          have hlz := HA.out.low (k + 1) (by omega)
          rw [if_neg (by omega), hz] at hlz
          obtain ⟨hz0, hz1⟩ := hlz
          clear hB hB' hx hyd hz
          go_wp2
          go_roundw
          case rel =>
            refine ⟨k + 1, _, by omega, by go_num, Lib.hid ?_, HBIG, Lib.hid ((HB.out.setCell (Nat.le_refl _) _).setCell (Nat.le_refl _) _)⟩
            have h := (HO.out.set k (.int .i64 (x - 10000))).set (k + 1) (.int .i64 (z + 1))
            simpa [ints, List.map_set] using h
          case measure => simp [intOf]; omega
        · have HSM := Lib.hid (HA.out.small hko (by rw [hx, hyd]; omega) HN1.out.1)
          rw [hx, hyd, Int.add_zero] at HSM
          have HX := Lib.hid hx
          clear hx hyd
          go_wp2
          go_roundw
          case rel =>
            refine ⟨k + 1, o, by omega, by go_num, HO, ?_, HB⟩
            have h := HSM.out
            rw [← HX.out, List.set_getElem_self] at h
            exact h
          case measure => simp [intOf]; omega
    · have hk' : k = N + 1 := by omega
      subst hk'
      obtain ⟨hd, hv⟩ := HA.out.done hb1
      have hown := HO.out.reads'
      have hlen' : (ints .i64 o).length = N + 1 := by simp [hlen]
      have HREAD := Lib.hid hown
      have HD := Lib.hid hd
      have HV := Lib.hid hv
      have HLEN := Lib.hid hlen
      have harg : (N + 1 : Nat) = o.length := hlen.symm
      clear hown hd hv hlen hlen'
      go_wp2_with fail
      have hcap : o.length ≤ 9223372036854775807 := by have := HLEN.out; omega
      refine (trim_any _ _ o wr HREAD.out HD.out (Nat.le_refl _) hcap).mono ?_
      rintro e w2 ⟨m, hm, rfl, hnm, hvm, rfl⟩
      have HNM := Lib.hid hnm
      have HVM := Lib.hid hvm
      have HM := Lib.hid hm
      clear hnm hvm hm harg hcap
      go_wp2
      go_ret
      refine ⟨_, o.take m, rfl, ?_, HNM.out, by rw [HVM.out, HV.out], HB.out⟩
      have h := HO.out.owns (Nat.le_refl w.heap.size) m (by have := HM.out; simp; omega) (by have := HLEN.out; simp [maxLen]; omega)
      have hmm := HM.out
      rw [List.length_take, Nat.min_eq_left hmm]
      have e1 : (ints .i64 o).length = o.length := by simp
      rw [e1] at h
      rw [show ints .i64 (List.take m o) = List.take m (ints .i64 o) from by simp [ints, List.map_take]]
      exact h

end Go.Proofs.Ythginpedlfocpaa
