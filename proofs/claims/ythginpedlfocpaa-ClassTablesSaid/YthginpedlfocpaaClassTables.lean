/- ClassTables: the walk. -/
import Derived.Test.YthginpedlfocpaaClassE
import Derived.BigQuiet
namespace Go.Proofs.Ythginpedlfocpaa
open Go.RowKit Go.Alo
attribute [local go_sem] max_ints min_ints

theorem rsizes_row (w : World) : Calls Try.prog 49 #[] w fun e w' => ∃ g, e = .returned (.slice (some ⟨g, 0, none⟩) 12 12) ∧ Row w' g 22 (ints .u64 SZ) ∧ Below w.heap.size w w' := by
  refine (rsizes_any w).mono ?_
  rintro e w1 ⟨rfl, rfl⟩
  exact ⟨_, rfl, Row.new w 22 (ints .u64 SZ), (Below.refl _ _).alloc (Nat.le_refl _) _⟩

set_option maxRecDepth 100000 in
set_option maxHeartbeats 8000000 in
theorem tables_walk (A : Option Addr) (cap : Nat) (c n : Int) (l : List Int) (w : World) (hx : Reads w A (ints .i64 l)) (ll : l.length ≤ 9223372036854775807) :
    Calls Try.prog 8 #[.int .i64 c, .int .u64 n, .slice A l.length cap] w fun e w' => e = .returned (.bool true) ∧ Below w.heap.size w w' := by
  have HR := Lib.hid hx
  clear hx
  go_enter Try.func8, Try.ntmps8
  go_wp2_with fail
  refine (alive05 w).mono ?_
  rintro e w1 ⟨rfl, hb1⟩
  have HB1 := Lib.hid hb1
  clear hb1
  by_cases h300 : 300 < l.length
  · have h3 : (300 : Int) < (l.length : Int) := by omega
    go_wp2
    go_ret
    exact ⟨rfl, HB1.out⟩
  · have h3 : ¬ (300 : Int) < (l.length : Int) := by omega
    have h30 : l.length ≤ 300 := by omega
    clear h300
    go_wp2_with fail
    refine (csize_any c w1).mono ?_
    rintro e w2 ⟨rfl, hb⟩
    have HB2 := Lib.hid (HB1.out.trans (hb.mono HB1.out.size))
    clear hb HB1
    go_wp2_with fail
    refine (cslices_any c w2).mono ?_
    rintro e w3 ⟨rfl, hb⟩
    have HB3 := Lib.hid (HB2.out.trans (hb.mono HB2.out.size))
    clear hb HB2
    go_wp2_with fail
    refine (cblocks_any c w3).mono ?_
    rintro e w4 ⟨rfl, hb⟩
    have HB4 := Lib.hid (HB3.out.trans (hb.mono HB3.out.size))
    clear hb HB3
    go_wp2_with fail
    refine (cof_any n w4).mono ?_
    rintro e w5 ⟨rfl, hb⟩
    have HB5 := Lib.hid (HB4.out.trans (hb.mono HB4.out.size))
    clear hb HB4
    go_wp2_with fail
    refine (rof_any n w5).mono ?_
    rintro e w6 ⟨rfl, hb⟩
    have HB6 := Lib.hid (HB5.out.trans (hb.mono HB5.out.size))
    clear hb HB5
    have hof : (cofF n = ((lowF SZ n : Int), 0) ∧ rofF n = ((lowF SZ n : Int), true)) ∨ (cofF n = (0, 2) ∧ rofF n = (0, false)) := by
      unfold cofF rofF
      by_cases h : n ≤ 1024
      · left; rw [if_pos h, if_pos h]; exact ⟨rfl, rfl⟩
      · right; rw [if_neg h, if_neg h]; exact ⟨rfl, rfl⟩
    obtain ⟨kk, hk, okk, ho1, ho2, hoo⟩ : ∃ kk hk okk, cofF n = (kk, hk) ∧ rofF n = (kk, okk) ∧ ((hk == 0) = okk ∧ (hk = 0 ∨ hk = 2) ∧ (okk = true ∧ hk = 0 ∨ okk = false ∧ hk = 2)) := by
      rcases hof with ⟨h1, h2⟩ | ⟨h1, h2⟩
      · exact ⟨_, _, _, h1, h2, rfl, .inl rfl, .inl ⟨rfl, rfl⟩⟩
      · exact ⟨_, _, _, h1, h2, rfl, .inr rfl, .inr ⟨rfl, rfl⟩⟩
    rw [ho1, ho2]
    clear hof ho1 ho2
    have hkk : (kk != kk) = false := by simp
    obtain ⟨-, -, hoo⟩ := hoo
    rcases hoo with ⟨rfl, rfl⟩ | ⟨rfl, rfl⟩
    all_goals
      clear hkk
      go_wp2_with fail
      refine (rsizes_row w6).mono ?_
      rintro e w7 ⟨g, rfl, hrow, hb⟩
      have HG7 := Lib.hid hrow
      have HB7 := Lib.hid (HB6.out.trans (hb.mono HB6.out.size))
      clear hb hrow HB6
      by_cases hin : 0 ≤ c ∧ c < 12
      · obtain ⟨z, hz0, hz1, hzz, hs1, hs2, hs3⟩ := class_in hin.1 hin.2
        rw [hs1, hs2, hs3]
        obtain ⟨j, rfl⟩ : ∃ j : Nat, c = j := ⟨c.toNat, by omega⟩
        have hj : j < 12 := by omega
        rw [Int.toNat_natCast] at hzz
        have hc7 := HG7.out.cell j (by simpa [SZ] using hj)
        rw [ints_get] at hc7
        have hzj : SZ[j]'(by simpa [SZ] using hj) = z := by rw [← hzz]; simp [SZ, hj]
        rw [hzj] at hc7
        have hrs := fun W => rslices_any j hj W
        have hrb := fun W => rblocks_any j hj W
        simp only [hzz] at hrs hrb
        have HRS := Lib.hid hrs
        have HRB := Lib.hid hrb
        obtain ⟨sl, hsl⟩ : ∃ sl, slN z = sl := ⟨_, rfl⟩
        rw [hsl] at HRS HRB ⊢
        obtain ⟨bl, hbl⟩ : ∃ bl, sl * 1024 / z = bl := ⟨_, rfl⟩
        rw [hbl] at HRB ⊢
        have hjI : (j : Int) < 12 := by omega
        have hj0 : (0 : Int) ≤ (j : Int) := by omega
        have hjN : ((j : Int)).toNat = j := by omega
        have hzne : (z != z) = false := by simp
        have hsne : (sl != sl) = false := by simp
        have hbne : (bl != bl) = false := by simp
        clear hs1 hs2 hs3 hzz hzj hrs hrb hsl hbl hin
        go_wp2_with fail
        refine (HRS.out w7).mono ?_
        rintro e w8 ⟨rfl, hb⟩
        have HG8 := Lib.hid (HG7.out.below hb HG7.out.lt)
        have HB8 := Lib.hid (HB7.out.trans (hb.mono HB7.out.size))
        clear hb HB7 HG7 hc7
        go_wp2_with fail
        refine (HRB.out w8).mono ?_
        rintro e w9 ⟨rfl, hb⟩
        have HG := Lib.hid (HG8.out.below hb HG8.out.lt)
        have HB := Lib.hid (HB8.out.trans (hb.mono HB8.out.size))
        clear hb HB8 HG8 HRS HRB hzne hsne hbne hj0 hjN hjI
        obtain ⟨i0, hi, hz0, hz1, hz2⟩ := info_parts info_u64c
        go_wp2
        go_loopw [18, 133] (fun v i wr => ∃ (k : Nat) (out : List Int), k ≤ l.length ∧ i = .int .i64 k ∧ out.length ≤ k ∧ Hid (wr.ownsRow w9.heap.size 22 1 v out.length (ints .u64 out)) ∧ Hid (out = pick (l.take k)) ∧ Hid (Below w9.heap.size w9 wr)) (fun _ i _ => l.length - (intOf i).toNat)
        case atStart => exact ⟨0, [], Nat.zero_le _, rfl, by simp, World.ownsRow_nil _ _ _ _, rfl, Below.refl _ _⟩
        case round =>
          obtain ⟨k, out, hk, rfl, hok, HO, HP, HBr⟩ := hrel
          have HBw := Lib.hid (HB.out.trans (HBr.out.mono HB.out.size))
          by_cases hlt : k < l.length
          · obtain ⟨b1, o1, hA1, hc1⟩ := (HR.out.below HBw.out).get k (by simpa using hlt)
            rw [ints_get] at hc1
            have hpi := pick_in l k hlt
            have hpo := pick_out l k hlt
            obtain ⟨x, hxx⟩ : ∃ x, l[k] = x := ⟨_, rfl⟩
            rw [hxx] at hc1 hpi hpo
            subst hA1
            have HPI := Lib.hid hpi
            have HPO := Lib.hid hpo
            clear hxx hpi hpo
            by_cases hin2 : 0 ≤ x ∧ x < 12
            · have HPI2 := Lib.hid (HPI.out hin2)
              obtain ⟨j2, rfl⟩ : ∃ j : Nat, x = j := ⟨x.toNat, by omega⟩
              have hj2 : j2 < 12 := by omega
              have hj2I : (j2 : Int) < 12 := by omega
              have hj20 : (0 : Int) ≤ (j2 : Int) := by omega
              have hcz := (HG.out.below HBr.out HG.out.lt).cell j2 (by simpa [SZ] using hj2)
              rw [ints_get] at hcz
              obtain ⟨z2, hz2'⟩ : ∃ z, SZ[j2]'(by simpa [SZ] using hj2) = z := ⟨_, rfl⟩
              rw [hz2'] at hcz
              have HZ2 : Hid (SZ.getD (j2 : Int).toNat 0 = z2) := Lib.hid (by rw [← hz2', Int.toNat_natCast]; simp [SZ, hj2])
              have hsz := HBr.out.size
              clear hz2' hin2
              go_wp2_with (at_builtin; refine wpList_append_own _ rfl _ _ 33 rfl w9.heap.size 22 i0 (.int .u64 0) 1 8 Try.underlying33 hi hz0 hz1 hz2 rfl (by decide) _ _ _ rfl (HO.out.alloc _) ⟨wr.heap.size, 0, none⟩ 1 1 [.int .u64 z2] rfl rfl ?c1 ?c2 ?c3 ?c4 ?c5 ?_)
              case c1 => exact cell_one_new _ _ _
              case c2 => simp [Value.oneCell']
              case c3 => unfold maxLen; omega
              case c4 => omega
              case c5 => simp; omega
              intro v' wn hown2 hgrow _
              have HB2 : Hid (Below w9.heap.size w9 wn) := Lib.hid ((HBr.out.alloc hsz _).grown hgrow (by simp; omega) (fun k hk => ownsRow_base HO.out k hk))
              have HO2 := Lib.hid hown2
              clear hown2 hgrow
              go_wp2
              go_roundw
              case rel =>
                refine ⟨k + 1, out ++ [z2], by omega, by go_num, by simp; omega, Lib.hid ?_, Lib.hid ?_, HB2⟩
                · have := HO2.out
                  simpa [ints] using this
                · rw [HPI2.out, ← HP.out, HZ2.out]
              case measure => simp [intOf]; omega
            · have HPO2 := Lib.hid (HPO.out hin2)
              by_cases hx0 : x < 0
              · clear hin2
                go_wp2
                go_roundw
                case rel => exact ⟨k + 1, out, by omega, by go_num, by omega, HO, Lib.hid (by rw [HPO2.out]; exact HP.out), HBr⟩
                case measure => simp [intOf]; omega
              · have hx12 : 12 ≤ x := by omega
                clear hin2
                go_wp2
                go_roundw
                case rel => exact ⟨k + 1, out, by omega, by go_num, by omega, HO, Lib.hid (by rw [HPO2.out]; exact HP.out), HBr⟩
                case measure => simp [intOf]; omega
          · have hke : k = l.length := by omega
            have hpo := HP.out
            rw [hke, List.take_length] at hpo
            have HP2 := Lib.hid hpo
            have HRr := Lib.hid (HR.out.below HBw.out)
            have HGr := Lib.hid (HG.out.below HBr.out HG.out.lt)
            obtain ⟨A18, c18, rfl, -, -, hr18, -⟩ := own_reads HO.out
            have HR18 := Lib.hid hr18
            clear hpo hr18
            by_cases hnil : l = []
            · have hl0 : ((l.length : Int) == 0) = true := by rw [hnil]; rfl
              have hcall : callF l = SZ := if_pos hnil
              have HCALL := Lib.hid hcall
              clear hcall hnil
              go_wp2_with fail
              refine (call_any A l cap wr HRr.out h30).mono ?_
              rintro e wa ⟨A21, c21, rfl, hr21, hba⟩
              rw [HCALL.out] at hr21 ⊢
              rw [show SZ.length = 12 from rfl]
              have HRG := Lib.hid (HGr.out.below hba HGr.out.lt).reads'
              have HR21 := Lib.hid hr21
              have HBa := Lib.hid (HBw.out.trans (hba.mono HBw.out.size))
              clear hr21 hba
              go_wp2
              go_loopw [166] (fun i wq => ∃ t : Nat, t ≤ 12 ∧ i = .int .i64 t ∧ Hid (Below wa.heap.size wa wq)) (fun i _ => 12 - (intOf i).toNat)
              case atStart => exact ⟨0, Nat.zero_le _, rfl, Below.refl _ _⟩
              case round =>
                obtain ⟨t, ht, rfl, HQ⟩ := hrel
                by_cases htl : t < 12
                · have hti : (t : Int) < 12 := by omega
                  have ht0 : (0 : Int) ≤ (t : Int) := by omega
                  obtain ⟨b1, o1, hA1, hc1⟩ := (HR21.out.below HQ.out).get t (by simpa [SZ] using htl)
                  obtain ⟨b2, o2, hA2, hc2⟩ := (HRG.out.below HQ.out).get t (by simpa [SZ] using htl)
                  injection hA2 with hA2
                  injection hA2 with e1 e2
                  subst e1 e2
                  subst hA1
                  rw [ints_get] at hc1 hc2
                  obtain ⟨y, hy⟩ : ∃ y, SZ[t]'(by simpa [SZ] using htl) = y := ⟨_, rfl⟩
                  rw [hy] at hc1 hc2
                  rw [Nat.zero_add] at hc2
                  have hyy : (y != y) = false := by simp
                  clear hy
                  go_wp2
                  go_quiet (fail)
                  go_wp2
                  go_roundw
                  case rel => exact ⟨t + 1, by omega, by go_num, Lib.hid (belowN HQ.out _)⟩
                  case measure => simp [intOf]; omega
                · have hti : ¬ (t : Int) < 12 := by omega
                  go_wp2
                  go_ret
                  exact ⟨rfl, HBa.out.trans (HQ.out.mono HBa.out.size)⟩
            · have hpos : 0 < l.length := List.length_pos_iff.2 hnil
              have hl0 : ((l.length : Int) == 0) = false := by simp; omega
              have hcall : callF l = out := by unfold callF; rw [if_neg hnil]; exact HP2.out.symm
              have HCALL := Lib.hid hcall
              clear hcall hnil
              go_wp2_with fail
              refine (call_any A l cap wr HRr.out h30).mono ?_
              rintro e wa ⟨A21, c21, rfl, hr21, hba⟩
              rw [HCALL.out] at hr21 ⊢
              have HRG := Lib.hid (HR18.out.below hba)
              have HR21 := Lib.hid hr21
              have HBa := Lib.hid (HBw.out.trans (hba.mono HBw.out.size))
              clear hr21 hba
              have hnn : ((out.length : Int) != (out.length : Int)) = false := by simp
              go_wp2
              go_loopw [166] (fun i wq => ∃ t : Nat, t ≤ out.length ∧ i = .int .i64 t ∧ Hid (Below wa.heap.size wa wq)) (fun i _ => out.length - (intOf i).toNat)
              case atStart => exact ⟨0, Nat.zero_le _, rfl, Below.refl _ _⟩
              case round =>
                obtain ⟨t, ht, rfl, HQ⟩ := hrel
                by_cases htl : t < out.length
                · have hti : (t : Int) < (out.length : Int) := by omega
                  have ht0 : (0 : Int) ≤ (t : Int) := by omega
                  obtain ⟨b1, o1, hA1, hc1⟩ := (HR21.out.below HQ.out).get t (by simpa using htl)
                  obtain ⟨b2, o2, hA2, hc2⟩ := (HRG.out.below HQ.out).get t (by simpa using htl)
                  subst hA1 hA2
                  rw [ints_get] at hc1 hc2
                  obtain ⟨y, hy⟩ : ∃ y, out[t] = y := ⟨_, rfl⟩
                  rw [hy] at hc1 hc2
                  have hyy : (y != y) = false := by simp
                  clear hy
                  go_wp2
                  go_quiet (fail)
                  go_wp2
                  go_roundw
                  case rel => exact ⟨t + 1, by omega, by go_num, Lib.hid (belowN HQ.out _)⟩
                  case measure => simp [intOf]; omega
                · have hti : ¬ (t : Int) < (out.length : Int) := by omega
                  go_wp2
                  go_ret
                  exact ⟨rfl, HBa.out.trans (HQ.out.mono HBa.out.size)⟩
      · obtain ⟨hs1, hs2, hs3⟩ := class_out hin
        rw [hs1, hs2, hs3]
        have HG := HG7
        have HB := HB7
        clear hs1 hs2 hs3 HG7 HB7
        by_cases hc0 : c < 0
        · clear hin
          obtain ⟨i0, hi, hz0, hz1, hz2⟩ := info_parts info_u64c
          go_wp2
          go_loopw [18, 133] (fun v i wr => ∃ (k : Nat) (out : List Int), k ≤ l.length ∧ i = .int .i64 k ∧ out.length ≤ k ∧ Hid (wr.ownsRow w7.heap.size 22 1 v out.length (ints .u64 out)) ∧ Hid (out = pick (l.take k)) ∧ Hid (Below w7.heap.size w7 wr)) (fun _ i _ => l.length - (intOf i).toNat)
          case atStart => exact ⟨0, [], Nat.zero_le _, rfl, by simp, World.ownsRow_nil _ _ _ _, rfl, Below.refl _ _⟩
          case round =>
            obtain ⟨k, out, hk, rfl, hok, HO, HP, HBr⟩ := hrel
            have HBw := Lib.hid (HB.out.trans (HBr.out.mono HB.out.size))
            by_cases hlt : k < l.length
            · obtain ⟨b1, o1, hA1, hc1⟩ := (HR.out.below HBw.out).get k (by simpa using hlt)
              rw [ints_get] at hc1
              have hpi := pick_in l k hlt
              have hpo := pick_out l k hlt
              obtain ⟨x, hxx⟩ : ∃ x, l[k] = x := ⟨_, rfl⟩
              rw [hxx] at hc1 hpi hpo
              subst hA1
              have HPI := Lib.hid hpi
              have HPO := Lib.hid hpo
              clear hxx hpi hpo
              by_cases hin2 : 0 ≤ x ∧ x < 12
              · have HPI2 := Lib.hid (HPI.out hin2)
                obtain ⟨j2, rfl⟩ : ∃ j : Nat, x = j := ⟨x.toNat, by omega⟩
                have hj2 : j2 < 12 := by omega
                have hj2I : (j2 : Int) < 12 := by omega
                have hj20 : (0 : Int) ≤ (j2 : Int) := by omega
                have hcz := (HG.out.below HBr.out HG.out.lt).cell j2 (by simpa [SZ] using hj2)
                rw [ints_get] at hcz
                obtain ⟨z2, hz2'⟩ : ∃ z, SZ[j2]'(by simpa [SZ] using hj2) = z := ⟨_, rfl⟩
                rw [hz2'] at hcz
                have HZ2 : Hid (SZ.getD (j2 : Int).toNat 0 = z2) := Lib.hid (by rw [← hz2', Int.toNat_natCast]; simp [SZ, hj2])
                have hsz := HBr.out.size
                clear hz2' hin2
                go_wp2_with (at_builtin; refine wpList_append_own _ rfl _ _ 33 rfl w7.heap.size 22 i0 (.int .u64 0) 1 8 Try.underlying33 hi hz0 hz1 hz2 rfl (by decide) _ _ _ rfl (HO.out.alloc _) ⟨wr.heap.size, 0, none⟩ 1 1 [.int .u64 z2] rfl rfl ?c1 ?c2 ?c3 ?c4 ?c5 ?_)
                case c1 => exact cell_one_new _ _ _
                case c2 => simp [Value.oneCell']
                case c3 => unfold maxLen; omega
                case c4 => omega
                case c5 => simp; omega
                intro v' wn hown2 hgrow _
                have HB2 : Hid (Below w7.heap.size w7 wn) := Lib.hid ((HBr.out.alloc hsz _).grown hgrow (by simp; omega) (fun k hk => ownsRow_base HO.out k hk))
                have HO2 := Lib.hid hown2
                clear hown2 hgrow
                go_wp2
                go_roundw
                case rel =>
                  refine ⟨k + 1, out ++ [z2], by omega, by go_num, by simp; omega, Lib.hid ?_, Lib.hid ?_, HB2⟩
                  · have := HO2.out
                    simpa [ints] using this
                  · rw [HPI2.out, ← HP.out, HZ2.out]
                case measure => simp [intOf]; omega
              · have HPO2 := Lib.hid (HPO.out hin2)
                by_cases hx0 : x < 0
                · clear hin2
                  go_wp2
                  go_roundw
                  case rel => exact ⟨k + 1, out, by omega, by go_num, by omega, HO, Lib.hid (by rw [HPO2.out]; exact HP.out), HBr⟩
                  case measure => simp [intOf]; omega
                · have hx12 : 12 ≤ x := by omega
                  clear hin2
                  go_wp2
                  go_roundw
                  case rel => exact ⟨k + 1, out, by omega, by go_num, by omega, HO, Lib.hid (by rw [HPO2.out]; exact HP.out), HBr⟩
                  case measure => simp [intOf]; omega
            · have hke : k = l.length := by omega
              have hpo := HP.out
              rw [hke, List.take_length] at hpo
              have HP2 := Lib.hid hpo
              have HRr := Lib.hid (HR.out.below HBw.out)
              have HGr := Lib.hid (HG.out.below HBr.out HG.out.lt)
              obtain ⟨A18, c18, rfl, -, -, hr18, -⟩ := own_reads HO.out
              have HR18 := Lib.hid hr18
              clear hpo hr18
              by_cases hnil : l = []
              · have hl0 : ((l.length : Int) == 0) = true := by rw [hnil]; rfl
                have hcall : callF l = SZ := if_pos hnil
                have HCALL := Lib.hid hcall
                clear hcall hnil
                go_wp2_with fail
                refine (call_any A l cap wr HRr.out h30).mono ?_
                rintro e wa ⟨A21, c21, rfl, hr21, hba⟩
                rw [HCALL.out] at hr21 ⊢
                rw [show SZ.length = 12 from rfl]
                have HRG := Lib.hid (HGr.out.below hba HGr.out.lt).reads'
                have HR21 := Lib.hid hr21
                have HBa := Lib.hid (HBw.out.trans (hba.mono HBw.out.size))
                clear hr21 hba
                go_wp2
                go_loopw [166] (fun i wq => ∃ t : Nat, t ≤ 12 ∧ i = .int .i64 t ∧ Hid (Below wa.heap.size wa wq)) (fun i _ => 12 - (intOf i).toNat)
                case atStart => exact ⟨0, Nat.zero_le _, rfl, Below.refl _ _⟩
                case round =>
                  obtain ⟨t, ht, rfl, HQ⟩ := hrel
                  by_cases htl : t < 12
                  · have hti : (t : Int) < 12 := by omega
                    have ht0 : (0 : Int) ≤ (t : Int) := by omega
                    obtain ⟨b1, o1, hA1, hc1⟩ := (HR21.out.below HQ.out).get t (by simpa [SZ] using htl)
                    obtain ⟨b2, o2, hA2, hc2⟩ := (HRG.out.below HQ.out).get t (by simpa [SZ] using htl)
                    injection hA2 with hA2
                    injection hA2 with e1 e2
                    subst e1 e2
                    subst hA1
                    rw [ints_get] at hc1 hc2
                    obtain ⟨y, hy⟩ : ∃ y, SZ[t]'(by simpa [SZ] using htl) = y := ⟨_, rfl⟩
                    rw [hy] at hc1 hc2
                    rw [Nat.zero_add] at hc2
                    have hyy : (y != y) = false := by simp
                    clear hy
                    go_wp2
                    go_quiet (fail)
                    go_wp2
                    go_roundw
                    case rel => exact ⟨t + 1, by omega, by go_num, Lib.hid (belowN HQ.out _)⟩
                    case measure => simp [intOf]; omega
                  · have hti : ¬ (t : Int) < 12 := by omega
                    go_wp2
                    go_ret
                    exact ⟨rfl, HBa.out.trans (HQ.out.mono HBa.out.size)⟩
              · have hpos : 0 < l.length := List.length_pos_iff.2 hnil
                have hl0 : ((l.length : Int) == 0) = false := by simp; omega
                have hcall : callF l = out := by unfold callF; rw [if_neg hnil]; exact HP2.out.symm
                have HCALL := Lib.hid hcall
                clear hcall hnil
                go_wp2_with fail
                refine (call_any A l cap wr HRr.out h30).mono ?_
                rintro e wa ⟨A21, c21, rfl, hr21, hba⟩
                rw [HCALL.out] at hr21 ⊢
                have HRG := Lib.hid (HR18.out.below hba)
                have HR21 := Lib.hid hr21
                have HBa := Lib.hid (HBw.out.trans (hba.mono HBw.out.size))
                clear hr21 hba
                have hnn : ((out.length : Int) != (out.length : Int)) = false := by simp
                go_wp2
                go_loopw [166] (fun i wq => ∃ t : Nat, t ≤ out.length ∧ i = .int .i64 t ∧ Hid (Below wa.heap.size wa wq)) (fun i _ => out.length - (intOf i).toNat)
                case atStart => exact ⟨0, Nat.zero_le _, rfl, Below.refl _ _⟩
                case round =>
                  obtain ⟨t, ht, rfl, HQ⟩ := hrel
                  by_cases htl : t < out.length
                  · have hti : (t : Int) < (out.length : Int) := by omega
                    have ht0 : (0 : Int) ≤ (t : Int) := by omega
                    obtain ⟨b1, o1, hA1, hc1⟩ := (HR21.out.below HQ.out).get t (by simpa using htl)
                    obtain ⟨b2, o2, hA2, hc2⟩ := (HRG.out.below HQ.out).get t (by simpa using htl)
                    subst hA1 hA2
                    rw [ints_get] at hc1 hc2
                    obtain ⟨y, hy⟩ : ∃ y, out[t] = y := ⟨_, rfl⟩
                    rw [hy] at hc1 hc2
                    have hyy : (y != y) = false := by simp
                    clear hy
                    go_wp2
                    go_quiet (fail)
                    go_wp2
                    go_roundw
                    case rel => exact ⟨t + 1, by omega, by go_num, Lib.hid (belowN HQ.out _)⟩
                    case measure => simp [intOf]; omega
                  · have hti : ¬ (t : Int) < (out.length : Int) := by omega
                    go_wp2
                    go_ret
                    exact ⟨rfl, HBa.out.trans (HQ.out.mono HBa.out.size)⟩
        · have hc12 : 12 ≤ c := by omega
          clear hin
          obtain ⟨i0, hi, hz0, hz1, hz2⟩ := info_parts info_u64c
          go_wp2
          go_loopw [18, 133] (fun v i wr => ∃ (k : Nat) (out : List Int), k ≤ l.length ∧ i = .int .i64 k ∧ out.length ≤ k ∧ Hid (wr.ownsRow w7.heap.size 22 1 v out.length (ints .u64 out)) ∧ Hid (out = pick (l.take k)) ∧ Hid (Below w7.heap.size w7 wr)) (fun _ i _ => l.length - (intOf i).toNat)
          case atStart => exact ⟨0, [], Nat.zero_le _, rfl, by simp, World.ownsRow_nil _ _ _ _, rfl, Below.refl _ _⟩
          case round =>
            obtain ⟨k, out, hk, rfl, hok, HO, HP, HBr⟩ := hrel
            have HBw := Lib.hid (HB.out.trans (HBr.out.mono HB.out.size))
            by_cases hlt : k < l.length
            · obtain ⟨b1, o1, hA1, hc1⟩ := (HR.out.below HBw.out).get k (by simpa using hlt)
              rw [ints_get] at hc1
              have hpi := pick_in l k hlt
              have hpo := pick_out l k hlt
              obtain ⟨x, hxx⟩ : ∃ x, l[k] = x := ⟨_, rfl⟩
              rw [hxx] at hc1 hpi hpo
              subst hA1
              have HPI := Lib.hid hpi
              have HPO := Lib.hid hpo
              clear hxx hpi hpo
              by_cases hin2 : 0 ≤ x ∧ x < 12
              · have HPI2 := Lib.hid (HPI.out hin2)
                obtain ⟨j2, rfl⟩ : ∃ j : Nat, x = j := ⟨x.toNat, by omega⟩
                have hj2 : j2 < 12 := by omega
                have hj2I : (j2 : Int) < 12 := by omega
                have hj20 : (0 : Int) ≤ (j2 : Int) := by omega
                have hcz := (HG.out.below HBr.out HG.out.lt).cell j2 (by simpa [SZ] using hj2)
                rw [ints_get] at hcz
                obtain ⟨z2, hz2'⟩ : ∃ z, SZ[j2]'(by simpa [SZ] using hj2) = z := ⟨_, rfl⟩
                rw [hz2'] at hcz
                have HZ2 : Hid (SZ.getD (j2 : Int).toNat 0 = z2) := Lib.hid (by rw [← hz2', Int.toNat_natCast]; simp [SZ, hj2])
                have hsz := HBr.out.size
                clear hz2' hin2
                go_wp2_with (at_builtin; refine wpList_append_own _ rfl _ _ 33 rfl w7.heap.size 22 i0 (.int .u64 0) 1 8 Try.underlying33 hi hz0 hz1 hz2 rfl (by decide) _ _ _ rfl (HO.out.alloc _) ⟨wr.heap.size, 0, none⟩ 1 1 [.int .u64 z2] rfl rfl ?c1 ?c2 ?c3 ?c4 ?c5 ?_)
                case c1 => exact cell_one_new _ _ _
                case c2 => simp [Value.oneCell']
                case c3 => unfold maxLen; omega
                case c4 => omega
                case c5 => simp; omega
                intro v' wn hown2 hgrow _
                have HB2 : Hid (Below w7.heap.size w7 wn) := Lib.hid ((HBr.out.alloc hsz _).grown hgrow (by simp; omega) (fun k hk => ownsRow_base HO.out k hk))
                have HO2 := Lib.hid hown2
                clear hown2 hgrow
                go_wp2
                go_roundw
                case rel =>
                  refine ⟨k + 1, out ++ [z2], by omega, by go_num, by simp; omega, Lib.hid ?_, Lib.hid ?_, HB2⟩
                  · have := HO2.out
                    simpa [ints] using this
                  · rw [HPI2.out, ← HP.out, HZ2.out]
                case measure => simp [intOf]; omega
              · have HPO2 := Lib.hid (HPO.out hin2)
                by_cases hx0 : x < 0
                · clear hin2
                  go_wp2
                  go_roundw
                  case rel => exact ⟨k + 1, out, by omega, by go_num, by omega, HO, Lib.hid (by rw [HPO2.out]; exact HP.out), HBr⟩
                  case measure => simp [intOf]; omega
                · have hx12 : 12 ≤ x := by omega
                  clear hin2
                  go_wp2
                  go_roundw
                  case rel => exact ⟨k + 1, out, by omega, by go_num, by omega, HO, Lib.hid (by rw [HPO2.out]; exact HP.out), HBr⟩
                  case measure => simp [intOf]; omega
            · have hke : k = l.length := by omega
              have hpo := HP.out
              rw [hke, List.take_length] at hpo
              have HP2 := Lib.hid hpo
              have HRr := Lib.hid (HR.out.below HBw.out)
              have HGr := Lib.hid (HG.out.below HBr.out HG.out.lt)
              obtain ⟨A18, c18, rfl, -, -, hr18, -⟩ := own_reads HO.out
              have HR18 := Lib.hid hr18
              clear hpo hr18
              by_cases hnil : l = []
              · have hl0 : ((l.length : Int) == 0) = true := by rw [hnil]; rfl
                have hcall : callF l = SZ := if_pos hnil
                have HCALL := Lib.hid hcall
                clear hcall hnil
                go_wp2_with fail
                refine (call_any A l cap wr HRr.out h30).mono ?_
                rintro e wa ⟨A21, c21, rfl, hr21, hba⟩
                rw [HCALL.out] at hr21 ⊢
                rw [show SZ.length = 12 from rfl]
                have HRG := Lib.hid (HGr.out.below hba HGr.out.lt).reads'
                have HR21 := Lib.hid hr21
                have HBa := Lib.hid (HBw.out.trans (hba.mono HBw.out.size))
                clear hr21 hba
                go_wp2
                go_loopw [166] (fun i wq => ∃ t : Nat, t ≤ 12 ∧ i = .int .i64 t ∧ Hid (Below wa.heap.size wa wq)) (fun i _ => 12 - (intOf i).toNat)
                case atStart => exact ⟨0, Nat.zero_le _, rfl, Below.refl _ _⟩
                case round =>
                  obtain ⟨t, ht, rfl, HQ⟩ := hrel
                  by_cases htl : t < 12
                  · have hti : (t : Int) < 12 := by omega
                    have ht0 : (0 : Int) ≤ (t : Int) := by omega
                    obtain ⟨b1, o1, hA1, hc1⟩ := (HR21.out.below HQ.out).get t (by simpa [SZ] using htl)
                    obtain ⟨b2, o2, hA2, hc2⟩ := (HRG.out.below HQ.out).get t (by simpa [SZ] using htl)
                    injection hA2 with hA2
                    injection hA2 with e1 e2
                    subst e1 e2
                    subst hA1
                    rw [ints_get] at hc1 hc2
                    obtain ⟨y, hy⟩ : ∃ y, SZ[t]'(by simpa [SZ] using htl) = y := ⟨_, rfl⟩
                    rw [hy] at hc1 hc2
                    rw [Nat.zero_add] at hc2
                    have hyy : (y != y) = false := by simp
                    clear hy
                    go_wp2
                    go_quiet (fail)
                    go_wp2
                    go_roundw
                    case rel => exact ⟨t + 1, by omega, by go_num, Lib.hid (belowN HQ.out _)⟩
                    case measure => simp [intOf]; omega
                  · have hti : ¬ (t : Int) < 12 := by omega
                    go_wp2
                    go_ret
                    exact ⟨rfl, HBa.out.trans (HQ.out.mono HBa.out.size)⟩
              · have hpos : 0 < l.length := List.length_pos_iff.2 hnil
                have hl0 : ((l.length : Int) == 0) = false := by simp; omega
                have hcall : callF l = out := by unfold callF; rw [if_neg hnil]; exact HP2.out.symm
                have HCALL := Lib.hid hcall
                clear hcall hnil
                go_wp2_with fail
                refine (call_any A l cap wr HRr.out h30).mono ?_
                rintro e wa ⟨A21, c21, rfl, hr21, hba⟩
                rw [HCALL.out] at hr21 ⊢
                have HRG := Lib.hid (HR18.out.below hba)
                have HR21 := Lib.hid hr21
                have HBa := Lib.hid (HBw.out.trans (hba.mono HBw.out.size))
                clear hr21 hba
                have hnn : ((out.length : Int) != (out.length : Int)) = false := by simp
                go_wp2
                go_loopw [166] (fun i wq => ∃ t : Nat, t ≤ out.length ∧ i = .int .i64 t ∧ Hid (Below wa.heap.size wa wq)) (fun i _ => out.length - (intOf i).toNat)
                case atStart => exact ⟨0, Nat.zero_le _, rfl, Below.refl _ _⟩
                case round =>
                  obtain ⟨t, ht, rfl, HQ⟩ := hrel
                  by_cases htl : t < out.length
                  · have hti : (t : Int) < (out.length : Int) := by omega
                    have ht0 : (0 : Int) ≤ (t : Int) := by omega
                    obtain ⟨b1, o1, hA1, hc1⟩ := (HR21.out.below HQ.out).get t (by simpa using htl)
                    obtain ⟨b2, o2, hA2, hc2⟩ := (HRG.out.below HQ.out).get t (by simpa using htl)
                    subst hA1 hA2
                    rw [ints_get] at hc1 hc2
                    obtain ⟨y, hy⟩ : ∃ y, out[t] = y := ⟨_, rfl⟩
                    rw [hy] at hc1 hc2
                    have hyy : (y != y) = false := by simp
                    clear hy
                    go_wp2
                    go_quiet (fail)
                    go_wp2
                    go_roundw
                    case rel => exact ⟨t + 1, by omega, by go_num, Lib.hid (belowN HQ.out _)⟩
                    case measure => simp [intOf]; omega
                  · have hti : ¬ (t : Int) < (out.length : Int) := by omega
                    go_wp2
                    go_ret
                    exact ⟨rfl, HBa.out.trans (HQ.out.mono HBa.out.size)⟩

end Go.Proofs.Ythginpedlfocpaa
