/- Contracts: class.For; class.All. -/
import Derived.Test.YthginpedlfocpaaClassC
import Derived.OwnWalk
import Derived.Test.YthginpedlfocpaaMemA
namespace Go.Proofs.Ythginpedlfocpaa
open Go.RowKit Go.Alo
attribute [local go_sem] max_ints min_ints

set_option maxRecDepth 100000 in
theorem index_sz (k : Nat) (hk : k < 12) (w : World) : (Instr.index 163 (.agg #[.int .u64 16, .int .u64 32, .int .u64 48, .int .u64 64, .int .u64 96, .int .u64 128, .int .u64 192, .int .u64 256, .int .u64 384, .int .u64 512, .int .u64 768, .int .u64 1024]) (.int .i64 k)).run Try.prog w = .ok (.int .u64 (SZ.getD k 0)) w := by
  have : k = 0 ∨ k = 1 ∨ k = 2 ∨ k = 3 ∨ k = 4 ∨ k = 5 ∨ k = 6 ∨ k = 7 ∨ k = 8 ∨ k = 9 ∨ k = 10 ∨ k = 11 := by omega
  rcases this with rfl | rfl | rfl | rfl | rfl | rfl | rfl | rfl | rfl | rfl | rfl | rfl <;> rfl

def planV (p : Int × Int × Int × Int) : Value := .agg #[.int .i64 p.1, .int .i64 p.2.1, .int .i64 p.2.2.1, .int .u64 p.2.2.2]

set_option maxRecDepth 100000 in
set_option maxHeartbeats 4000000 in
theorem for_any (n a : Int) (w : World) (h0 : 1 ≤ n) (h1 : n ≤ 1048576) (ha0 : 1 ≤ a) (ha1 : a ≤ 1024) (hp : isPB a.toNat = true) :
    Calls Try.prog 112 #[.int .u64 n, .int .u64 a] w fun e w' => e = .returned (.tuple #[planV (planF n a), .int .i64 0]) ∧ Below w.heap.size w w' := by
  have hmx : mx n 1 = n := by rw [mx_eq]; omega
  have hpw := pow2_any a
  rw [hp] at hpw
  have HPW := Lib.hid hpw
  clear hp hpw
  go_enter Try.func112, Try.ntmps112
  go_wp2_with fail
  refine (HPW.out _ (by omega) (by omega)).mono ?_
  rintro e w1 ⟨rfl, rfl⟩
  go_wp2_with fail
  refine (sizes_any _).mono ?_
  rintro e w1 ⟨rfl, hb1⟩
  have HB := Lib.hid hb1
  have HR : Hid (Row w1 w.heap.size 160 [.int .i64 0, .int .i64 0, .int .i64 0, .int .u64 0]) := Lib.hid ((Row.new w 160 [.int .i64 0, .int .i64 0, .int .i64 0, .int .u64 0]).below hb1 (by simp))
  clear hb1
  go_wp2
  go_loop [6, 7, 25] (fun x6 x7 i => ∃ k : Nat, k ≤ 12 ∧ i = .int .i64 k ∧ Hid (forF n a (SZ.drop k) k = forF n a SZ 0)) (fun _ _ i => 12 - (intOf i).toNat)
  case atStart => exact ⟨0, Nat.zero_le _, rfl, rfl⟩
  case round =>
    obtain ⟨k, hk, rfl, HK⟩ := hrel
    by_cases hlt : k < 12
    · obtain ⟨hz0, hz1⟩ := SZ_bd k hlt
      have hix := fun W => index_sz k hlt W
      have hfd := forF_drop n a SZ k (by simpa [SZ] using hlt)
      have hzz : SZ[k]'(by simpa [SZ] using hlt) = SZ.getD k 0 := by simp [SZ, hlt]
      rw [hzz] at hfd
      have hcl : cslF (k : Int) = (slN (SZ.getD k 0), 0) := by unfold cslF; rw [if_pos (by omega), Int.toNat_natCast]
      have hsc := fun W => cslices_any (k : Int) W
      simp only [hcl] at hsc
      obtain ⟨z, hz⟩ : ∃ z, SZ.getD k 0 = z := ⟨_, rfl⟩
      rw [hz] at hz0 hz1 hfd
      simp only [hz] at hix hsc
      have HFD := Lib.hid hfd
      have HSC := Lib.hid hsc
      clear hcl hsc hfd hzz hz
      by_cases hnz : n ≤ z
      · by_cases hbz : bits .and .u64 z (a - 1) = 0
        · have hd : (bits .and .u64 z (a - 1) == 0) = true := by simp [hbz]
          have hres : planF n a = ((k : Int), slN z, 0, z) := by
            unfold planF
            rw [← HK.out, HFD.out, if_pos ⟨hnz, hbz⟩]
          have HRES := Lib.hid hres
          clear hres hbz
          go_wp2_with fail
          refine (HSC.out w1).mono ?_
          rintro e w2 ⟨rfl, hb2⟩
          have hB2 := HB.out.trans (hb2.mono HB.out.size)
          have hR2 := HR.out.below hb2 HR.out.lt
          have HB2 := Lib.hid hB2
          have c0 := hR2.cell 0 (by simp)
          have c1 := hR2.cell 1 (by simp)
          have c2 := hR2.cell 2 (by simp)
          have c3 := hR2.cell 3 (by simp)
          have f0 := hR2.frozen 0
          have f1 := hR2.frozen 1
          have f2 := hR2.frozen 2
          have f3 := hR2.frozen 3
          simp only [List.getElem_cons_zero, List.getElem_cons_succ] at c0 c1 c2 c3
          have HR2 := Lib.hid hR2
          clear hb2 hB2 hR2
          go_wp2
          have HW := ((((HR2.out.set 0 (.int .i64 k)).set 1 (.int .i64 (slN z))).set 2 (.int .i64 0)).set 3 (.int .u64 z))
          have HBW := ((((((Below.refl w.heap.size w).alloc (Nat.le_refl _) (.cells #[.int .i64 0, .int .i64 0, .int .i64 0, .int .u64 0] 160)).trans (HB2.out.mono (by simp))).setCell (p := ⟨w.heap.size, 0, none⟩) (Nat.le_refl _) (.int .i64 k)).setCell (p := ⟨w.heap.size, 1, none⟩) (Nat.le_refl _) (.int .i64 (slN z))).setCell (p := ⟨w.heap.size, 2, none⟩) (Nat.le_refl _) (.int .i64 0)).setCell (p := ⟨w.heap.size, 3, none⟩) (Nat.le_refl _) (.int .u64 z)
          obtain ⟨W, hW⟩ : ∃ W, (((w2.setCell ⟨w.heap.size, 0, none⟩ (.int .i64 k)).setCell ⟨w.heap.size, 1, none⟩ (.int .i64 (slN z))).setCell ⟨w.heap.size, 2, none⟩ (.int .i64 0)).setCell ⟨w.heap.size, 3, none⟩ (.int .u64 z) = W := ⟨_, rfl⟩
          rw [hW] at HW HBW ⊢
          have d0 := HW.cell 0 (by simp)
          have d1 := HW.cell 1 (by simp)
          have d2 := HW.cell 2 (by simp)
          have d3 := HW.cell 3 (by simp)
          simp only [List.set_cons_zero, List.set_cons_succ, List.getElem_cons_zero, List.getElem_cons_succ] at d0 d1 d2 d3
          refine bodyPost_ret (v := .tuple #[planV ((k : Int), slN z, 0, z), .int .i64 0]) (by simp [results, Try.results112, go_sem, d0, d1, d2, d3, planV]) rfl ⟨by rw [HRES.out], HBW⟩
        · have hd : (bits .and .u64 z (a - 1) == 0) = false := by simp [hbz]
          go_wp2
          go_round
          case rel => exact ⟨k + 1, by omega, by go_num, Lib.hid (by have := HFD.out; rw [if_neg (fun h => hbz h.2)] at this; rw [← this]; exact HK.out)⟩
          case measure => simp [intOf]; omega
      · have hnz' : z < n := by omega
        go_wp2
        go_round
        case rel => exact ⟨k + 1, by omega, by go_num, Lib.hid (by have := HFD.out; rw [if_neg (fun h => hnz h.1)] at this; rw [← this]; exact HK.out)⟩
        case measure => simp [intOf]; omega
    · have hk12 : k = 12 := by omega
      have hnone : forF n a SZ 0 = none := by
        have := HK.out
        rw [hk12] at this
        exact this.symm
      have HN := Lib.hid hnone
      clear hnone hk12
      have HR0 := Lib.hid (HR.out.set 0 (.int .i64 (-1)))
      have c0 := HR.out.cell 0 (by simp)
      have f0 := HR.out.frozen 0
      have HB0 := Lib.hid ((((Below.refl w.heap.size w).alloc (Nat.le_refl _) (.cells #[.int .i64 0, .int .i64 0, .int .i64 0, .int .u64 0] 160)).trans (HB.out.mono (by simp))).setCell (p := ⟨w.heap.size, 0, none⟩) (Nat.le_refl _) (.int .i64 (-1)))
      by_cases hsm : n ≤ 15360
      · have hd : decide (n ≤ 15360) = true := by simp [hsm]
        go_wp2_with fail
        obtain ⟨w0, hw0⟩ : ∃ W, w1.setCell ⟨w.heap.size, 0, none⟩ (.int .i64 (-1)) = W := ⟨_, rfl⟩
        rw [hw0] at HR0 HB0 ⊢
        clear hw0 c0 f0
        have hu := units_any n 1024 w0 h0 h1 (by omega) (by omega) (by omega)
        rw [show n + 1024 - 1 = n + 1023 from by omega] at hu
        have HU := Lib.hid hu
        have hres : planF n a = ((-1 : Int), ((n + 1023) / 1024), 0, ((n + 1023) / 1024) * 1024) := by
          unfold planF
          rw [HN.out]
          simp only [if_pos hsm]
        have HRES := Lib.hid hres
        have hq0 : 0 ≤ (n + 1023) / 1024 := by omega
        have hq1 : (n + 1023) / 1024 ≤ 1048576 := by omega
        obtain ⟨q, hq⟩ : ∃ q, (n + 1023) / 1024 = q := ⟨_, rfl⟩
        rw [hq] at HU HRES hq0 hq1
        have c0 := HR0.out.cell 0 (by simp)
        have c1 := HR0.out.cell 1 (by simp)
        have c2 := HR0.out.cell 2 (by simp)
        have c3 := HR0.out.cell 3 (by simp)
        have f0 := HR0.out.frozen 0
        have f1 := HR0.out.frozen 1
        have f2 := HR0.out.frozen 2
        have f3 := HR0.out.frozen 3
        simp only [List.set_cons_zero, List.getElem_cons_zero, List.getElem_cons_succ] at c0 c1 c2 c3
        clear hu hres hq
        go_wp2_with fail
        refine HU.out.mono ?_
        rintro e w3 ⟨rfl, rfl⟩
        go_wp2
        have HW := ((((((HR0.out.set 1 (.int .i64 q)).set 3 (.int .u64 (q * 1024))).set 0 (.int .i64 (-1))).set 1 (.int .i64 q)).set 2 (.int .i64 0)).set 3 (.int .u64 (q * 1024)))
        have HBW := ((((((HB0.out.setCell (p := ⟨w.heap.size, 1, none⟩) (Nat.le_refl _) (.int .i64 q)).setCell (p := ⟨w.heap.size, 3, none⟩) (Nat.le_refl _) (.int .u64 (q * 1024))).setCell (p := ⟨w.heap.size, 0, none⟩) (Nat.le_refl _) (.int .i64 (-1))).setCell (p := ⟨w.heap.size, 1, none⟩) (Nat.le_refl _) (.int .i64 q)).setCell (p := ⟨w.heap.size, 2, none⟩) (Nat.le_refl _) (.int .i64 0)).setCell (p := ⟨w.heap.size, 3, none⟩) (Nat.le_refl _) (.int .u64 (q * 1024)))
        obtain ⟨W, hW⟩ : ∃ W, ((((((w0.setCell ⟨w.heap.size, 1, none⟩ (.int .i64 q)).setCell ⟨w.heap.size, 3, none⟩ (.int .u64 (q * 1024))).setCell ⟨w.heap.size, 0, none⟩ (.int .i64 (-1))).setCell ⟨w.heap.size, 1, none⟩ (.int .i64 q)).setCell ⟨w.heap.size, 2, none⟩ (.int .i64 0)).setCell ⟨w.heap.size, 3, none⟩ (.int .u64 (q * 1024))) = W := ⟨_, rfl⟩
        rw [hW] at HW HBW ⊢
        have d0 := HW.cell 0 (by simp)
        have d1 := HW.cell 1 (by simp)
        have d2 := HW.cell 2 (by simp)
        have d3 := HW.cell 3 (by simp)
        simp only [List.set_cons_zero, List.set_cons_succ, List.getElem_cons_zero, List.getElem_cons_succ] at d0 d1 d2 d3
        refine bodyPost_ret (v := .tuple #[planV ((-1 : Int), q, 0, q * 1024), .int .i64 0]) (by simp [results, Try.results112, go_sem, d0, d1, d2, d3, planV]) rfl ⟨by rw [HRES.out], HBW⟩

      · have hd : decide (n ≤ 15360) = false := by simp; omega
        go_wp2_with fail
        obtain ⟨w0, hw0⟩ : ∃ W, w1.setCell ⟨w.heap.size, 0, none⟩ (.int .i64 (-1)) = W := ⟨_, rfl⟩
        rw [hw0] at HR0 HB0 ⊢
        clear hw0 c0 f0
        have hu := units_any n 16384 w0 h0 h1 (by omega) (by omega) (by omega)
        rw [show n + 16384 - 1 = n + 16383 from by omega] at hu
        have HU := Lib.hid hu
        have hres : planF n a = ((-1 : Int), 0, ((n + 16383) / 16384), ((n + 16383) / 16384) * 16384) := by
          unfold planF
          rw [HN.out]
          simp only [if_neg (show ¬ n ≤ 15360 from by omega)]
        have HRES := Lib.hid hres
        have hq0 : 0 ≤ (n + 16383) / 16384 := by omega
        have hq1 : (n + 16383) / 16384 ≤ 1048576 := by omega
        obtain ⟨q, hq⟩ : ∃ q, (n + 16383) / 16384 = q := ⟨_, rfl⟩
        rw [hq] at HU HRES hq0 hq1
        have c0 := HR0.out.cell 0 (by simp)
        have c1 := HR0.out.cell 1 (by simp)
        have c2 := HR0.out.cell 2 (by simp)
        have c3 := HR0.out.cell 3 (by simp)
        have f0 := HR0.out.frozen 0
        have f1 := HR0.out.frozen 1
        have f2 := HR0.out.frozen 2
        have f3 := HR0.out.frozen 3
        simp only [List.set_cons_zero, List.getElem_cons_zero, List.getElem_cons_succ] at c0 c1 c2 c3
        clear hu hres hq
        go_wp2_with fail
        refine HU.out.mono ?_
        rintro e w3 ⟨rfl, rfl⟩
        go_wp2
        have HW := ((((((HR0.out.set 2 (.int .i64 q)).set 3 (.int .u64 (q * 16384))).set 0 (.int .i64 (-1))).set 1 (.int .i64 0)).set 2 (.int .i64 q)).set 3 (.int .u64 (q * 16384)))
        have HBW := ((((((HB0.out.setCell (p := ⟨w.heap.size, 2, none⟩) (Nat.le_refl _) (.int .i64 q)).setCell (p := ⟨w.heap.size, 3, none⟩) (Nat.le_refl _) (.int .u64 (q * 16384))).setCell (p := ⟨w.heap.size, 0, none⟩) (Nat.le_refl _) (.int .i64 (-1))).setCell (p := ⟨w.heap.size, 1, none⟩) (Nat.le_refl _) (.int .i64 0)).setCell (p := ⟨w.heap.size, 2, none⟩) (Nat.le_refl _) (.int .i64 q)).setCell (p := ⟨w.heap.size, 3, none⟩) (Nat.le_refl _) (.int .u64 (q * 16384)))
        obtain ⟨W, hW⟩ : ∃ W, ((((((w0.setCell ⟨w.heap.size, 2, none⟩ (.int .i64 q)).setCell ⟨w.heap.size, 3, none⟩ (.int .u64 (q * 16384))).setCell ⟨w.heap.size, 0, none⟩ (.int .i64 (-1))).setCell ⟨w.heap.size, 1, none⟩ (.int .i64 0)).setCell ⟨w.heap.size, 2, none⟩ (.int .i64 q)).setCell ⟨w.heap.size, 3, none⟩ (.int .u64 (q * 16384))) = W := ⟨_, rfl⟩
        rw [hW] at HW HBW ⊢
        have d0 := HW.cell 0 (by simp)
        have d1 := HW.cell 1 (by simp)
        have d2 := HW.cell 2 (by simp)
        have d3 := HW.cell 3 (by simp)
        simp only [List.set_cons_zero, List.set_cons_succ, List.getElem_cons_zero, List.getElem_cons_succ] at d0 d1 d2 d3
        refine bodyPost_ret (v := .tuple #[planV ((-1 : Int), 0, q, q * 16384), .int .i64 0]) (by simp [results, Try.results112, go_sem, d0, d1, d2, d3, planV]) rfl ⟨by rw [HRES.out], HBW⟩

end Go.Proofs.Ythginpedlfocpaa
