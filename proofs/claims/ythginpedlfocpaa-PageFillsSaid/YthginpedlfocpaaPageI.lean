/- PageFills: the walk. -/
import Derived.Test.YthginpedlfocpaaPageG
namespace Go.Proofs.Ythginpedlfocpaa
open Go.RowKit Go.Alo Go.Shelf
attribute [local go_sem] max_ints min_ints
attribute [local go_sem ↓] Go.wp_at_zero Go.wp_at_succ

theorem pgn_used {W : World} {pb m g k : Nat} {f s n : Int} (p : PgN W pb m g f s n k) : Calls Try.prog 68 #[.pointer (some ⟨pb, 0, none⟩)] W fun e w' => e = .returned (.int .i64 k) ∧ W = w' := by
  obtain ⟨d, p⟩ := p
  exact pg_used p

/-- A lookup in a map of bools, at an operation that is guarded and wanted. -/
theorem wpList_lookup_want {P : Program} {w : World} {ops : Array Oper} {rest : List Oper} {o : Oper} {a : Act} {Q : Exit → Act → World → Prop} (hw : Region.wanted o (yielded ops a.tmps) = true) (m x : Operand) (t : TypeId) (hop : o.op = Op.lookup t m x false)
    (k e : TypeId) (q : IntKind) (hk : P.underlying k = some (.int q)) (ht : P.underlying t = some (.map k e)) (he : P.underlying e = some .bool) (hz : (zeroValue e).run P w = .ok (.bool false) w) (b n : Nat) (f : Int → Bool)
    (hm : a.eval m = .map (some b)) (hown : Go.Alo.Met P k e q w b n f) (y : Int) (hx : a.eval x = .int q y) (hwf : (Lit.int q y).wf = true)
    (hK : wpList P ops Q rest (a.put o.dst (.bool (f y))) w) : wpList P ops Q (o :: rest) a w := by
  refine BigFrame.wpList_want hw fun K' hK' => ?_
  have hrun := hown.lookup hk ht he hz hwf
  unfold Oper.wp
  simp [execOp, hop, hm, hx, hrun, Result.andThen]
  exact hK' _ _ hK

set_option maxRecDepth 100000 in
set_option maxHeartbeats 4000000 in
theorem fills_walk (size n cut : Int) (w : World) (s0 : 0 ≤ size) (s1 : size < 256) (n0 : 0 ≤ n) (n1 : n < 256) (c0 : 0 ≤ cut) (c1 : cut < 256) :
    Calls Try.prog 12 #[.int .u8 size, .int .u8 n, .int .u8 cut] w fun e w' => e = .returned (.bool true) ∧ Fr nil2 w w' := by
  go_enter Try.func12, Try.ntmps12
  go_wp2_with fail
  refine (alive09 w).mono ?_
  rintro e w1 ⟨rfl, hf1⟩
  have HF1 := Lib.hid hf1
  clear hf1
  go_wp2_with fail
  refine (pmade_any size n w1 s0 s1 n0 n1).mono ?_
  rintro e w2 ⟨pb, m, g, rfl, hp2, hz2, hf2⟩
  have hzz : (16 : Int) ≤ 16 * (size % 16 + 1) ∧ 16 * (size % 16 + 1) ≤ 256 := by omega
  have hcc : (1 : Int) ≤ n % 60 + 1 ∧ n % 60 + 1 ≤ 60 := by omega
  obtain ⟨z, hz⟩ : ∃ z, 16 * (size % 16 + 1) = z := ⟨_, rfl⟩
  obtain ⟨c, hc⟩ : ∃ c, n % 60 + 1 = c := ⟨_, rfl⟩
  rw [hz] at hzz hp2 ⊢
  rw [hc] at hcc hp2 ⊢
  clear hz hc
  obtain ⟨N, rfl⟩ : ∃ N : Nat, c = N := ⟨c.toNat, by omega⟩
  have HP2 := Lib.hid hp2
  have HF2 := Lib.hid (HF1.out.trans' hf2)
  have HZ2 : Hid (w.heap.size ≤ pb ∧ w.heap.size ≤ m ∧ w.heap.size ≤ g) := Lib.hid (by have := HF1.out.size; omega)
  have HRUN : Hid (RunOK 1024 z N) := Lib.hid (by obtain ⟨d, p⟩ := hp2; exact p.nums.1)
  clear hp2 hf2 hz2 HF1
  go_wp2
  have hsz : (w2.alloc (.cells #[.int .u64 1024, .int .u64 z, .int .i64 N] 92)).heap.size = w2.heap.size + 1 := World.size_alloc _ _
  have HB0 : Hid (w.heap.size ≤ w2.heap.size ∧ pb < w2.heap.size ∧ m < w2.heap.size ∧ g < w2.heap.size) := Lib.hid ⟨HF2.out.size, HP2.out.lts⟩
  have HF3 := Lib.hid (HF2.out.alloc (.cells #[.int .u64 1024, .int .u64 z, .int .i64 N] 92))
  have HP3 := Lib.hid (HP2.out.quiet ((Fr.refl nil2 w2).alloc (.cells #[.int .u64 1024, .int .u64 z, .int .i64 N] 92)))
  have HR3 := Lib.hid (Row.new w2 92 [.int .u64 1024, .int .u64 z, .int .i64 N])
  simp only [List.toArray] at HR3
  obtain ⟨W3, hW3⟩ : ∃ W, w2.alloc (.cells #[.int .u64 1024, .int .u64 z, .int .i64 N] 92) = W := ⟨_, rfl⟩
  obtain ⟨B0, hB0⟩ : ∃ k, w2.heap.size = k := ⟨_, rfl⟩
  rw [hW3] at HF3 HP3 HR3 hsz ⊢
  rw [hB0] at HB0 HR3 hsz ⊢
  have HSZ := Lib.hid hsz
  clear hW3 hB0 hsz HF2 HP2
  obtain ⟨i0, hi, hz0, hz1, hz2⟩ := info_u64'
  go_loopw [11, 39] (fun v i wr => ∃ k : Nat, k ≤ N ∧ i = .int .i64 k ∧ Hid (PgN wr pb m g 1024 z N k) ∧ Hid (Fr nil2 w wr) ∧ Hid (Row wr B0 92 [.int .u64 1024, .int .u64 z, .int .i64 N]) ∧ Hid (B0 + 1 ≤ wr.heap.size) ∧ Hid (wr.ownsRow (B0 + 1) 22 1 v k (ints .u64 (runL 1024 z 0 k)))) (fun _ i _ => N - (intOf i).toNat)
  case atStart => exact ⟨0, Nat.zero_le _, rfl, HP3, HF3, HR3, Lib.hid (by rw [HSZ.out]; omega), World.ownsRow_nil _ _ _ _⟩
  case round =>
    obtain ⟨k, hk, rfl, HPr, HFr, HRr, HSr, HOr⟩ := hrel
    by_cases hlt : k < N
    · have hw1 : IntKind.i64.wrap ((k : Int) + 1) = (k : Int) + 1 := IntWalk.i64_in _ ⟨by omega, by omega⟩
      go_wp2_with fail
      refine (pgn_next HPr.out (by omega)).mono ?_
      rintro e w4 ⟨rfl, hp4, hf4⟩
      have HP4 := Lib.hid hp4
      have HF4 := Lib.hid (HFr.out.step hf4 (fun i o hi h => by have := HZ2.out; unfold PF at h; omega))
      have HS4 := Lib.hid (Nat.le_trans HSr.out hf4.size)
      have HO4 := Lib.hid (own_fr HOr.out hf4 (fun q o hq h => by have := HB0.out; unfold PF at h; omega))
      have HR4 := Lib.hid (HRr.out.fr hf4 (fun o h => by have := HB0.out; unfold PF at h; omega))
      have x0 := HR4.out.cell 0 (by simp)
      have x1 := HR4.out.cell 1 (by simp)
      have x2 := HR4.out.cell 2 (by simp)
      simp only [List.getElem_cons_zero, List.getElem_cons_succ] at x0 x1 x2
      have HIX := Lib.hid (index_any 1024 z N k HRUN.out (by omega) (by omega))
      obtain ⟨a, ha⟩ : ∃ a, 1024 + (k : Int) * z = a := ⟨_, rfl⟩
      have HA := Lib.hid ha
      rw [ha] at HIX ⊢
      clear hp4 hf4 ha
      go_wp2_with fail
      refine (HIX.out _).mono ?_
      rintro e w5 ⟨rfl, hf5⟩
      have HP5 := Lib.hid (HP4.out.quiet hf5)
      have HF5 := Lib.hid (HF4.out.trans' hf5)
      have HS5 := Lib.hid (Nat.le_trans HS4.out hf5.size)
      have HO5 := Lib.hid (own_fr HO4.out hf5 (fun _ _ _ h => h))
      have HR5 := Lib.hid (HR4.out.fr hf5 (fun _ h => h))
      clear hf5 x0 x1 x2
      go_wp2_with fail
      refine (pgn_used HP5.out).mono ?_
      rintro e w6 ⟨rfl, rfl⟩
      have lb1 : k + 1 ≤ maxLen := by rw [show maxLen = 9223372036854775807 from rfl]; omega
      have lb2 : (k + 1) * 8 ≤ 140737488355328 := by omega
      go_wp2_with (at_builtin; refine wpList_append_own _ rfl _ _ 33 rfl (B0 + 1) 22 i0 (.int .u64 0) 1 8 Try.underlying33 hi hz0 hz1 hz2 rfl (by decide) u11 k (ints .u64 (runL 1024 z 0 k)) rfl (own_fr (S := nil2) HO5.out ((Fr.refl _ _).alloc _) (fun _ _ _ h => h)) ⟨w5.heap.size, 0, none⟩ 1 1 [.int .u64 a] rfl rfl (cell_one_new _ _ _) (by simp [Value.oneCell']) lb1 lb2 (by rw [World.size_alloc]; have := HS5.out; omega) ?_; intro v' w7 hown' hgrow _; have HG7 := Lib.hid hgrow; have HO7 := Lib.hid hown'; clear hgrow hown')
      go_roundw
      case rel =>
        have hro : ∀ q, u11.ownBlock = some q → B0 + 1 ≤ q := fun q hq => (own_cells HOr.out q hq).1
        have hal := ((Fr.refl nil2 w5).alloc (.cells #[.int .u64 a] 22))
        refine ⟨k + 1, by omega, by go_num, (HP5.out.quiet hal).same (fun q hq => HG7.out.block q ?_ (fun e => ?_)), Lib.hid ((HF5.out.trans' hal).grown HG7.out (fun q hq => ?_)), Lib.hid ((HG7.out.block B0 ?_ (fun e => ?_)).trans (HR5.out.fr hal (fun _ h => h))), Lib.hid ?_, ?_⟩
        · have := HB0.out; have := HS5.out; have := hal.size; omega
        · have := hro q e.symm; have := HB0.out; omega
        · have := hro q hq; have := HB0.out; omega
        · have := HS5.out; have := hal.size; omega
        · have := hro B0 e.symm; omega
        · have := HG7.out.size; have := HS5.out; have := hal.size; omega
        · rw [runL_snoc, show ints IntKind.u64 (runL 1024 z 0 k ++ [1024 + (0 + (k : Int)) * z]) = ints .u64 (runL 1024 z 0 k) ++ [.int .u64 a] from by rw [← HA.out]; simp [ints]]
          exact HO7
      case measure => simp [intOf]; omega
    · obtain rfl : k = N := by omega
      have HPA := Lib.hid (HPr.out.all rfl)
      obtain ⟨A11, c11, rfl, us11⟩ := us_of_own (fo := none) HOr.out (fun _ _ e => by cases e)
      have HU := Lib.hid us11
      have HXS : Hid ((∀ a ∈ runL 1024 z 0 k, ∃ i : Int, 0 ≤ i ∧ i < (k : Int) ∧ a = 1024 + i * z) ∧ (runL 1024 z 0 k).Nodup) := Lib.hid ⟨fun a ha => by obtain ⟨j, j0, j1, j2⟩ := runL_mem k ha; exact ⟨j, j0, by omega, j2⟩, runL_nodup hzz.1 k 0⟩
      have hkl : (runL 1024 z 0 k).length = k := runL_len _ _ _ _
      obtain ⟨L, hL⟩ : ∃ xs, runL 1024 z 0 k = xs := ⟨_, rfl⟩
      rw [hL] at HU HXS hkl
      obtain ⟨b1, hA1, hb1⟩ : ∃ b1, A11 = some ⟨b1, 0, none⟩ ∧ B0 + 1 ≤ b1 := by
        cases hA : A11 with
        | none => have h1 := HU.out.nn hA; have h2 := HU.out.le; omega
        | some ad => obtain ⟨b1, rfl, h1, -⟩ := HU.out.ad ad hA; exact ⟨b1, rfl, h1⟩
      subst hA1
      clear us11 hL HOr hlt hk HPr HP3 HF3 HR3
      go_wp2_with fail
      refine (pg_full HPA.out).mono ?_
      rintro e w4 ⟨rfl, hp4, hf4⟩
      have HP4 := Lib.hid hp4
      have HF4 := Lib.hid (HFr.out.step hf4 (fun i o hi h => by have := HZ2.out; unfold PF at h; omega))
      have HS4 := Lib.hid (Nat.le_trans HSr.out hf4.size)
      have HU4 := Lib.hid (HU.out.fr hf4 (fun q o hq h => by have := HB0.out; unfold PF at h; omega))
      have HR4 := Lib.hid (HRr.out.fr hf4 (fun o h => by have := HB0.out; unfold PF at h; omega))
      have x2 := HR4.out.cell 2 (by simp)
      simp only [List.getElem_cons_zero, List.getElem_cons_succ] at x2
      clear hp4 hf4
      go_wp2
      go_region_held3 (fun w' => w'.cell? ⟨B0, 2, none⟩ = some (.int .i64 k)) (go_keep) ((go_at_call 69; refine (pg_made (HP4.out.same (by intro _ _; rfl))).mono ?_; rintro e w5 ⟨rfl, rfl⟩))
      have hdr := (Fr.refl nil2 w4).drew
      have HP5 := Lib.hid (HP4.out.quiet hdr)
      have HF5 := Lib.hid (HF4.out.trans' hdr)
      have HS5 : Hid (B0 + 1 ≤ w4.drew.heap.size) := HS4
      have HU5 := Lib.hid (HU4.out.fr hdr (fun _ _ _ h => h))
      have HR5 := Lib.hid (HR4.out.fr hdr (fun _ h => h))
      obtain ⟨w5, hw5⟩ : ∃ W, w4.drew = W := ⟨_, rfl⟩
      rw [hw5] at HP5 HF5 HS5 HU5 HR5 ⊢
      clear hw5 hdr x2 HP4 HF4 HS4 HU4 HR4
      have x2 := HR5.out.cell 2 (by simp)
      simp only [List.getElem_cons_zero, List.getElem_cons_succ] at x2
      obtain ⟨j, hj⟩ : ∃ j : Nat, cut % (k : Int) = j := ⟨(cut % (k : Int)).toNat, (Int.toNat_of_nonneg (Int.emod_nonneg cut (by omega : (k : Int) ≠ 0))).symm⟩
      have hjl : j < k := by have := Int.emod_lt_of_pos cut (by omega : (0 : Int) < k); rw [hj] at this; omega
      have hw1 : IntKind.i64.wrap cut = cut := IntWalk.i64_in _ ⟨by omega, by omega⟩
      have hw2 : cut.tmod (k : Int) = j := by rw [Int.tmod_eq_emod_of_nonneg c0]; exact hj
      have hw3 : IntKind.i64.wrap (j : Int) = j := IntWalk.i64_in _ ⟨by omega, by omega⟩
      have hl0 : ((k : Int) == 0) = false := by rw [beq_eq_false_iff_ne]; omega
      go_wp2
      clear hw1 hw2 hl0 hj x2
      have HTL : Hid ((ints .u64 (L.take j)).length = j) := Lib.hid (by simp [ints]; omega)
      have HDL : Hid ((ints .u64 (L.drop j)).length = k - j) := Lib.hid (by simp [ints]; omega)
      have HRD := Lib.hid ((HU5.out.behind j).fr ((Fr.refl nil2 w5).alloc (.cells #[] 22)) (fun _ _ _ _ _ _ h => h))
      have HRT := Lib.hid (HU5.out.ahead j)
      have HS5A : Hid (w5.heap.size ≤ (w5.alloc (.cells #[] 22)).heap.size) := Lib.hid (by rw [World.size_alloc]; omega)
      have mb1 : 0 + (k - j) ≤ maxLen := by rw [show maxLen = 9223372036854775807 from rfl]; omega
      have mb2 : (0 + (k - j)) * 8 ≤ 140737488355328 := by omega
      have mb3 : 0 + (k - j) + j ≤ maxLen := by rw [show maxLen = 9223372036854775807 from rfl]; omega
      have mb4 : (0 + (k - j) + j) * 8 ≤ 140737488355328 := by omega
      have hcm := HU5.out.le
      have hc63 := HU5.out.cm
      rw [show maxLen = 9223372036854775807 from rfl] at hc63
      have hj0 : (0 : Int) ≤ (j : Int) := by omega
      have hj1 : (j : Int) ≤ (k : Int) := by omega
      have hj2 : (j : Int) ≤ (c11 : Int) := by omega
      have hj6 : (k : Int) ≤ (c11 : Int) := by omega
      have hcap : (c11 = j) = False := by simp; omega
      have HC1 : Hid (k - j ≤ c11 - j) := Lib.hid (by omega)
      have HC2 : Hid (j ≤ c11) := Lib.hid (by omega)
      have hrot : (L.drop j ++ L.take j).length = 0 + (k - j) + j := by simp; omega
      have hprm : (L.drop j ++ L.take j).Perm L := (List.perm_append_comm).trans (by rw [List.take_append_drop])
      have hmf : MayFree 1024 z k k ([] ++ []) (L.drop j ++ L.take j) := ⟨fun a ha => HXS.out.1 a (hprm.mem_iff.1 ha), by rw [List.append_nil, List.append_nil]; exact hprm.nodup_iff.2 HXS.out.2, by rw [hrot]; omega⟩
      obtain ⟨R, hR⟩ : ∃ R, L.drop j ++ L.take j = R := ⟨_, rfl⟩
      have HRR := Lib.hid hR
      have HPM : Hid (R.Perm L) := Lib.hid (hR ▸ hprm)
      have HRL : Hid (R.length = 0 + (k - j) + j) := Lib.hid (hR ▸ hrot)
      have HGV : Hid (∀ (W : World) (A : Option Addr) (cap : Nat), Pg W pb m g 1024 z k k k [] [] → Reads W A (ints .u64 R) → (∀ b off, A = some ⟨b, off, none⟩ → b ≠ g ∧ b ≠ pb) → Calls Try.prog 66 #[.pointer (some ⟨pb, 0, none⟩), .slice A (k - j + j) cap] W fun e w' => e = .returned (.int .i64 0) ∧ Pg w' pb m g 1024 z k k 0 [] R.reverse ∧ Fr (PF g pb) W w') := Lib.hid (fun W A cap hp hr hA => by
        have h := pg_give (cap := cap) (xs := R) hp hr hA (hR ▸ hmf)
        rw [HRL.out, List.append_nil, show 0 + (k - j) + j = k - j + j from by omega, show (k : Int) - ((k - j + j : Nat) : Int) = 0 from by omega] at h
        exact h)
      clear hrot hprm hmf hR
      go_region_held3 (fun _ => True) (trivial) ((first | (refine step_append_any _ (by rfl) (.tmp 96) (.tmp 99) 33 (by rfl) w5.heap.size 22 i0 (.int .u64 0) 8 Try.underlying33 hi hz0 hz1 hz2 rfl (.slice (some ⟨w5.heap.size, 0, none⟩) 0 0) 0 [] (by rfl) (own_empty w5 22) (some ⟨b1, j, none⟩) (k - j) (c11 - j) (ints .u64 (L.drop j)) (by rfl) (fun h => by cases h) HDL.out HRD.out (ints_one _ _) HC1.out mb1 mb2 HS5A.out ?_; intro v6 w6 ho6 hg6; have HO6 := Lib.hid ho6; have HF6 := Lib.hid ((((Fr.refl nil2 w5).alloc (.cells #[] 22)).drew).grown hg6 (by intro q hq; injection hq with hq; exact Nat.le_of_eq hq)); have HS6 := Lib.hid HF6.out.size; clear ho6 hg6) | (refine step_append_any _ (by rfl) (.tmp 100) (.tmp 103) 33 (by rfl) w5.heap.size 22 i0 (.int .u64 0) 8 Try.underlying33 hi hz0 hz1 hz2 rfl v6 (0 + (k - j)) ([] ++ ints .u64 (L.drop j)) (by rfl) HO6.out (some ⟨b1, 0, none⟩) j c11 (ints .u64 (L.take j)) (by rfl) (fun h => by cases h) HTL.out (HRT.out.fr HF6.out (fun _ _ _ _ _ _ h => h)) (ints_one _ _) HC2.out mb3 mb4 HS6.out ?_; intro v7 w7 ho7 hg7; have HO7 := Lib.hid ho7; have HF7 := Lib.hid (HF6.out.grown hg7 (by intro q hq; exact (own_cells HO6.out q hq).1)); clear ho7 hg7; have hown7 : w7.ownsRow w5.heap.size 22 1 v7 (0 + (k - j) + j) (ints .u64 R) := (by rw [← HRR.out, show ints .u64 (L.drop j ++ L.take j) = [] ++ ints .u64 (L.drop j) ++ ints .u64 (L.take j) from by simp [ints]]; exact HO7.out); obtain ⟨A7, c7, rfl, hu7⟩ := us_of_own (fo := none) hown7 (fun _ _ e => by cases e); clear hown7; have HU7 := Lib.hid hu7; have HP7 := Lib.hid (HP5.out.quiet HF7.out); clear hu7) | (go_at_call 66; refine (HGV.out _ _ _ (HP7.out.same (by intro _ _; rfl)) HU7.out.rd (by intro b off e; obtain ⟨b', e', h1, h2, h3⟩ := HU7.out.ad _ e; injection e' with e1 e2; have := HS5.out; have := HB0.out; omega)).mono ?_; rintro e w8 ⟨rfl, hp8, hf8⟩; have HP8 := Lib.hid hp8; have HF8 := Lib.hid hf8; clear hp8 hf8) | (go_at_call 68; refine (pg_used (HP8.out.same (by intro _ _; rfl))).mono ?_; rintro e w9 ⟨rfl, rfl⟩)))
      have HF8' := Lib.hid ((HF5.out.trans' HF7.out).step HF8.out (fun i o hi h => by have := HZ2.out; unfold PF at h; omega))
      have hw7 : w5.heap.size ≤ w8.heap.size := Nat.le_trans HF7.out.size HF8.out.size
      have HU8 := Lib.hid ((HU5.out.fr HF7.out (fun _ _ _ h => h)).fr HF8.out (fun q o hq h => by have := HB0.out; unfold PF at h; omega))
      have HR8 := Lib.hid ((HR5.out.fr HF7.out (fun _ h => h)).fr HF8.out (fun o h => by have := HB0.out; unfold PF at h; omega))
      have y2 := (HR8.out.fr ((Fr.refl nil2 w8).alloc (.map #[] 0)) (fun _ h => h)).cell 2 (by simp)
      simp only [List.getElem_cons_zero, List.getElem_cons_succ] at y2
      have HRB : Hid (R.reverse.length = k ∧ R.reverse.Nodup ∧ ∀ x ∈ R.reverse, x ∈ L ∧ ∃ i : Int, 0 ≤ i ∧ i < (k : Int) ∧ x = 1024 + i * z) := Lib.hid (by
        refine ⟨by rw [List.length_reverse, HRL.out]; omega, List.pairwise_reverse.2 ((HPM.out.nodup_iff.2 HXS.out.2).imp Ne.symm), fun x hx => ?_⟩
        have h1 := HPM.out.mem_iff.1 (List.mem_reverse.1 hx)
        exact ⟨h1, HXS.out.1 x h1⟩)
      obtain ⟨V, hV⟩ : ∃ V, R.reverse = V := ⟨_, rfl⟩
      rw [hV] at HRB HP8
      have HSB : Hid (B0 + 1 ≤ w8.heap.size) := Lib.hid (Nat.le_trans HS5.out hw7)
      clear hV hw7 mb1 mb2 mb3 mb4 hj0 hj1 hj2 hj6 hcap hw3 HO6 HO7 HF6 HS6 HP7 HGV
      have hmm := @run_makeMap Try.prog
      go_wp2
      clear hmm y2
      go_loopw [115] (fun i wr => ∃ (r : Nat) (f : Int → Bool), r ≤ k ∧ i = .int .i64 r ∧ Hid (PgR wr pb m g 1024 z k (V.drop r)) ∧ Hid (Go.Alo.Met Try.prog 22 4 .u64 wr w8.heap.size r f) ∧ Hid (∀ x, f x = true → x ∈ V.take r) ∧ Hid (Us wr (B0 + 1) (some ⟨b1, 0, none⟩) c11 L (some w8.heap.size)) ∧ Hid (Fr nil2 w wr)) (fun i _ => k - (intOf i).toNat)
      case atStart => exact ⟨0, fun _ => false, Nat.zero_le _, rfl, Lib.hid (.inr ⟨_, HP8.out.quiet ((Fr.refl nil2 w8).alloc _)⟩), Lib.hid (Go.Alo.Met.made _ _ _ _ _), Lib.hid (fun _ h => by cases h), Lib.hid (HU8.out.same (fun b _ hb _ => ((Fr.refl nil2 w8).alloc (.map #[] 0)).block hb (fun _ h => h)) ((Fr.refl nil2 w8).alloc (.map #[] 0)).size (fun b hb e => by injection e with e; omega)), Lib.hid (HF8'.out.alloc _)⟩
      case round =>
        obtain ⟨r, f, hr, rfl, HPr, HM, HMI, HUr, HFr⟩ := hrel
        by_cases hlt : r < k
        · have hvl : r < V.length := by rw [HRB.out.1]; exact hlt
          have hdr : V.drop r = V[r] :: V.drop (r + 1) := List.drop_eq_getElem_cons hvl
          have hmem := HRB.out.2.2 V[r] (List.getElem_mem hvl)
          have hfa : f V[r] = false := by
            cases hf : f V[r] with
            | false => rfl
            | true =>
              have h1 := HMI.out _ hf
              have h2 := HRB.out.2.1
              rw [← List.take_append_drop r V, hdr] at h2
              exact absurd rfl ((List.nodup_append.1 h2).2.2 _ h1 _ (List.mem_cons_self ..))
          obtain ⟨a, ha⟩ : ∃ a, V[r] = a := ⟨_, rfl⟩
          rw [ha] at hdr hmem hfa
          have HA := Lib.hid ha
          have HFA := Lib.hid hfa
          have HIN := Lib.hid hmem.1
          have hab : 0 ≤ a ∧ a < 18446744073709551616 := by
            obtain ⟨i, i0, i1, rfl⟩ := hmem.2
            have h1 : i * z ≤ 60 * 256 := Int.mul_le_mul (by omega) hzz.2 (by omega) (by omega)
            have h2 : 0 ≤ i * z := Int.mul_nonneg i0 (by omega)
            omega
          have hwf : (Lit.int .u64 a).wf = true := WalkArith.wf_u64 (by omega)
          have HWF := Lib.hid hwf
          have hmx : r < maxLen := by rw [show maxLen = 9223372036854775807 from rfl]; omega
          have HPa : Hid (PgR wr pb m g 1024 z k (a :: V.drop (r + 1))) := Lib.hid (hdr ▸ HPr.out)
          clear hdr hmem hfa ha hab
          go_wp2_with fail
          refine (pgr_next HPa.out).mono ?_
          rintro e w9 ⟨rfl, hp9, hf9⟩
          have HP9 := Lib.hid hp9
          have HM9 := Lib.hid (HM.out.fr hf9)
          have HF9 := Lib.hid (HFr.out.step hf9 (fun i o hi h => by have := HZ2.out; unfold PF at h; omega))
          have HU9 := Lib.hid (HUr.out.fr hf9 (fun q o hq h => by have := HB0.out; unfold PF at h; omega))
          clear hp9 hf9
          go_wp2_with (refine wpList_lookup_want rfl _ _ 89 rfl 22 4 .u64 Try.underlying22 Try.underlying89 Try.underlying4 (zero_bool _) w8.heap.size r f rfl HM9.out a rfl HWF.out ?_; rw [HFA.out])
          have hlin := lin_any (some ⟨b1, 0, none⟩) L c11 a w9 HU9.out.rd (by omega) HIN.out
          rw [hkl] at hlin
          refine hlin.mono ?_
          rintro e w10 ⟨rfl, rfl⟩
          clear hlin
          go_wp2_with (at_mapUpdate; refine wpList_update_met rfl _ _ _ 89 rfl 22 4 .u64 Try.underlying22 Try.underlying89 Try.underlying4 w8.heap.size r f rfl HM9.out hmx _ rfl a rfl HWF.out true rfl ?_; intro w11 hm1 hg1; have HM11 := Lib.hid hm1; have HG11 := Lib.hid hg1; clear hm1 hg1)
          go_roundw
          case rel =>
            refine ⟨r + 1, (fun y => if y = a then true else f y), by omega, by go_num, Lib.hid ?_, HM11, Lib.hid (fun x hx => ?_), Lib.hid (HU9.out.same (fun b _ hb hne => HG11.out.block b hb (fun e => hne e.symm)) HG11.out.size (fun _ _ e => e)), Lib.hid (HF9.out.grown HG11.out (fun q hq => by injection hq with hq; have := HSB.out; have := HB0.out; omega))⟩
            · have hbl : ∀ q, q = pb ∨ q = m ∨ q = g → w11.heap[q]? = w9.heap[q]? := fun q hq => HG11.out.block q (by have := HP9.out.lts; omega) (fun e => by injection e with e; have := HSB.out; have := HB0.out; omega)
              rcases HP9.out with ⟨u, p⟩ | ⟨u, p⟩
              · exact .inl ⟨u, p.same hbl⟩
              · exact .inr ⟨u, p.same hbl⟩
            · rw [List.take_succ_eq_append_getElem hvl, HA.out]
              by_cases he : x = a
              · subst he; exact List.mem_append_right _ (List.mem_singleton_self _)
              · exact List.mem_append_left _ (HMI.out x (by simpa [he] using hx))
          case measure => simp [intOf]; omega
        · have hpe : Hid (PgR wr pb m g 1024 z k []) := Lib.hid (by have h := HPr.out; rwa [List.drop_of_length_le (by rw [HRB.out.1]; omega)] at h)
          go_wp2_with fail
          refine (pgr_full hpe.out).mono ?_
          rintro e w9 ⟨rfl, hf9⟩
          have HF9 := Lib.hid (HFr.out.step hf9 (fun i o hi h => by have := HZ2.out; unfold PF at h; omega))
          clear hf9
          go_wp2
          go_ret
          exact ⟨rfl, HF9.out⟩

end Go.Proofs.Ythginpedlfocpaa
