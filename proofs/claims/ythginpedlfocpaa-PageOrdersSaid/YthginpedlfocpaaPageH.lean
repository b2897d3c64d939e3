/- PageOrders: the walk. -/
import Derived.Test.YthginpedlfocpaaPageG
namespace Go.Proofs.Ythginpedlfocpaa
open Go.RowKit Go.Alo Go.Shelf
attribute [local go_sem] max_ints min_ints
attribute [local go_sem ↓] Go.wp_at_zero Go.wp_at_succ

set_option maxRecDepth 100000 in
set_option maxHeartbeats 4000000 in
theorem orders_walk (size n : Int) (A : Option Addr) (cap : Nat) (l : List Int) (w : World) (s0 : 0 ≤ size) (s1 : size < 256) (n0 : 0 ≤ n) (n1 : n < 256) (hx : Reads w A (ints .u8 l)) (hb : ∀ a ∈ l, 0 ≤ a ∧ a < 256) (ll : (l.length : Int) ≤ 9223372036854775807) :
    Calls Try.prog 11 #[.int .u8 size, .int .u8 n, .slice A l.length cap] w fun e w' => e = .returned (.bool true) ∧ Fr nil2 w w' := by
  have HX := Lib.hid hx
  have HB := Lib.hid hb
  clear hx hb
  go_enter Try.func11, Try.ntmps11
  go_wp2_with fail
  refine (alive09 w).mono ?_
  rintro e w1 ⟨rfl, hf1⟩
  have HF1 := Lib.hid hf1
  clear hf1
  go_wp2_with fail
  refine (pmade_any size n w1 s0 s1 n0 n1).mono ?_
  rintro e w2 ⟨pb, m, g, rfl, hp2, hz2, hf2⟩
  have hzz : (16 : Int) ≤ 16 * (size % 16 + 1) ∧ 16 * (size % 16 + 1) ≤ 256 := by omega
  have hcc : (1 : Int) ≤ n % 60 + 1 ∧ n % 60 + 1 ≤ 60 := by omega
  obtain ⟨z, hz⟩ : ∃ z, 16 * (size % 16 + 1) = z := ⟨_, rfl⟩
  obtain ⟨c, hc⟩ : ∃ c, n % 60 + 1 = c := ⟨_, rfl⟩
  rw [hz] at hzz hp2 ⊢
  rw [hc] at hcc hp2 ⊢
  clear hz hc
  obtain ⟨N, rfl⟩ : ∃ N : Nat, c = N := ⟨c.toNat, by omega⟩
  have HP2 := Lib.hid hp2
  have HF2 := Lib.hid (HF1.out.trans' hf2)
  have HZ2 : Hid (w.heap.size ≤ pb ∧ w.heap.size ≤ m ∧ w.heap.size ≤ g) := Lib.hid (by have := HF1.out.size; omega)
  clear hp2 hf2 hz2 HF1
  by_cases hbig : l.length ≤ 100
  rotate_left
  · have hbig' : (100 : Int) < l.length := by omega
    have HFE := Lib.hid (HF2.out.alloc (.cells #[.int .u64 1024, .int .u64 z, .int .i64 N] 92))
    go_wp2
    go_ret
    exact ⟨rfl, HFE.out⟩
  have hbig' : ((100 : Int) < l.length) = False := by simp; omega
  go_wp2
  have hsz : (w2.alloc (.cells #[.int .u64 1024, .int .u64 z, .int .i64 N] 92)).heap.size = w2.heap.size + 1 := World.size_alloc _ _
  have HB0 : Hid (w.heap.size ≤ w2.heap.size ∧ pb < w2.heap.size ∧ m < w2.heap.size ∧ g < w2.heap.size) := Lib.hid ⟨HF2.out.size, HP2.out.lts⟩
  have HF3 := Lib.hid (HF2.out.alloc (.cells #[.int .u64 1024, .int .u64 z, .int .i64 N] 92))
  have HP3 := Lib.hid (HP2.out.quiet ((Fr.refl nil2 w2).alloc (.cells #[.int .u64 1024, .int .u64 z, .int .i64 N] 92)))
  obtain ⟨W3, hW3⟩ : ∃ W, w2.alloc (.cells #[.int .u64 1024, .int .u64 z, .int .i64 N] 92) = W := ⟨_, rfl⟩
  obtain ⟨B0, hB0⟩ : ∃ k, w2.heap.size = k := ⟨_, rfl⟩
  rw [hW3] at HF3 HP3 hsz ⊢
  rw [hB0] at HB0 hsz ⊢
  have HSZ := Lib.hid hsz
  clear hW3 hB0 hsz HF2 HP2
  obtain ⟨i0, hi, hz0, hz1, hz2⟩ := info_u64'
  go_loopw [11, 43] (fun v i wr => ∃ k : Nat, k ≤ N ∧ i = .int .i64 k ∧ Hid (PgN wr pb m g 1024 z N k) ∧ Hid (Fr nil2 w wr) ∧ Hid (B0 + 1 ≤ wr.heap.size) ∧ Hid (wr.ownsRow (B0 + 1) 22 1 v k (ints .u64 (runL 1024 z 0 k)))) (fun _ i _ => N - (intOf i).toNat)
  case atStart => exact ⟨0, Nat.zero_le _, rfl, HP3, HF3, Lib.hid (by rw [HSZ.out]; omega), World.ownsRow_nil _ _ _ _⟩
  case round =>
    obtain ⟨k, hk, rfl, HPr, HFr, HSr, HOr⟩ := hrel
    by_cases hlt : k < N
    · go_wp2_with fail
      refine (pgn_next HPr.out (by omega)).mono ?_
      rintro e w4 ⟨rfl, hp4, hf4⟩
      have HP4 := Lib.hid hp4
      have HF4 := Lib.hid (HFr.out.step hf4 (fun i o hi h => by have := HZ2.out; unfold PF at h; omega))
      have HS4 := Lib.hid (Nat.le_trans HSr.out hf4.size)
      have HO4 := Lib.hid (own_fr HOr.out hf4 (fun q o hq h => by have := HB0.out; unfold PF at h; omega))
      have b1 : k + 1 ≤ maxLen := by rw [show maxLen = 9223372036854775807 from rfl]; omega
      have b2 : (k + 1) * 8 ≤ 140737488355328 := by omega
      clear hp4 hf4
      go_wp2_with (at_builtin; refine wpList_append_own _ rfl _ _ 33 rfl (B0 + 1) 22 i0 (.int .u64 0) 1 8 Try.underlying33 hi hz0 hz1 hz2 rfl (by decide) u11 k (ints .u64 (runL 1024 z 0 k)) rfl (own_fr (S := nil2) HO4.out ((Fr.refl _ _).alloc _) (fun _ _ _ h => h)) ⟨w4.heap.size, 0, none⟩ 1 1 [.int .u64 (1024 + (k : Int) * z)] rfl rfl (cell_one_new _ _ _) (by simp [Value.oneCell']) b1 b2 (by rw [World.size_alloc]; have := HS4.out; omega) ?_; intro v' w5 hown' hgrow _; have HG5 := Lib.hid hgrow; have HO5 := Lib.hid hown'; clear hgrow hown')
      go_roundw
      case rel =>
        have hro : ∀ q, u11.ownBlock = some q → B0 + 1 ≤ q := fun q hq => (own_cells HOr.out q hq).1
        have hal := ((Fr.refl nil2 w4).alloc (.cells #[.int .u64 (1024 + (k : Int) * z)] 22))
        refine ⟨k + 1, by omega, by go_num, (HP4.out.quiet hal).same (fun q hq => HG5.out.block q ?_ (fun e => ?_)), Lib.hid ((HF4.out.trans' hal).grown HG5.out (fun q hq => ?_)), Lib.hid ?_, ?_⟩
        · have := HB0.out; have := HS4.out; have := hal.size; omega
        · have := hro q e.symm; have := HB0.out; omega
        · have := hro q hq; have := HB0.out; omega
        · have := HG5.out.size; have := HS4.out; have := hal.size; omega
        · rw [runL_snoc, show ints IntKind.u64 (runL 1024 z 0 k ++ [1024 + (0 + (k : Int)) * z]) = ints .u64 (runL 1024 z 0 k) ++ [.int .u64 (1024 + (k : Int) * z)] from by simp [ints]]
          exact HO5
      case measure => simp [intOf]; omega
    · obtain rfl : k = N := by omega
      have HPA := Lib.hid (HPr.out.all rfl)
      obtain ⟨A11, c11, rfl, us11⟩ := us_of_own (fo := none) HOr.out (fun _ _ e => by cases e)
      have HU := Lib.hid us11
      have HXS : Hid ((∀ a ∈ runL 1024 z 0 k, ∃ i : Int, 0 ≤ i ∧ i < (k : Int) ∧ a = 1024 + i * z) ∧ (runL 1024 z 0 k).Nodup ∧ (runL 1024 z 0 k).length = k) := Lib.hid ⟨fun a ha => by obtain ⟨j, j0, j1, j2⟩ := runL_mem k ha; exact ⟨j, j0, by omega, j2⟩, runL_nodup hzz.1 k 0, runL_len _ _ _ _⟩
      obtain ⟨xs0, hxs0⟩ : ∃ xs, runL 1024 z 0 k = xs := ⟨_, rfl⟩
      have hkl : xs0.length = k := by rw [← hxs0]; exact HXS.out.2.2
      rw [hxs0] at HU HXS
      clear us11 hxs0 HOr hlt hk HPr HP3 HF3
      go_wp2
      go_loopw [11, 14, 59] (fun u v i wr => ∃ (t : Nat) (xs ys : List Int) (A1 : Option Addr) (c1 : Nat), t ≤ l.length ∧ i = .int .i64 t ∧ u = .slice A1 xs.length c1 ∧ Hid (Us wr (B0 + 1) A1 c1 xs v.ownBlock) ∧ Hid (wr.ownsRow (B0 + 1) 22 1 v ys.length (ints .u64 ys)) ∧ Hid (Pg wr pb m g 1024 z k k xs.length [] ys.reverse) ∧ Hid (Fr nil2 w wr) ∧ Hid (B0 + 1 ≤ wr.heap.size) ∧ Hid ((∀ a ∈ xs ++ ys, ∃ i : Int, 0 ≤ i ∧ i < (k : Int) ∧ a = 1024 + i * z) ∧ (xs ++ ys).Nodup) ∧ xs.length + ys.length = k) (fun _ _ i _ => l.length - (intOf i).toNat)
      case atStart =>
        refine ⟨0, xs0, [], A11, c11, Nat.zero_le _, rfl, by rw [hkl], HU, World.ownsRow_nil _ _ _ _, ?_, HFr, HSr, Lib.hid ?_, by simpa using hkl⟩
        · rw [hkl]; exact HPA
        · rw [List.append_nil]; exact ⟨HXS.out.1, HXS.out.2.1⟩
      case round =>
        obtain ⟨t, xs, ys, A1, c1, ht, rfl, rfl, HU, HO, HP, HF, HS, HQ, hxy⟩ := hrel
        by_cases hgo : t < l.length ∧ 0 < xs.length
        · obtain ⟨hlt, hpos⟩ := hgo
          obtain ⟨b, off, hAb, hc⟩ := (HX.out.fr HF.out (fun _ _ _ _ _ _ h => h)).get t (by simpa using hlt)
          rw [ints_get] at hc
          have hbd := HB.out _ (List.getElem_mem hlt)
          obtain ⟨y, hy⟩ : ∃ a, l[t] = a := ⟨_, rfl⟩
          rw [hy] at hc hbd
          subst hAb
          clear hy
          obtain ⟨j, hj⟩ : ∃ j : Nat, y % (xs.length : Int) = j := ⟨(y % (xs.length : Int)).toNat, (Int.toNat_of_nonneg (Int.emod_nonneg y (by omega : (xs.length : Int) ≠ 0))).symm⟩
          have hjl : j < xs.length := by have := Int.emod_lt_of_pos y (by omega : (0 : Int) < xs.length); rw [hj] at this; omega
          have hw1 : IntKind.i64.wrap y = y := IntWalk.i64_in _ ⟨by omega, by omega⟩
          have hw2 : y.tmod (xs.length : Int) = j := by rw [Int.tmod_eq_emod_of_nonneg hbd.1]; exact hj
          have hw3 : IntKind.i64.wrap (j : Int) = j := IntWalk.i64_in _ ⟨by omega, by omega⟩
          have hl0 : ((xs.length : Int) == 0) = false := by rw [beq_eq_false_iff_ne]; omega
          obtain ⟨b1, hA1, hb1⟩ : ∃ b1, A1 = some ⟨b1, 0, none⟩ ∧ B0 + 1 ≤ b1 ∧ b1 < wr.heap.size ∧ u14.ownBlock ≠ some b1 := by
            cases hA : A1 with
            | none => have h1 := HU.out.nn hA; have h2 := HU.out.le; omega
            | some ad => obtain ⟨b1, rfl, h1⟩ := HU.out.ad ad hA; exact ⟨b1, rfl, h1⟩
          subst hA1
          have HB1 := Lib.hid hb1
          obtain ⟨b', off', e', hcu⟩ := HU.out.rd.get j (by simpa using hjl)
          rw [ints_get] at hcu
          injection e' with e'
          injection e' with e1 e2
          subst e1 e2
          obtain ⟨x, hxx⟩ : ∃ a, xs[j] = a := ⟨_, rfl⟩
          rw [hxx] at hcu
          rw [Nat.zero_add] at hcu
          have HXX := Lib.hid hxx
          clear hxx hb1
          go_wp2_with fail
          have hal := (Fr.refl nil2 wr).alloc (.cells #[.int .u64 x] 22)
          have hxm : x ∈ xs := HXX.out ▸ List.getElem_mem hjl
          have hnd := HQ.out.2
          have hmf : MayFree 1024 z k xs.length ([] ++ ys.reverse) [x] := by
            refine ⟨fun a ha => ?_, ?_, by simp; omega⟩
            · rw [List.mem_singleton] at ha; subst ha; exact HQ.out.1 _ (List.mem_append_left _ hxm)
            · simp only [List.nil_append, List.singleton_append, List.nodup_cons, List.mem_reverse]
              exact ⟨fun h => (List.nodup_append.1 hnd).2.2 _ hxm _ h rfl, List.pairwise_reverse.2 ((List.nodup_append.1 hnd).2.1.imp Ne.symm)⟩
          have HF4a := Lib.hid (HF.out.trans' hal)
          have HU4a := Lib.hid (HU.out.fr hal (fun _ _ _ h => h))
          have HO4a := Lib.hid (own_fr HO.out hal (fun _ _ _ h => h))
          have HPL := Lib.hid HP.out.lts
          refine (pg_give (xs := [x]) (HP.out.quiet hal) (cells_one wr 22 (.int .u64 x)) (by intro q o e; injection e with e; injection e with e1 e2; have := HPL.out; omega) hmf).mono ?_
          rintro e w4 ⟨rfl, hp4, hf4⟩
          have HP4 : Hid (Pg w4 pb m g 1024 z k k ((xs.length : Int) - 1) [] (ys ++ [x]).reverse) := Lib.hid (by rw [List.reverse_append]; exact hp4)
          have HF4 := Lib.hid (HF4a.out.step hf4 (fun i o hi h => by have := HZ2.out; unfold PF at h; omega))
          have HU4 := Lib.hid (HU4a.out.fr hf4 (fun q o hq h => by have := HB0.out; unfold PF at h; omega))
          have HO4 := Lib.hid (own_fr HO4a.out hf4 (fun q o hq h => by have := HB0.out; unfold PF at h; omega))
          have HS4 := Lib.hid (Nat.le_trans (Nat.le_trans HS.out hal.size) hf4.size)
          obtain ⟨b', off', e', hcu4⟩ := HU4.out.rd.get j (by simpa using hjl)
          rw [ints_get] at hcu4
          injection e' with e'
          injection e' with e1 e2
          subst e1 e2
          rw [HXX.out, Nat.zero_add] at hcu4
          clear hal hmf hp4 hf4 hcu hc hxm hnd HU4a HO4a HF4a HPL
          have lb1 : ys.length + 1 ≤ maxLen := by rw [show maxLen = 9223372036854775807 from rfl]; omega
          have lb2 : (ys.length + 1) * 8 ≤ 140737488355328 := by omega
          go_wp2_with (at_builtin; refine wpList_append_own_at _ rfl _ _ 33 rfl (B0 + 1) 22 i0 (.int .u64 0) 1 8 Try.underlying33 hi hz0 hz1 hz2 rfl (by decide) u14 ys.length (ints .u64 ys) rfl (own_fr (S := nil2) HO4.out ((Fr.refl _ _).alloc _) (fun _ _ _ h => h)) ⟨w4.heap.size, 0, none⟩ 1 1 [.int .u64 x] rfl rfl (cell_one_new _ _ _) (by simp [Value.oneCell']) lb1 lb2 (by rw [World.size_alloc]; have := HS4.out; omega) ?_; intro v5 w5 hown' hgrow _ hob; have HG5 := Lib.hid hgrow; have HO5 := Lib.hid hown'; have HOB := Lib.hid hob; clear hgrow hown' hob)
          have hal5 := (Fr.refl nil2 w4).alloc (.cells #[.int .u64 x] 22)
          have hu5 : Us w5 (B0 + 1) (some ⟨b1, 0, none⟩) c1 xs v5.ownBlock := (HU4.out.fr hal5 (fun _ _ _ h => h)).same (fun q _ hq hne => HG5.out.block q hq (fun e => hne e.symm)) HG5.out.size (fun q hq e => by
            rcases HOB.out with h | h
            · rw [← h]; exact e
            · rw [h] at e; injection e with e; omega)
          have HU5 := Lib.hid hu5
          have HF5 := Lib.hid ((HF4.out.trans' hal5).grown HG5.out (fun q hq => by have := (own_cells HO4.out q hq).1; have := HB0.out; omega))
          have HP5 := Lib.hid ((HP4.out.quiet hal5).same (fun q hq => HG5.out.block q (by have := HB0.out; have := HS4.out; have := hal5.size; omega) (fun e => by have := (own_cells HO4.out q e.symm).1; have := HB0.out; omega)))
          have HS5 := Lib.hid (Nat.le_trans (Nat.le_trans HS4.out hal5.size) HG5.out.size)
          have HLE := Lib.hid hu5.le
          have hcm := hu5.le
          have hc63 := hu5.cm
          rw [show maxLen = 9223372036854775807 from rfl] at hc63
          have hw4 : IntKind.i64.wrap ((j : Int) + 1) = (j : Int) + 1 := IntWalk.i64_in _ ⟨by omega, by omega⟩
          clear hal5 hu5 hcu4 hw1 hw2 hl0
          have HTL : Hid ((ints .u64 (xs.take j)).length = j) := Lib.hid (by simp [ints]; omega)
          have HDL : Hid ((ints .u64 (xs.drop (j + 1))).length = xs.length - (j + 1)) := Lib.hid (by simp [ints])
          have HRT := Lib.hid ((HU5.out.ahead j).fr ((Fr.refl nil2 w5).alloc (.cells #[] 22)) (fun _ _ _ _ _ _ h => h))
          have HRD := Lib.hid (HU5.out.behind (j + 1))
          have HS5A : Hid (w5.heap.size ≤ (w5.alloc (.cells #[] 22)).heap.size) := Lib.hid (by rw [World.size_alloc]; omega)
          have mb1 : 0 + j ≤ maxLen := by rw [show maxLen = 9223372036854775807 from rfl]; omega
          have mb2 : (0 + j) * 8 ≤ 140737488355328 := by omega
          have mb3 : 0 + j + (xs.length - (j + 1)) ≤ maxLen := by rw [show maxLen = 9223372036854775807 from rfl]; omega
          have mb4 : (0 + j + (xs.length - (j + 1))) * 8 ≤ 140737488355328 := by omega
          have hj0 : (0 : Int) ≤ (j : Int) := by omega
          have hj1 : (j : Int) ≤ (xs.length : Int) := by omega
          have hj2 : (j : Int) ≤ (c1 : Int) := by omega
          have hj3 : (0 : Int) ≤ (j : Int) + 1 := by omega
          have hj4 : (j : Int) + 1 ≤ (xs.length : Int) := by omega
          have hj5 : (j : Int) + 1 ≤ (c1 : Int) := by omega
          have hj6 : (xs.length : Int) ≤ (c1 : Int) := by omega
          by_cases hcap : c1 = j + 1
          · have hcap' : (c1 = j + 1) = True := by simp [hcap]
            have HCAP := Lib.hid hcap
            have HJC : Hid (j ≤ c1) := Lib.hid (by omega)
            clear hcap
            go_region_held_law (fun _ => True) (trivial) ((first | (refine step_append_any _ (by rfl) (.tmp 86) (.tmp 89) 33 (by rfl) w5.heap.size 22 i0 (.int .u64 0) 8 Try.underlying33 hi hz0 hz1 hz2 rfl (.slice (some ⟨w5.heap.size, 0, none⟩) 0 0) 0 [] (by rfl) (own_empty w5 22) (some ⟨b1, 0, none⟩) j (c1) (ints .u64 (xs.take j)) (by rfl) (fun h => by cases h) HTL.out HRT.out (ints_one _ _) HJC.out mb1 mb2 HS5A.out ?_; intro v6 w6 ho6 hg6; have HO6 := Lib.hid ho6; have HF6 := Lib.hid ((((Fr.refl nil2 w5).alloc (.cells #[] 22)).drew).grown hg6 (by intro q hq; injection hq with hq; exact Nat.le_of_eq hq)); have HS6 := Lib.hid HF6.out.size; clear ho6 hg6) | (refine step_append_any _ (by rfl) (.tmp 90) (.tmp 94) 33 (by rfl) w5.heap.size 22 i0 (.int .u64 0) 8 Try.underlying33 hi hz0 hz1 hz2 rfl v6 (0 + j) ([] ++ ints .u64 (xs.take j)) (by rfl) HO6.out (some ⟨b1, 0, none⟩) (xs.length - (j + 1)) _ (ints .u64 (xs.drop (j + 1))) (by rfl) (fun h => by cases h) HDL.out (by have h := HLE.out; have h2 := HCAP.out; rw [List.drop_of_length_le (by omega)]; exact Reads.nil _ _) (ints_one _ _) (by omega) mb3 mb4 HS6.out ?_; intro v7 w7 ho7 hg7; have HO7 := Lib.hid ho7; have HF7 := Lib.hid (HF6.out.grown hg7 (by intro q hq; exact (own_cells HO6.out q hq).1)); clear ho7 hg7)))
            clear mb1 mb2 mb3 mb4 hj0 hj1 hj2 hj3 hj4 hj5 hj6 hw3 hcm hc63
            go_wp2
            go_roundw
            case rel =>
              have hf7 : Fr nil2 w5 w7 := HF7.out
              have hown : w7.ownsRow (B0 + 1) 22 1 v7 (0 + j + (xs.length - (j + 1))) (ints .u64 (xs.take j ++ xs.drop (j + 1))) := by
                have h := own_lower HO7.out HS5.out
                rw [show ints .u64 (xs.take j ++ xs.drop (j + 1)) = [] ++ ints .u64 (xs.take j) ++ ints .u64 (xs.drop (j + 1)) from by simp [ints]]
                exact h
              obtain ⟨A7, c7, hv7, hu7⟩ := us_of_own (fo := v5.ownBlock) hown (fun q hq e => by
                have h1 := (own_cells HO7.out q hq).1
                obtain ⟨cc, hcc⟩ := (own_cells HO5.out q e).2
                have h2 := (Array.getElem?_eq_some_iff.1 hcc).1
                omega)
              have hlen : (xs.take j ++ xs.drop (j + 1)).length = 0 + j + (xs.length - (j + 1)) := by simp; omega
              refine ⟨t + 1, xs.take j ++ xs.drop (j + 1), ys ++ [x], A7, c7, by omega, by go_num, by rw [hlen]; exact hv7, Lib.hid hu7, Lib.hid ?_, Lib.hid ?_, Lib.hid (HF5.out.trans' hf7), Lib.hid (Nat.le_trans HS5.out hf7.size), Lib.hid ⟨?_, ?_⟩, by rw [hlen, List.length_append, List.length_singleton]; omega⟩
              · have h := own_fr HO5.out hf7 (fun _ _ _ h => h)
                rw [List.length_append, List.length_singleton, show ints .u64 (ys ++ [x]) = ints .u64 ys ++ [.int .u64 x] from by simp [ints]]
                exact h
              · rw [hlen, show ((0 + j + (xs.length - (j + 1)) : Nat) : Int) = (xs.length : Int) - 1 from by omega]
                exact HP5.out.quiet hf7
              · intro a ha
                exact HQ.out.1 a ((moved hjl HXX.out).mem_iff.1 ha)
              · exact ((moved hjl HXX.out).nodup_iff).2 HQ.out.2
            case measure => simp [intOf]; omega
          · have HJC : Hid (j ≤ c1) := Lib.hid (by omega)
            go_region_held_law (fun _ => True) (trivial) ((first | (refine step_append_any _ (by rfl) (.tmp 86) (.tmp 89) 33 (by rfl) w5.heap.size 22 i0 (.int .u64 0) 8 Try.underlying33 hi hz0 hz1 hz2 rfl (.slice (some ⟨w5.heap.size, 0, none⟩) 0 0) 0 [] (by rfl) (own_empty w5 22) (some ⟨b1, 0, none⟩) j (c1) (ints .u64 (xs.take j)) (by rfl) (fun h => by cases h) HTL.out HRT.out (ints_one _ _) HJC.out mb1 mb2 HS5A.out ?_; intro v6 w6 ho6 hg6; have HO6 := Lib.hid ho6; have HF6 := Lib.hid ((((Fr.refl nil2 w5).alloc (.cells #[] 22)).drew).grown hg6 (by intro q hq; injection hq with hq; exact Nat.le_of_eq hq)); have HS6 := Lib.hid HF6.out.size; clear ho6 hg6) | (refine step_append_any _ (by rfl) (.tmp 90) (.tmp 94) 33 (by rfl) w5.heap.size 22 i0 (.int .u64 0) 8 Try.underlying33 hi hz0 hz1 hz2 rfl v6 (0 + j) ([] ++ ints .u64 (xs.take j)) (by rfl) HO6.out (some ⟨b1, j + 1, none⟩) (xs.length - (j + 1)) _ (ints .u64 (xs.drop (j + 1))) (by rfl) (fun h => by cases h) HDL.out (HRD.out.fr HF6.out (fun _ _ _ _ _ _ h => h)) (ints_one _ _) (by omega) mb3 mb4 HS6.out ?_; intro v7 w7 ho7 hg7; have HO7 := Lib.hid ho7; have HF7 := Lib.hid (HF6.out.grown hg7 (by intro q hq; exact (own_cells HO6.out q hq).1)); clear ho7 hg7)))
            clear mb1 mb2 mb3 mb4 hj0 hj1 hj2 hj3 hj4 hj5 hj6 hw3 hcm hc63
            go_wp2
            go_roundw
            case rel =>
              have hf7 : Fr nil2 w5 w7 := HF7.out
              have hown : w7.ownsRow (B0 + 1) 22 1 v7 (0 + j + (xs.length - (j + 1))) (ints .u64 (xs.take j ++ xs.drop (j + 1))) := by
                have h := own_lower HO7.out HS5.out
                rw [show ints .u64 (xs.take j ++ xs.drop (j + 1)) = [] ++ ints .u64 (xs.take j) ++ ints .u64 (xs.drop (j + 1)) from by simp [ints]]
                exact h
              obtain ⟨A7, c7, hv7, hu7⟩ := us_of_own (fo := v5.ownBlock) hown (fun q hq e => by
                have h1 := (own_cells HO7.out q hq).1
                obtain ⟨cc, hcc⟩ := (own_cells HO5.out q e).2
                have h2 := (Array.getElem?_eq_some_iff.1 hcc).1
                omega)
              have hlen : (xs.take j ++ xs.drop (j + 1)).length = 0 + j + (xs.length - (j + 1)) := by simp; omega
              refine ⟨t + 1, xs.take j ++ xs.drop (j + 1), ys ++ [x], A7, c7, by omega, by go_num, by rw [hlen]; exact hv7, Lib.hid hu7, Lib.hid ?_, Lib.hid ?_, Lib.hid (HF5.out.trans' hf7), Lib.hid (Nat.le_trans HS5.out hf7.size), Lib.hid ⟨?_, ?_⟩, by rw [hlen, List.length_append, List.length_singleton]; omega⟩
              · have h := own_fr HO5.out hf7 (fun _ _ _ h => h)
                rw [List.length_append, List.length_singleton, show ints .u64 (ys ++ [x]) = ints .u64 ys ++ [.int .u64 x] from by simp [ints]]
                exact h
              · rw [hlen, show ((0 + j + (xs.length - (j + 1)) : Nat) : Int) = (xs.length : Int) - 1 from by omega]
                exact HP5.out.quiet hf7
              · intro a ha
                exact HQ.out.1 a ((moved hjl HXX.out).mem_iff.1 ha)
              · exact ((moved hjl HXX.out).nodup_iff).2 HQ.out.2
            case measure => simp [intOf]; omega
        · obtain ⟨Af, cf, hvf, huf⟩ := us_of_own (fo := none) HO.out (fun _ _ e => by cases e)
          subst hvf
          have HUf := Lib.hid huf
          have hwl : IntKind.i64.wrap ((ys.length : Int) - 1) = (ys.length : Int) - 1 := IntWalk.i64_in _ ⟨by omega, by omega⟩
          clear huf
          rcases (show t = l.length ∨ (t < l.length ∧ xs.length = 0) by omega) with h | ⟨h1, h2⟩
          · subst h
            go_wp2
            go_loopw [18] (fun i wr => ∃ (r : Nat) (iv : Int), r ≤ ys.length ∧ i = .int .i64 iv ∧ iv = (r : Int) - 1 ∧ Hid (PgR wr pb m g 1024 z k (ys.take r).reverse) ∧ Hid (Fr nil2 w wr) ∧ Hid (Us wr (B0 + 1) Af cf ys none)) (fun i _ => (intOf i + 1).toNat)
            case atStart => exact ⟨ys.length, _, Nat.le_refl _, rfl, rfl, Lib.hid (.inr ⟨_, by rw [List.take_length]; exact HP.out⟩), HF, HUf⟩
            case round =>
              obtain ⟨r, iv, hr, rfl, hiv, HPr, HFr, HUr⟩ := hrel
              by_cases h0 : 0 < r
              · obtain ⟨q, rfl⟩ : ∃ q, r = q + 1 := ⟨r - 1, by omega⟩
                obtain rfl : iv = (q : Int) := by omega
                have hq0 : (0 : Int) ≤ (q : Int) := by omega
                have hql : q < ys.length := by omega
                have hq1 : (q : Int) < (ys.length : Int) := by omega
                have hq2 : IntKind.i64.wrap ((q : Int) - 1) = (q : Int) - 1 := IntWalk.i64_in _ ⟨by omega, by omega⟩
                have htk : (ys.take (q + 1)).reverse = ys[q] :: (ys.take q).reverse := by
                  rw [List.take_succ_eq_append_getElem hql, List.reverse_append]; rfl
                obtain ⟨a, ha⟩ : ∃ a, ys[q] = a := ⟨_, rfl⟩
                rw [ha] at htk
                have HPq : Hid (PgR wr pb m g 1024 z k (a :: (ys.take q).reverse)) := Lib.hid (htk ▸ HPr.out)
                have HA := Lib.hid ha
                clear htk ha hiv
                go_wp2_with fail
                refine (pgr_next HPq.out).mono ?_
                rintro e w8 ⟨rfl, hp8, hf8⟩
                have HP8 := Lib.hid hp8
                have HF8 := Lib.hid (HFr.out.step hf8 (fun i o hi h => by have := HZ2.out; unfold PF at h; omega))
                have HU8 := Lib.hid (HUr.out.fr hf8 (fun q o hq h => by have := HB0.out; unfold PF at h; omega))
                obtain ⟨b8, off8, e8, hc8⟩ := HU8.out.rd.get q (by simpa using hql)
                rw [ints_get, HA.out] at hc8
                subst e8
                clear hp8 hf8
                go_wp2
                go_roundw
                case rel => exact ⟨q, (q : Int) - 1, by omega, rfl, rfl, HP8, HF8, HU8⟩
                case measure => simp [intOf] <;> omega
              · obtain rfl : r = 0 := by omega
                have hneg : ¬ (0 : Int) ≤ iv := by omega
                have hneg' : iv < 0 := by omega
                have HPe : Hid (PgR wr pb m g 1024 z k []) := Lib.hid (by have h := HPr.out; rwa [List.take_zero] at h)
                go_wp2_with fail
                refine (pgr_full HPe.out).mono ?_
                rintro e w8 ⟨rfl, hf8⟩
                have HF8 := Lib.hid (HFr.out.step hf8 (fun i o hi h => by have := HZ2.out; unfold PF at h; omega))
                clear hf8
                go_wp2
                go_ret
                exact ⟨rfl, HF8.out⟩
          · obtain ⟨b, off, hAb, hc⟩ := (HX.out.fr HF.out (fun _ _ _ _ _ _ h => h)).get t (by simpa using h1)
            rw [ints_get] at hc
            obtain ⟨y, hy⟩ : ∃ a, l[t] = a := ⟨_, rfl⟩
            rw [hy] at hc
            subst hAb
            clear hy
            go_wp2
            clear h1 h2 hc
            go_loopw [18] (fun i wr => ∃ (r : Nat) (iv : Int), r ≤ ys.length ∧ i = .int .i64 iv ∧ iv = (r : Int) - 1 ∧ Hid (PgR wr pb m g 1024 z k (ys.take r).reverse) ∧ Hid (Fr nil2 w wr) ∧ Hid (Us wr (B0 + 1) Af cf ys none)) (fun i _ => (intOf i + 1).toNat)
            case atStart => exact ⟨ys.length, _, Nat.le_refl _, rfl, rfl, Lib.hid (.inr ⟨_, by rw [List.take_length]; exact HP.out⟩), HF, HUf⟩
            case round =>
              obtain ⟨r, iv, hr, rfl, hiv, HPr, HFr, HUr⟩ := hrel
              by_cases h0 : 0 < r
              · obtain ⟨q, rfl⟩ : ∃ q, r = q + 1 := ⟨r - 1, by omega⟩
                obtain rfl : iv = (q : Int) := by omega
                have hq0 : (0 : Int) ≤ (q : Int) := by omega
                have hql : q < ys.length := by omega
                have hq1 : (q : Int) < (ys.length : Int) := by omega
                have hq2 : IntKind.i64.wrap ((q : Int) - 1) = (q : Int) - 1 := IntWalk.i64_in _ ⟨by omega, by omega⟩
                have htk : (ys.take (q + 1)).reverse = ys[q] :: (ys.take q).reverse := by
                  rw [List.take_succ_eq_append_getElem hql, List.reverse_append]; rfl
                obtain ⟨a, ha⟩ : ∃ a, ys[q] = a := ⟨_, rfl⟩
                rw [ha] at htk
                have HPq : Hid (PgR wr pb m g 1024 z k (a :: (ys.take q).reverse)) := Lib.hid (htk ▸ HPr.out)
                have HA := Lib.hid ha
                clear htk ha hiv
                go_wp2_with fail
                refine (pgr_next HPq.out).mono ?_
                rintro e w8 ⟨rfl, hp8, hf8⟩
                have HP8 := Lib.hid hp8
                have HF8 := Lib.hid (HFr.out.step hf8 (fun i o hi h => by have := HZ2.out; unfold PF at h; omega))
                have HU8 := Lib.hid (HUr.out.fr hf8 (fun q o hq h => by have := HB0.out; unfold PF at h; omega))
                obtain ⟨b8, off8, e8, hc8⟩ := HU8.out.rd.get q (by simpa using hql)
                rw [ints_get, HA.out] at hc8
                subst e8
                clear hp8 hf8
                go_wp2
                go_roundw
                case rel =>
                  exact ⟨q, (q : Int) - 1, by omega, rfl, rfl, HP8, HF8, HU8⟩
                case measure => simp [intOf] <;> omega
              · obtain rfl : r = 0 := by omega
                have hneg : ¬ (0 : Int) ≤ iv := by omega
                have hneg' : iv < 0 := by omega
                have HPe : Hid (PgR wr pb m g 1024 z k []) := Lib.hid (by have h := HPr.out; rwa [List.take_zero] at h)
                go_wp2_with fail
                refine (pgr_full HPe.out).mono ?_
                rintro e w8 ⟨rfl, hf8⟩
                have HF8 := Lib.hid (HFr.out.step hf8 (fun i o hi h => by have := HZ2.out; unfold PF at h; omega))
                clear hf8
                go_wp2
                go_ret
                exact ⟨rfl, HF8.out⟩

end Go.Proofs.Ythginpedlfocpaa
