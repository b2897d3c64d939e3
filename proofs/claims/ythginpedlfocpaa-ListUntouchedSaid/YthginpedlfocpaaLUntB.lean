/- ListUntouched: the walk. -/
import Derived.Test.YthginpedlfocpaaLUntA
import Derived.Test.YthginpedlfocpaaLCounts
namespace Go.Proofs.Ythginpedlfocpaa
open Go.RowKit Go.Alo Go.Shelf
attribute [local go_sem] max_ints min_ints

/-- Between two rounds of the first loop: j blocks have gone from x to y. -/
structure UntJ (w : World) (c : Int) (L : List Int) (A7 : Option Addr) (m g X Y : Nat) (j : Nat) (bs : List Int) (hx hy : Int) (W : World) : Prop where
  mem : IsMem 149 W m g bs
  len : bs.length = 2048
  lx : IsList W X 0 hx ((L.length - j : Nat) : Int)
  ly : IsList W Y 0 hy (j : Int)
  ox : OnL bs hx (L.reverse.drop j)
  oy : OnL bs hy (L.reverse.take j).reverse
  beside : Beside c L bs
  fx : Flat W X
  fy : Flat W Y
  fr : Fr nil2 w W
  reads : Reads W A7 (ints .u64 L)

set_option maxRecDepth 100000 in
set_option maxHeartbeats 4000000 in
theorem unt_walk (A : Option Addr) (cap : Nat) (l : List Int) (fill : Int) (w : World) (hx : Reads w A (ints .u8 l)) (hb : ∀ a ∈ l, 0 ≤ a ∧ a < 256) (ll : (l.length : Int) ≤ 9223372036854775807) (hf0 : 0 ≤ fill) (hf1 : fill < 256) :
    Calls Try.prog 10 #[.slice A l.length cap, .int .u8 fill] w fun e w' => e = .returned (.bool true) ∧ Fr nil2 w w' := by
  have HX := Lib.hid hx
  have HB := Lib.hid hb
  clear hx hb
  have HBL := Lib.hid (blocks_law l)
  obtain ⟨L, hL⟩ : ∃ L, blk (fun _ => false) l = L := ⟨_, rfl⟩
  rw [hL] at HBL
  have HLe := Lib.hid hL
  have hlen := HBL.out.len
  clear hL
  go_enter Try.func10, Try.ntmps10
  go_wp2_with fail
  refine (alive_any w).mono ?_
  rintro e wa ⟨rfl, hfa⟩
  have HFA := Lib.hid hfa
  clear hfa
  go_wp2_with fail
  refine (new_any 2048 wa (by decide) (by decide) (by decide)).mono ?_
  rintro e w1 ⟨rfl, rfl⟩
  have HM := Lib.hid (newMem_is 149 2048 wa (by decide))
  have HF := Lib.hid (HFA.out.trans' (newMem_fr 149 2048 wa nil2))
  have HS1 := Lib.hid (newMem_is 149 2048 wa (by decide)).obj.lt
  have HSW := Lib.hid HFA.out.size
  obtain ⟨W1, hW1⟩ : ∃ W, newMem 149 2048 wa = W := ⟨_, rfl⟩
  rw [hW1] at HM HF HS1 ⊢
  clear hW1
  go_wp2_with fail
  refine (blocks_any A cap l W1 (HX.out.fr HF.out (fun _ _ _ _ _ _ h => h)) HB.out ll).mono ?_
  rw [HLe.out]
  rintro e w2 ⟨⟨v, rfl, hown⟩, hf2⟩
  obtain ⟨A7, cap7, rfl, hc7, hm7, hr7, -⟩ := own_reads hown
  have HA7 : Hid (∀ b off, A7 = some ⟨b, off, none⟩ → W1.heap.size ≤ b ∧ b < w2.heap.size) := Lib.hid (fun b off e => by subst e; obtain ⟨q1, c, q2⟩ := own_cells hown b rfl; exact ⟨q1, (Array.getElem?_eq_some_iff.1 q2).1⟩)
  have HR2 := Lib.hid hr7
  have HM2 := Lib.hid (HM.out.fr hf2 (fun _ h => h) (fun _ h => h))
  have HF2 := Lib.hid (HF.out.trans' hf2)
  have HS2 := Lib.hid hf2.size
  clear hown hf2 hr7 HM HF
  go_wp2_with fail
  have hX3 := ((((Fr.refl nil2 w2).alloc (.cells #[.int .u64 0, .int .i64 0] 36)).alloc (.cells #[.int .u64 0, .int .i64 0] 36)).alloc (.cells #[.int .u8 fill] 5))
  have HX3 : Hid (IsList (((w2.alloc (.cells #[.int .u64 0, .int .i64 0] 36)).alloc (.cells #[.int .u64 0, .int .i64 0] 36)).alloc (.cells #[.int .u8 fill] 5)) w2.heap.size 0 0 0) :=
    Lib.hid ((list_new w2).fr (((Fr.refl nil2 _).alloc _).alloc _) (fun h => h) (fun h => h))
  have HY3 : Hid (IsList (((w2.alloc (.cells #[.int .u64 0, .int .i64 0] 36)).alloc (.cells #[.int .u64 0, .int .i64 0] 36)).alloc (.cells #[.int .u8 fill] 5)) (w2.heap.size + 1) 0 0 0) :=
    Lib.hid (by have := list_new (w2.alloc (.cells #[.int .u64 0, .int .i64 0] 36)); rw [World.size_alloc] at this; exact this.fr ((Fr.refl nil2 _).alloc _) (fun h => h) (fun h => h))
  have HXF : Hid (Flat (((w2.alloc (.cells #[.int .u64 0, .int .i64 0] 36)).alloc (.cells #[.int .u64 0, .int .i64 0] 36)).alloc (.cells #[.int .u8 fill] 5)) w2.heap.size) :=
    Lib.hid ((Flat.new w2 _ _).fr (((Fr.refl nil2 _).alloc _).alloc _))
  have HYF : Hid (Flat (((w2.alloc (.cells #[.int .u64 0, .int .i64 0] 36)).alloc (.cells #[.int .u64 0, .int .i64 0] 36)).alloc (.cells #[.int .u8 fill] 5)) (w2.heap.size + 1)) :=
    Lib.hid (by have := Flat.new (w2.alloc (.cells #[.int .u64 0, .int .i64 0] 36)) #[.int .u64 0, .int .i64 0] 36; rw [World.size_alloc] at this; exact this.fr ((Fr.refl nil2 _).alloc _))
  have HCF : Hid ((((w2.alloc (.cells #[.int .u64 0, .int .i64 0] 36)).alloc (.cells #[.int .u64 0, .int .i64 0] 36)).alloc (.cells #[.int .u8 fill] 5)).cell? ⟨w2.heap.size + 1 + 1, 0, none⟩ = some (.int .u8 fill)) :=
    Lib.hid (by have := (Cel.new ((w2.alloc (.cells #[.int .u64 0, .int .i64 0] 36)).alloc (.cells #[.int .u64 0, .int .i64 0] 36)) 5 (.int .u8 fill)).1; rw [World.size_alloc, World.size_alloc] at this; exact this)
  have HM3 := Lib.hid (HM2.out.fr hX3 (fun _ h => h) (fun _ h => h))
  have HR3 := Lib.hid (HR2.out.fr hX3 (fun _ _ _ _ _ _ h => h))
  have HF3 := Lib.hid (HF2.out.trans' hX3)
  have HS12 : Hid (wa.heap.size + 1 < w2.heap.size) := Lib.hid (by have := HS1.out; have := HS2.out; omega)
  clear hX3 HM2 HR2 HF2
  obtain ⟨W3, hW3⟩ : ∃ W, (((w2.alloc (.cells #[.int .u64 0, .int .i64 0] 36)).alloc (.cells #[.int .u64 0, .int .i64 0] 36)).alloc (.cells #[.int .u8 fill] 5)) = W := ⟨_, rfl⟩
  rw [hW3] at HX3 HY3 HXF HYF HCF HM3 HR3 HF3 ⊢
  clear hW3
  have hfl := fill_whole (wa.heap.size + 1) wa.heap.size (w2.heap.size + 1 + 1) 0 1 (List.replicate 2048 0) fill W3 HM3.out (by rw [List.length_replicate]; decide) HCF.out (by have := HS12.out; omega) ⟨hf0, hf1⟩
  rw [List.length_replicate] at hfl
  refine hfl.mono ?_
  rintro e w4 ⟨rfl, hm4, hf4⟩
  have HM4 := Lib.hid hm4
  have HX4 := Lib.hid (HX3.out.fr hf4 (by have := HS12.out; omega) (by have := HS12.out; omega))
  have HY4 := Lib.hid (HY3.out.fr hf4 (by have := HS12.out; omega) (by have := HS12.out; omega))
  have HXF4 := Lib.hid (HXF.out.fr hf4)
  have HYF4 := Lib.hid (HYF.out.fr hf4)
  have HR4 := Lib.hid (HR3.out.fr hf4 (by intro b off o e _ _ h; have := HA7.out b off e; have := HS1.out; omega))
  have HF4 := Lib.hid (HF3.out.step hf4 (by intro i o hi h; have := HSW.out; omega))
  clear hm4 hf4 hfl HM3 HX3 HY3 HXF HYF HCF HR3 HF3
  go_wp2_with fail
  have hr : (List.replicate 2048 fill).length = 2048 := List.length_replicate
  obtain ⟨bs, h, p1, p2, p3, p4, p5, -⟩ := push_law L (List.replicate 2048 fill) 0 0 [] rfl (by decide) (by decide) (by rw [List.append_nil]; exact apart_rev HBL.out.apart) (by rw [hr]; exact HBL.out.good)
  rw [List.append_nil] at p2
  rw [hr] at p3
  have pb := beside_push (c := fill) (L := L) L (bs := List.replicate 2048 fill) 0 0 (beside_all _ _ _) (fun a ha => ⟨ha, (HBL.out.good a ha).2.1⟩)
  rw [p1] at pb
  have hpx := push_any (wa.heap.size + 1) wa.heap.size w2.heap.size 0 cap7 A7 L (List.replicate 2048 fill) 0 0 w4 HM4.out HX4.out (by have := HS12.out; omega) (by have := HS12.out; omega) HR4.out (by intro b off e; have := HA7.out b off e; have := HS1.out; omega) (fun a ha => by have := HBL.out.good a ha; omega) (by decide) (by omega)
  rw [p1] at hpx
  refine hpx.mono ?_
  rintro e w5 ⟨rfl, hm5, hl5, hf5⟩
  have HJ0 : Hid (UntJ w fill L A7 (wa.heap.size + 1) wa.heap.size w2.heap.size (w2.heap.size + 1) 0 bs h 0 w5) := by
    refine Lib.hid ⟨hm5, p3, ?_, HY4.out.fr hf5 (by have := HS12.out; unfold LS; omega) (by have := HS12.out; unfold LS; omega), p2, rfl, pb, HXF4.out.fr hf5, HYF4.out.fr hf5, HF4.out.step hf5 (by intro i o hi h; have := HSW.out; have := HS12.out; unfold LS at h; omega), HR4.out.fr hf5 (by intro b off o e _ _ h; have := HA7.out b off e; have := HS1.out; unfold LS at h; omega)⟩
    have e : (0 : Int) + (L.length : Int) = ((L.length - 0 : Nat) : Int) := by simp
    rw [← e]; exact hl5
  clear hm5 hl5 hf5 hpx p1 p2 p3 p4 p5 pb hr HM4 HX4 HY4 HXF4 HYF4 HR4 HF4
  go_wp2
  go_loopw [46] (fun i wr => ∃ (j : Nat) (bs : List Int) (hx hy : Int), j ≤ L.length / 2 ∧ i = .int .i64 j ∧ Hid (UntJ w fill L A7 (wa.heap.size + 1) wa.heap.size w2.heap.size (w2.heap.size + 1) j bs hx hy wr)) (fun i _ => L.length / 2 - (intOf i).toNat)
  case atStart => exact ⟨0, bs, h, 0, Nat.zero_le _, rfl, HJ0⟩
  case round =>
    obtain ⟨j, bs', hx, hy, hj, rfl, HJ⟩ := hrel
    clear HJ0
    by_cases hlt : j < L.length / 2
    · have hlti : (j : Int) < (L.length : Int) / 2 := by omega
      have hjr : j < L.reverse.length := by rw [List.length_reverse]; omega
      have ho := HJ.out.ox
      rw [List.drop_eq_getElem_cons hjr] at ho
      obtain ⟨a, ha⟩ : ∃ a, L.reverse[j] = a := ⟨_, rfl⟩
      rw [ha] at ho
      have hmem : a ∈ L := by rw [← ha]; exact List.mem_reverse.1 (List.getElem_mem hjr)
      have hga := HBL.out.good a hmem
      obtain ⟨q1, q2⟩ := ho.pop ((L.length - j : Nat) : Int) (by omega)
      have HA := Lib.hid ha
      have HQ2 := Lib.hid q2
      have hpop := pop_any (wa.heap.size + 1) wa.heap.size w2.heap.size 0 bs' hx ((L.length - j : Nat) : Int) wr HJ.out.mem HJ.out.lx (by have := HS12.out; omega) (by have := HS12.out; omega) (by omega) (by omega)
      rw [q1] at hpop
      have HPOP := Lib.hid hpop
      clear ho ha q1 q2 hpop
      go_wp2_with fail
      refine HPOP.out.mono ?_
      rintro e w6 ⟨rfl, hm6, hl6, hf6⟩
      have HS6 := Lib.hid (Nat.lt_of_lt_of_le HJ.out.ly.head.lt hf6.size)
      have hfa := hf6.alloc (.cells #[.int .u64 a] 22)
      have HM7 := Lib.hid (hm6.alloc (.cells #[.int .u64 a] 22))
      have HX7 := Lib.hid (hl6.fr ((Fr.refl nil2 w6).alloc (.cells #[.int .u64 a] 22)) (fun h => h) (fun h => h))
      have HY7 := Lib.hid (HJ.out.ly.fr hfa (by unfold LL; omega) (by unfold LL; omega))
      have HXF7 := Lib.hid (HJ.out.fx.fr hfa)
      have HYF7 := Lib.hid (HJ.out.fy.fr hfa)
      have HF7 := Lib.hid (HJ.out.fr.step hfa (by intro i o hi h; have := HSW.out; have := HS12.out; unfold LL at h; omega))
      have HR7 := Lib.hid (HJ.out.reads.fr hfa (by intro b off o e _ _ h; have := HA7.out b off e; unfold LL at h; omega))
      have HC7 := Lib.hid (cells_one w6 22 (.int .u64 a))
      clear hfa hm6 hl6 hf6
      simp only
      have hap : Apart ([a].reverse ++ (L.reverse.take j).reverse) := by
        have h1 : Apart (L.reverse.take (j + 1)).reverse := apart_rev ((apart_rev HBL.out.apart).sublist (List.take_sublist _ _))
        rw [List.take_add_one, List.getElem?_eq_getElem hjr, HA.out, List.reverse_append] at h1
        exact h1
      obtain ⟨bs2, h2, r1, r2, r3, r4, r5, r6⟩ := push_law [a] bs' hy j (L.reverse.take j).reverse HJ.out.oy HJ.out.ly.h0 HJ.out.ly.h1 hap (by rw [HJ.out.len]; intro y hy; rw [List.mem_singleton.1 hy]; exact hga)
      have HR1 := Lib.hid r1
      have HR2 := Lib.hid r2
      have HR3 := Lib.hid r3
      have HR6 := Lib.hid r6
      clear r1 r2 r3 r4 r5 r6 hap
      go_wp2_with fail
      have hpy := push_any (wa.heap.size + 1) wa.heap.size (w2.heap.size + 1) 0 1 (some ⟨w6.heap.size, 0, none⟩) [a] bs' hy j _ HM7.out HY7.out (by have := HS12.out; omega) (by have := HS12.out; omega) HC7.out (by intro b off e; injection e with e; injection e with e1 e2; have := HS6.out; have := HS12.out; omega) (by intro y hy; rw [List.mem_singleton.1 hy]; exact ⟨hga.2.1, hga.2.2.2⟩) (by omega) (by simp; omega)
      rw [HR1.out] at hpy
      refine hpy.mono ?_
      rintro e w8 ⟨rfl, hm8, hl8, hf8⟩
      have hbe : Beside fill L bs2 := by
        have := beside_push (c := fill) (L := L) [a] (bs := bs') hy j HJ.out.beside (fun y hy => by rw [List.mem_singleton.1 hy]; exact ⟨hmem, hga.2.1⟩)
        rw [HR1.out] at this
        exact this
      have HJ8 : Hid (UntJ w fill L A7 (wa.heap.size + 1) wa.heap.size w2.heap.size (w2.heap.size + 1) (j + 1) bs2 (ldF bs' a) h2 w8) := by
        refine Lib.hid ⟨hm8, HR3.out.trans HJ.out.len, ?_, ?_, ?_, ?_, hbe, HXF7.out.fr hf8, HYF7.out.fr hf8, HF7.out.step hf8 (by intro i o hi h; have := HSW.out; have := HS12.out; unfold LS at h; omega), HR7.out.fr hf8 (by intro b off o e _ _ h; have := HA7.out b off e; have := HS1.out; unfold LS at h; omega)⟩
        · have := HX7.out.fr hf8 (by have := HS12.out; unfold LS; omega) (by have := HS12.out; unfold LS; omega)
          rw [show ((L.length - (j + 1) : Nat) : Int) = ((L.length - j : Nat) : Int) - 1 from by omega]
          exact this
        · rw [show ((j + 1 : Nat) : Int) = (j : Int) + (([a] : List Int).length : Int) from by simp]
          exact hl8
        · refine HR6.out _ _ HQ2.out (fun y hy b hb => ?_)
          rw [List.mem_singleton.1 hb]
          have h1 := apart_rev HBL.out.apart
          obtain ⟨i, hi, e⟩ := List.getElem_of_mem hy
          rw [List.getElem_drop] at e
          have hi' : j + 1 + i < L.reverse.length := by rw [List.length_drop] at hi; omega
          have := List.pairwise_iff_getElem.1 h1 j (j + 1 + i) hjr hi' (by omega)
          rw [HA.out, e] at this
          exact this
        · rw [List.take_add_one, List.getElem?_eq_getElem hjr, HA.out, List.reverse_append]
          exact HR2.out
      clear hm8 hl8 hf8
      simp only
      go_wp2
      go_roundw
      case rel => exact ⟨j + 1, bs2, _, h2, by omega, by go_num, HJ8⟩
      case measure => simp [intOf]; omega
    · have hlti : (L.length : Int) / 2 ≤ (j : Int) := by omega
      have hjl : (L.reverse.take j).reverse.length = j := by rw [List.length_reverse, List.length_take, List.length_reverse]; omega
      have hall := HJ.out.oy.all (by rw [hjl, HJ.out.len]; omega)
      rw [hjl] at hall
      have hjoin : ∃ bs3 h3, joinF bs' hx ((L.length - j : Nat) : Int) hy j = (bs3, (h3, (L.length : Int)), (0, 0), 0) ∧ Beside fill L bs3 ∧ bs3.length = 2048 := by
        unfold joinF
        rw [hall]
        cases hgl : (L.reverse.take j).reverse.getLast? with
        | none =>
          have hnil := List.getLast?_eq_none_iff.1 hgl
          have hj0 : j = 0 := by rw [← hjl, hnil]; rfl
          refine ⟨bs', hx, ?_, HJ.out.beside, HJ.out.len⟩
          simp only [hgl]
          rw [hj0]; simp
        | some a =>
          have hm : a ∈ L := by
            have := List.mem_of_getLast? hgl
            exact List.mem_reverse.1 (List.mem_of_mem_take (List.mem_reverse.1 this))
          have ha0 := (HBL.out.good a hm).2.1
          refine ⟨stF bs' a hx, hy, ?_, beside_st HJ.out.beside a hx ha0 hm, by rw [stF_len _ _ _ ha0, HJ.out.len]⟩
          simp only [hgl]
          rw [hjl, show ((L.length - j : Nat) : Int) + (j : Int) = (L.length : Int) from by omega]
      obtain ⟨bs3, h3, j1, j2, j3⟩ := hjoin
      have J1 := Lib.hid j1
      have J2 := Lib.hid j2
      have J3 := Lib.hid j3
      clear hjl hall j1 j2 j3
      go_wp2_with fail
      have hjn := join_any _ _ _ _ _ _ bs' hx ((L.length - j : Nat) : Int) hy j wr HJ.out.mem HJ.out.lx HJ.out.ly (by have := HS12.out; omega) (by have := HS12.out; omega) (by have := HS12.out; omega) (by have := HS12.out; omega) (by omega) HJ.out.fx HJ.out.fy (by rw [HJ.out.len]; decide) (by omega) (by omega)
      rw [J1.out] at hjn
      refine hjn.mono ?_
      rintro e w8 ⟨rfl, hm8, hx8, hy8, hf8⟩
      have HM8 := Lib.hid hm8
      have HX8 := Lib.hid hx8
      have HF8 := Lib.hid (HJ.out.fr.step hf8 (by intro i o hi h; have := HSW.out; have := HS12.out; unfold JS at h; omega))
      have HR8 := Lib.hid (HJ.out.reads.fr hf8 (by intro b off o e _ _ h; have := HA7.out b off e; have := HS1.out; unfold JS at h; omega))
      clear hm8 hx8 hy8 hf8 hjn HJ
      simp only
      have hmm := @run_makeMap Try.prog
      go_wp2
      clear hmm
      go_loopw [69] (fun i wr => ∃ (k n : Nat) (f : Int → Bool), k ≤ L.length ∧ i = .int .i64 k ∧ n ≤ 8 * k ∧ Hid (Go.Alo.Met Try.prog 22 4 .u64 wr w8.heap.size n f) ∧ Hid (Fr nil2 w8 wr) ∧ Hid (∀ a ∈ L.take k, ∀ x, a ≤ x → x < a + 8 → f x = true)) (fun i _ => L.length - (intOf i).toNat)
      case atStart => exact ⟨0, 0, fun _ => false, Nat.zero_le _, rfl, Nat.le_refl _, Go.Alo.Met.made _ _ _ _ _, (Fr.refl _ _).alloc _, by unfold Hid; simp⟩
      case round =>
        obtain ⟨k, n, f, hk, rfl, hn, HMt, HFw, HFf⟩ := hrel
        by_cases hkl : k < L.length
        · obtain ⟨b, off, hAb, hc⟩ := (HR8.out.fr HFw.out (fun _ _ _ _ _ _ h => h)).get k (by simpa using hkl)
          rw [ints_get] at hc
          have hga := HBL.out.good L[k] (List.getElem_mem hkl)
          obtain ⟨a, ha⟩ : ∃ a, L[k] = a := ⟨_, rfl⟩
          rw [ha] at hc hga
          have HA := Lib.hid ha
          obtain ⟨-, g2, g3, g4⟩ := hga
          subst hAb
          clear ha
          go_wp2
          go_loopw [73] (fun i wr => ∃ (t n : Nat) (f : Int → Bool), t ≤ 8 ∧ i = .int .u64 t ∧ n ≤ 8 * k + t ∧ Hid (Go.Alo.Met Try.prog 22 4 .u64 wr w8.heap.size n f) ∧ Hid (Fr nil2 w8 wr) ∧ Hid (∀ a ∈ L.take k, ∀ x, a ≤ x → x < a + 8 → f x = true) ∧ Hid (∀ x, a ≤ x → x < a + t → f x = true)) (fun i _ => 8 - (intOf i).toNat)
          case atStart => exact ⟨0, n, f, Nat.zero_le _, rfl, hn, HMt, HFw, HFf, by unfold Hid; intro x h1 h2; omega⟩
          case round =>
            obtain ⟨t, n, f, ht, rfl, hn, HMt, HFw, HFf, HFt⟩ := hrel
            by_cases htl : t < 8
            · have hti : (t : Int) < 8 := by omega
              have hn1 : n < maxLen := by rw [show maxLen = 9223372036854775807 from rfl]; omega
              have hwf : (Lit.int .u64 (a + (t : Int))).wf = true := WalkArith.wf_u64 (by omega)
              have HWF := Lib.hid hwf
              clear hwf
              go_wp2_with (at_mapUpdate; refine wpList_update_met rfl _ _ _ 89 rfl 22 4 .u64 Try.underlying22 Try.underlying89 Try.underlying4 w8.heap.size n f rfl HMt.out hn1 _ rfl (a + (t : Int)) (by first | rfl | omega) HWF.out true rfl ?_; intro w9 hm9 hg9; have HM9 := Lib.hid hm9; have HF9 := Lib.hid (HFw.out.grown hg9 (by intro q hq; injection hq with hq; exact Nat.le_of_eq hq)); clear hm9 hg9)
              go_roundw
              case rel =>
                refine ⟨t + 1, n + 1, _, by omega, by go_num, by omega, HM9, HF9, Lib.hid ?_, Lib.hid ?_⟩
                · intro a' ha' x h1 h2
                  have := HFf.out a' ha' x h1 h2
                  simp [this]
                · intro x h1 h2
                  by_cases hx : x = a + (t : Int)
                  · simp [hx]
                  · have := HFt.out x h1 (by omega)
                    simp [this]
              case measure => simp [intOf]; omega
            · have ht8 : t = 8 := by omega
              have HT8 := Lib.hid ht8
              have hti : ¬ (t : Int) < 8 := by omega
              go_wp2
              go_roundw
              case rel =>
                refine ⟨k + 1, n, f, by omega, by go_num, by have := HT8.out; omega, HMt, HFw, Lib.hid ?_⟩
                intro a' ha' x h1 h2
                rw [List.take_add_one, List.getElem?_eq_getElem hkl, HA.out] at ha'
                rcases List.mem_append.1 ha' with h | h
                · exact HFf.out a' h x h1 h2
                · have e : a' = a := by simpa using h
                  subst e
                  exact HFt.out x h1 (by have := HT8.out; omega)
              case measure => simp [intOf]; omega
        · have hke : k = L.length := by omega
          have HFf2 : Hid (∀ a ∈ L, ∀ x, a ≤ x → x < a + 8 → f x = true) := Lib.hid (by have := HFf.out; rw [hke, List.take_length] at this; exact this)
          have HM9 := Lib.hid (HM8.out.fr HFw.out (fun _ h => h) (fun _ h => h))
          have HX9 := Lib.hid (HX8.out.fr HFw.out (fun h => h) (fun h => h))
          have HF9 := Lib.hid (HF8.out.trans' HFw.out)
          have hgw := get_whole _ _ bs3 wr HM9.out (by rw [J3.out]; decide)
          rw [J3.out] at hgw
          have HGW := Lib.hid hgw
          have hkn : ¬ (k : Int) < (L.length : Int) := by omega
          clear hgw HM8 HX8 HF8 HR8 hke HFf
          go_wp2_with fail
          refine HGW.out.mono ?_
          rintro e w10 ⟨⟨v, rfl, hown⟩, hf10⟩
          obtain ⟨A16, cap16, rfl, hc16, hm16, hr16, -⟩ := own_reads hown
          have HR10 := Lib.hid hr16
          have HX10 := Lib.hid (HX9.out.fr hf10 (fun h => h) (fun h => h))
          have HF10 := Lib.hid (HF9.out.trans' hf10)
          have HM10 := Lib.hid (HMt.out.fr hf10)
          clear hown hf10 hr16 HX9 HF9 HGW HMt HFw HM9
          go_wp2
          go_loopw [89] (fun i wq => ∃ t : Nat, t ≤ 2048 ∧ i = .int .i64 t ∧ Hid (Fr nil2 w10 wq)) (fun i _ => 2048 - (intOf i).toNat)
          case atStart => exact ⟨0, Nat.zero_le _, rfl, Fr.refl _ _⟩
          case round =>
            obtain ⟨t, ht, rfl, HFq⟩ := hrel
            have HMq := Lib.hid (HM10.out.fr HFq.out)
            by_cases htl : t < 2048
            · have hti : (t : Int) < 2048 := by omega
              obtain ⟨b, off, hAb, hc⟩ := (HR10.out.fr HFq.out (fun _ _ _ _ _ _ h => h)).get t (by simp [J3.out]; exact htl)
              rw [ints_get] at hc
              have htb : t < bs3.length := by rw [J3.out]; exact htl
              have HWF : Hid ((Lit.int .u64 (t : Int)).wf = true) := Lib.hid (WalkArith.wf_u64 (by omega))
              subst hAb
              cases hft : f (t : Int) with
              | true =>
                have HFT := Lib.hid hft
                obtain ⟨z, hz⟩ : ∃ z, bs3[t] = z := ⟨_, rfl⟩
                rw [hz] at hc
                clear hz htb
                go_wp2_with (at_lookup; refine wpList_lookup_met rfl _ _ 89 rfl 22 4 .u64 Try.underlying22 Try.underlying89 Try.underlying4 (zero_bool _) w8.heap.size n f rfl HMq.out _ rfl (t : Int) (by first | rfl | omega) HWF.out ?_; rw [hft])
                go_roundw
                case rel => exact ⟨t + 1, by omega, by go_num, HFq⟩
                case measure => simp [intOf]; omega
              | false =>
                have hbz : bs3[t] = fill := by
                  refine J2.out t htb ?_
                  intro a ha hcon
                  have := HFf2.out a ha (t : Int) hcon.1 hcon.2
                  rw [hft] at this
                  exact absurd this (by decide)
                rw [hbz] at hc
                clear hbz htb
                have HFT := Lib.hid hft
                have hff : (fill != fill) = false := by simp
                go_wp2_with (at_lookup; refine wpList_lookup_met rfl _ _ 89 rfl 22 4 .u64 Try.underlying22 Try.underlying89 Try.underlying4 (zero_bool _) w8.heap.size n f rfl HMq.out _ rfl (t : Int) (by first | rfl | omega) HWF.out ?_; rw [hft])
                go_roundw
                case rel => exact ⟨t + 1, by omega, by go_num, HFq⟩
                case measure => simp [intOf]; omega
            · have hti : ¬ (t : Int) < 2048 := by omega
              have hnum := (HX10.out.fr HFq.out (fun h => h) (fun h => h)).num.1
              have hll : ((L.length : Int) == (L.length : Int)) = true := by simp
              go_wp2
              go_ret
              exact ⟨rfl, HF10.out.trans' HFq.out⟩

end Go.Proofs.Ythginpedlfocpaa
