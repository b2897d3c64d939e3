/- ListChains: the walk. -/
import Derived.Test.YthginpedlfocpaaLChainsA
import Derived.StillTailTactics
namespace Go.Proofs.Ythginpedlfocpaa
open Go.RowKit Go.Alo Go.Shelf
attribute [local go_sem] max_ints min_ints

/-- A new list: nothing hangs. -/
theorem list_new (w : World) : IsList (w.alloc (.cells #[.int .u64 0, .int .i64 0] 36)) w.heap.size 0 0 0 :=
  ⟨Cel.of_row (Row.new w 36 [.int .u64 0, .int .i64 0]) 0 (by simp), Cel.of_row (Row.new w 36 [.int .u64 0, .int .i64 0]) 1 (by simp), by decide, by decide⟩

theorem chR_nil (bs : List Int) : chR bs 0 0 = (0, 0, 0) := by
  unfold chR
  rw [OnL.chF (bs := bs) (h := 0) (ls := []) rfl 0 (Nat.zero_le _)]
  simp

set_option maxRecDepth 100000 in
set_option maxHeartbeats 4000000 in
theorem chains_walk (A : Option Addr) (cap : Nat) (l : List Int) (from' : Int) (w : World) (hx : Reads w A (ints .u8 l)) (hb : ∀ a ∈ l, 0 ≤ a ∧ a < 256) (ll : (l.length : Int) ≤ 9223372036854775807) (hf0 : 0 ≤ from') (hf1 : from' < 256) :
    Calls Try.prog 4 #[.slice A l.length cap, .int .u8 from'] w fun e w' => e = .returned (.bool true) ∧ Fr nil2 w w' := by
  have HX := Lib.hid hx
  have HB := Lib.hid hb
  clear hx hb
  have HBL := Lib.hid (blocks_law l)
  obtain ⟨L, hL⟩ : ∃ L, blk (fun _ => false) l = L := ⟨_, rfl⟩
  rw [hL] at HBL
  have HLe := Lib.hid hL
  have hlen := HBL.out.len
  obtain ⟨bs, h, hp, hbl, hh0, hh1, hch, hrg⟩ := chains_law L HBL.out
  have HP := Lib.hid hp
  have HBLEN := Lib.hid hbl
  have HCH := Lib.hid hch
  have HRG := Lib.hid hrg
  clear hL hp hbl hch hrg
  go_enter Try.func4, Try.ntmps4
  go_wp2_with fail
  refine (alive_any w).mono ?_
  rintro e wa ⟨rfl, hfa⟩
  have HFA := Lib.hid hfa
  clear hfa
  go_wp2_with fail
  refine (new_any 2048 wa (by decide) (by decide) (by decide)).mono ?_
  rintro e w1 ⟨rfl, rfl⟩
  have HM := Lib.hid (newMem_is 149 2048 wa (by decide))
  have HF := Lib.hid (HFA.out.trans' (newMem_fr 149 2048 wa nil2))
  have HS1 := Lib.hid (newMem_is 149 2048 wa (by decide)).obj.lt
  obtain ⟨W1, hW1⟩ : ∃ W, newMem 149 2048 wa = W := ⟨_, rfl⟩
  rw [hW1] at HM HF HS1 ⊢
  clear hW1
  go_wp2_with fail
  refine (blocks_any A cap l W1 (HX.out.fr HF.out (fun _ _ _ _ _ _ h => h)) HB.out ll).mono ?_
  rw [HLe.out]
  rintro e w2 ⟨⟨v, rfl, hown⟩, hf2⟩
  obtain ⟨A7, cap7, rfl, hc7, hm7, hr7, -⟩ := own_reads hown
  have HA7 : Hid (∀ b off, A7 = some ⟨b, off, none⟩ → W1.heap.size ≤ b ∧ b < w2.heap.size) := Lib.hid (fun b off e => by subst e; obtain ⟨q1, c, q2⟩ := own_cells hown b rfl; exact ⟨q1, (Array.getElem?_eq_some_iff.1 q2).1⟩)
  have HR2 := Lib.hid hr7
  have HM2 := Lib.hid (HM.out.fr hf2 (fun _ h => h) (fun _ h => h))
  have HF2 := Lib.hid (HF.out.trans' hf2)
  have HS2 := Lib.hid hf2.size
  clear hown hf2 hr7 HM HF
  have HL3 := Lib.hid (list_new w2)
  have hX3 := (Fr.refl nil2 w2).alloc (.cells #[.int .u64 0, .int .i64 0] 36)
  have HM3 := Lib.hid (HM2.out.fr hX3 (fun _ h => h) (fun _ h => h))
  have HR3 := Lib.hid (HR2.out.fr hX3 (fun _ _ _ _ _ _ h => h))
  have HF3 := Lib.hid (HF2.out.trans' hX3)
  clear hX3 HM2 HR2 HF2
  go_wp2_with fail
  have hsw := HFA.out.size
  have HSW := Lib.hid hsw
  have hsg := HM3.out.bytes.lt
  have hs12 : wa.heap.size + 1 < w2.heap.size := by have := HS1.out; have := HS2.out; omega
  have HS12 := Lib.hid hs12
  clear hsw
  refine (push_any _ _ _ 0 cap7 A7 L _ 0 0 _ HM3.out HL3.out (by have := HS12.out; omega) (by have := HS12.out; omega) HR3.out (by intro b off e; have := HA7.out b off e; have := HS1.out; omega) (fun a ha => by have := HBL.out.good a ha; omega) (by decide) (by omega)).mono ?_
  rw [HP.out]
  rintro e w4 ⟨rfl, hm4, hl4, hf4⟩
  have HM4 := Lib.hid hm4
  have HL4 := Lib.hid hl4
  have HF4 := Lib.hid (HF3.out.step hf4 (by intro i o hi h; have := HSW.out; have := HS12.out; unfold LS at h; omega))
  have HR4 := Lib.hid (HR3.out.fr hf4 (by intro b off o e _ _ h; have := HA7.out b off e; have := HS1.out; unfold LS at h; omega))
  have HS4 := Lib.hid hf4.size
  rw [World.size_alloc] at HS4
  clear hm4 hl4 hf4 HM3 HL3 HF3 HR3 hs12 hsg
  go_wp2_with fail
  refine (chain_any _ _ bs 0 0 _ HM4.out (by decide) (by decide)).mono ?_
  unfold ChainPost
  rw [chR_nil]
  rintro e w5 ⟨rfl, hf5⟩
  have HM5 := Lib.hid (HM4.out.fr hf5 (fun _ h => h) (fun _ h => h))
  have HL5 := Lib.hid (HL4.out.fr hf5 (fun h => h) (fun h => h))
  have HF5 := Lib.hid (HF4.out.trans' hf5)
  have HR5 := Lib.hid (HR4.out.fr hf5 (fun _ _ _ _ _ _ h => h))
  have HS5 := Lib.hid hf5.size
  clear hf5 HM4 HL4 HF4 HR4
  by_cases hn : L.length = 0
  · have hn' : ((L.length : Int) == 0) = true := by simp [hn]
    have HN := Lib.hid hn
    clear hn
    go_wp2
    go_ret
    exact ⟨rfl, HF5.out.alloc _⟩
  · have hn' : ((L.length : Int) == 0) = false := by simp [hn]
    have hpos : 0 < L.length := by omega
    have hposi : (0 : Int) < (L.length : Int) := by omega
    obtain ⟨k, hk⟩ : ∃ k : Nat, from' % (L.length : Int) = (k : Int) := ⟨(from' % (L.length : Int)).toNat, by have := Int.emod_nonneg from' (by omega : (L.length : Int) ≠ 0); omega⟩
    have hkl : k < L.length := by have := Int.emod_lt_of_pos from' hposi; omega
    obtain ⟨b7, off7, hb7, hck⟩ := HR5.out.get k (by simpa using hkl)
    obtain ⟨b7', off7', hb7', hc0⟩ := HR5.out.get 0 (by simpa using hpos)
    rw [ints_get] at hck hc0
    rw [Nat.add_zero] at hc0
    rw [hb7] at hb7'
    obtain ⟨rfl, rfl⟩ : b7 = b7' ∧ off7 = off7' := by injection hb7' with e; injection e with e1 e2; exact ⟨e1, e2⟩
    clear hb7'
    subst hb7
    obtain ⟨p, hpk⟩ : ∃ p, L[k] = p := ⟨_, rfl⟩
    obtain ⟨q, hq0⟩ : ∃ q, L[0] = q := ⟨_, rfl⟩
    have hgp := HBL.out.good L[k] (List.getElem_mem hkl)
    have hgq := HBL.out.good L[0] (List.getElem_mem hpos)
    obtain ⟨e1, e2, e3⟩ := HCH.out k hkl
    obtain ⟨e4, e5⟩ := HRG.out hpos
    rw [hpk] at hck hgp e1 e2 e3
    rw [hq0] at hc0 hgq e4 e5
    obtain ⟨-, hp0, -, hp1⟩ := hgp
    obtain ⟨-, hq0', hq2, hq1⟩ := hgq
    have E1 := Lib.hid e1
    have E2 := Lib.hid e2
    have E3 := Lib.hid e3
    have E4 := Lib.hid e4
    have E5 := Lib.hid e5
    have HPK := Lib.hid hpk
    have HQ0 := Lib.hid hq0
    have HN := Lib.hid hn
    have HK := Lib.hid hk
    have hX6 := (Fr.refl nil2 w5).alloc (.cells #[.int .u64 0, .int .i64 0] 36)
    have hck6 := hX6.cell hck (fun h => h)
    have hc06 := hX6.cell hc0 (fun h => h)
    have HM6 := Lib.hid (HM5.out.fr hX6 (fun _ h => h) (fun _ h => h))
    have HL6 := Lib.hid (HL5.out.fr hX6 (fun h => h) (fun h => h))
    have HF6 := Lib.hid (HF5.out.trans' hX6)
    have HR6 := Lib.hid (HR5.out.fr hX6 (fun _ _ _ _ _ _ h => h))
    clear hn e1 e2 e3 e4 e5 hpk hq0 hk hX6 hck hc0 HM5 HL5 HF5 HR5
    go_wp2_with ((with_reducible refine gate (N := 62) rfl ?_); rw [HK.out])
    refine (chain_any _ _ bs p ((k : Int) + 1) _ HM6.out hp0 hp1).mono ?_
    unfold ChainPost
    rw [E1.out]
    rintro e w6 ⟨rfl, hf6⟩
    have hY := hf6.alloc (.cells #[.int .u64 p, .int .i64 ((k : Int) + 1)] 36)
    have hck7 := hY.cell hck6 (fun h => h)
    have hc07 := hY.cell hc06 (fun h => h)
    have HM7 := Lib.hid (HM6.out.fr hY (fun _ h => h) (fun _ h => h))
    have HL7 := Lib.hid (HL6.out.fr hY (fun h => h) (fun h => h))
    have HF7 := Lib.hid (HF6.out.trans' hY)
    have HS6 := Lib.hid hf6.size
    rw [World.size_alloc] at HS6
    have HC7 : Hid (IsList (w6.alloc (.cells #[.int .u64 p, .int .i64 ((k : Int) + 1)] 36)) w6.heap.size 0 p ((k : Int) + 1)) :=
      Lib.hid ⟨Cel.of_row (Row.new w6 36 [.int .u64 p, .int .i64 ((k : Int) + 1)]) 0 (by simp), Cel.of_row (Row.new w6 36 [.int .u64 p, .int .i64 ((k : Int) + 1)]) 1 (by simp), hp0, hp1⟩
    clear hY hf6 hck6 hc06 HM6 HL6 HF6 HR6
    go_wp2_with fail
    refine (chain_any _ _ bs p (k : Int) _ HM7.out hp0 hp1).mono ?_
    unfold ChainPost
    rw [E2.out]
    rintro e w7 ⟨rfl, hf7⟩
    have hY := hf7.alloc (.cells #[.int .u64 0, .int .i64 0] 36)
    have hck8 := hY.cell hck7 (fun h => h)
    have hc08 := hY.cell hc07 (fun h => h)
    have HM8 := Lib.hid (HM7.out.fr hY (fun _ h => h) (fun _ h => h))
    have HL8 := Lib.hid (HL7.out.fr hY (fun h => h) (fun h => h))
    have HF8 := Lib.hid (HF7.out.trans' hY)
    have HC8 := Lib.hid (HC7.out.fr hY (fun h => h) (fun h => h))
    clear hY hf7 hck7 hc07 HM7 HL7 HF7 HC7
    go_wp2_with fail
    refine (all_any _ _ _ _ _ _ _ _ HM8.out HC8.out (by rw [HBLEN.out]; decide)).mono ?_
    rw [E3.out]
    rintro e w9 ⟨⟨v, rfl, hown⟩, hf9⟩
    have hll : (L.take (k + 1)).reverse.length = k + 1 := by simp; omega
    rw [hll] at hown
    obtain ⟨A16, cap16, rfl, hc16, hm16, hr16, -⟩ := own_reads hown
    obtain ⟨b16, off16, hb16, ha0⟩ := hr16.get 0 (by simp; omega)
    obtain ⟨b16', off16', hb16', hak⟩ := hr16.get k (by simp; omega)
    rw [ints_get] at ha0 hak
    rw [Nat.add_zero] at ha0
    rw [hb16] at hb16'
    obtain ⟨rfl, rfl⟩ : b16 = b16' ∧ off16 = off16' := by injection hb16' with e; injection e with e1 e2; exact ⟨e1, e2⟩
    clear hb16'
    subst hb16
    have r0 : (L.take (k + 1)).reverse[0]'(by simp; omega) = p := by
      rw [List.getElem_reverse, List.getElem_take, ← HPK.out]
      congr 1
      simp; omega
    have rk : (L.take (k + 1)).reverse[k]'(by simp; omega) = q := by
      rw [List.getElem_reverse, List.getElem_take, ← HQ0.out]
      congr 1
      simp; omega
    rw [r0] at ha0
    rw [rk] at hak
    have hck9 := hf9.cell hck8 (fun h => h)
    have hc09 := hf9.cell hc08 (fun h => h)
    have HM9 := Lib.hid (HM8.out.fr hf9 (fun _ h => h) (fun _ h => h))
    have HL9 := Lib.hid (HL8.out.fr hf9 (fun h => h) (fun h => h))
    have HF9 := Lib.hid (HF8.out.trans' hf9)
    have HC9 := Lib.hid (HC8.out.fr hf9 (fun h => h) (fun h => h))
    have hcc := HC9.out.num.1
    clear hf9 hck8 hc08 HM8 HL8 HF8 HC8 hown hr16 r0 rk hll
    go_wp2
    go_quiet (fail)
    go_wp2
    obtain ⟨W10, hW10⟩ : ∃ W, w9.drewN nq = W := ⟨_, rfl⟩
    have HM10 := Lib.hid (HM9.out.drewN nq)
    have HL10 := Lib.hid (HL9.out.fr ((Fr.refl nil2 w9).drewN nq) (fun h => h) (fun h => h))
    have HF10 := Lib.hid (HF9.out.drewN nq)
    have hc10 : (w9.drewN nq).cell? ⟨b7, off7, none⟩ = some (.int .u64 q) := hc09
    rw [hW10] at HM10 HL10 HF10 hc10 ⊢
    have hh10 := HL10.out.head.1
    clear hW10 hc09 hck9 HM9 HL9 HF9 HC9 hcc ha0 hak
    go_still_tail 6, (by kernel_rfl)
    change wpList _ _ _ _ _ W10.drew
    have HM11 := Lib.hid HM10.out.drew
    have HL11 := Lib.hid (HL10.out.fr ((Fr.refl nil2 W10).drew) (fun h => h) (fun h => h))
    have HF11 := Lib.hid HF10.out.drew
    obtain ⟨W11, hW11⟩ : ∃ W, W10.drew = W := ⟨_, rfl⟩
    rw [hW11] at HM11 HL11 HF11 ⊢
    clear hW11 HM10 HL10 HF10 hh10 hc10
    go_wp2_with fail
    refine (store_any _ _ bs q h _ HM11.out hq0' hh0 hh1).mono ?_
    rintro e w12 ⟨rfl, hm12, hf12⟩
    have HM12 := Lib.hid hm12
    have HL12 := Lib.hid (HL11.out.fr hf12 (by have := HS12.out; omega) (by have := HS12.out; omega))
    have HF12 := Lib.hid (HF11.out.step hf12 (by intro i o hi h; have := HSW.out; omega))
    clear hm12 hf12 HM11 HL11 HF11
    have hh12 := HL12.out.head.1
    go_wp2_with fail
    refine (chain_any _ _ _ h 100000 _ HM12.out hh0 hh1).mono ?_
    unfold ChainPost
    rw [E4.out]
    rintro e w13 ⟨rfl, hf13⟩
    have hY := hf13.alloc (.cells #[.int .u64 0, .int .i64 0] 36)
    have HM13 := Lib.hid (HM12.out.fr hY (fun _ h => h) (fun _ h => h))
    have HL13 := Lib.hid (HL12.out.fr hY (fun h => h) (fun h => h))
    have HF13 := Lib.hid (HF12.out.trans' hY)
    clear hY hf13 HM12 HL12 HF12 hh12
    go_wp2_with fail
    refine (all_any _ _ _ _ _ _ _ _ HM13.out HL13.out (by rw [stF_len _ _ _ hq0', HBLEN.out]; decide)).mono ?_
    rw [E5.out]
    rintro e w14 ⟨rfl, hf14⟩
    have HF14 := Lib.hid (HF13.out.trans' hf14)
    clear hf14
    go_wp2
    go_ret
    exact ⟨rfl, HF14.out⟩

end Go.Proofs.Ythginpedlfocpaa
