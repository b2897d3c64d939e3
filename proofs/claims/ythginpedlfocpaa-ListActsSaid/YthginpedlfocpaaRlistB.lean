/- Contracts of the reference's lists: Row, All. -/
import Derived.Test.YthginpedlfocpaaRlistA
import Derived.Deep.RegionWith
namespace Go.Proofs.Ythginpedlfocpaa
open Go.RowKit Go.Alo Go.Shelf
attribute [local go_sem] max_ints min_ints

def RowPost (bs : List Int) (h most : Int) (w : World) (e : Ending) (w' : World) : Prop :=
  (match chF bs h most with
   | none => e = .returned (.tuple #[.slice none 0 0, .bool false])
   | some k => ∃ v, e = .returned (.tuple #[v, .bool true]) ∧ w'.ownsRow w.heap.size 22 1 v k (ints .u64 (chL bs h k))) ∧ Fr nil2 w w'

theorem chL_succ (bs : List Int) (h : Int) (k : Nat) : chL bs h (k + 1) = chL bs h k ++ [hd bs h k] := by
  unfold chL
  rw [List.range_succ, List.map_append]; rfl

theorem chL_len (bs : List Int) (h : Int) (k : Nat) : (chL bs h k).length = k := by simp [chL]

set_option maxRecDepth 100000 in
set_option maxHeartbeats 2000000 in
theorem rrow_any (m g : Nat) (bs : List Int) (h most : Int) (w : World) (hm : IsMem 86 w m g bs) (h0 : 0 ≤ h) (h1 : h < 18446744073709551616) :
    Calls Try.prog 58 #[.pointer (some ⟨m, 0, none⟩), .int .u64 h, .int .i64 most] w (RowPost bs h most w) := by
  have HM := Lib.hid hm
  have hobj := hm.obj.cell 0 (by simp)
  simp only [List.getElem_cons_zero] at hobj
  have hl := hm.len
  obtain ⟨i0, hi, hz0, hz1, hz2⟩ := info_parts info_u64
  have hmn : mn most bs.length ≤ bs.length := by rw [mn_eq]; omega
  obtain ⟨R, hR⟩ : ∃ R, mn most bs.length = R := ⟨_, rfl⟩
  have hcf : chF bs h most = chN bs h R.toNat := by unfold chF; rw [hR]
  have HCF := Lib.hid hcf
  rw [hR] at hmn
  clear hm hcf
  go_enter Try.func58, Try.ntmps58
  go_wp2
  clear hobj
  go_loopw [1, 8] (fun hv v wr => ∃ (k : Nat) (a : Int), k ≤ R.toNat ∧ hv = .int .u64 a ∧ 0 ≤ a ∧ a < 18446744073709551616 ∧ Hid (a = hd bs h k) ∧ Hid (wr.ownsRow w.heap.size 22 1 v k (ints .u64 (chL bs h k))) ∧ Hid (chN bs h R.toNat = (chN bs a (R.toNat - k)).map (· + k)) ∧ Hid (Fr nil2 w wr)) (fun _ v _ => match v with | .slice _ n _ => R.toNat - n | _ => 0)
  case atStart => exact ⟨0, h, Nat.zero_le _, rfl, h0, h1, rfl, World.ownsRow_nil _ _ _ _, by unfold Hid; simp, Fr.refl _ _⟩
  case round =>
    obtain ⟨k, a, hk, rfl, ha0, ha1, HA, HO, HC, HF⟩ := hrel
    obtain ⟨A8, c8, rfl, hc8, hm8, -, -⟩ := own_reads HO.out
    have HMr := Lib.hid (HM.out.fr HF.out (fun _ h => h) (fun _ h => h))
    by_cases hz : a = 0
    · have hz' : (a != 0) = false := by simp [hz]
      have hres : chF bs h most = some k := by rw [HCF.out, HC.out, hz, chN_zero]; simp
      have HRES := Lib.hid hres
      clear hz hres
      go_wp2
      go_ret2
      unfold RowPost
      rw [HRES.out]
      exact ⟨⟨_, rfl, HO.out⟩, HF.out⟩
    · have hz' : (a != 0) = true := by simp [hz]
      have HZ := Lib.hid hz
      clear hz
      by_cases hkR : k < R.toNat
      · have hkRI : (k : Int) < R := by omega
        have hk9 : k ≤ 1048576 := by omega
        have hsz := HF.out.size
        go_wp2_with (at_builtin; refine wpList_append_own _ rfl _ _ 33 rfl w.heap.size 22 i0 (.int .u64 0) 1 8 Try.underlying33 hi hz0 hz1 hz2 rfl (by decide) _ _ _ rfl (HO.out.alloc _) ⟨wr.heap.size, 0, none⟩ 1 1 [.int .u64 a] rfl rfl ?c1 ?c2 ?c3 ?c4 ?c5 ?_)
        case c1 => exact cell_one_new _ _ _
        case c2 => simp [Value.oneCell']
        case c3 => unfold maxLen; omega
        case c4 => omega
        case c5 => simp; omega
        intro v' wn hown2 hgrow _
        have HF2 : Hid (Fr nil2 w wn) := Lib.hid ((HF.out.alloc _).grown hgrow (fun q hq => (own_cells HO.out q hq).1))
        have HO2 := Lib.hid hown2
        have HMn := Lib.hid (HM.out.fr HF2.out (fun _ h => h) (fun _ h => h))
        clear hown2 hgrow
        go_wp2_with fail
        refine (rload_any m g bs a wn HMn.out ha0 ha1).mono ?_
        rintro e w2 ⟨rfl, rfl⟩
        rcases ldE_or bs a with he | he
        · have he' : (ldE bs a != 0) = false := by simp [he]
          have HE := Lib.hid he
          obtain ⟨b0, b1⟩ := ldF_bd bs a ha0 HM.out.byt
          have hown : wn.ownsRow w.heap.size 22 1 v' (k + 1) (ints .u64 (chL bs h (k + 1))) := by
            have := HO2.out
            rw [chL_succ, ← HA.out]
            simpa [ints] using this
          have HOW := Lib.hid hown
          obtain ⟨A9, c9, hv9, -, -, -, -⟩ := own_reads hown
          subst hv9
          clear he hown
          go_wp2
          go_roundw
          case rel =>
            refine ⟨k + 1, ldF bs a, by omega, rfl, b0, b1, Lib.hid ?_, HOW, Lib.hid ?_, HF2⟩
            · rw [HA.out]; rfl
            · rw [HC.out, chN_step bs a (R.toNat - k) HZ.out (by omega) HE.out, show R.toNat - k - 1 = R.toNat - (k + 1) from by omega]
              simp only [Option.map_map]
              congr 1
              funext x
              simp only [Function.comp_apply]
              omega
          case measure => simp; omega
        · have he' : (ldE bs a != 0) = true := by simp [he]
          have hres : chF bs h most = none := by rw [HCF.out, HC.out, chN_bad _ _ _ HZ.out (by rw [he]; decide)]; rfl
          have HRES := Lib.hid hres
          clear he hres
          go_wp2
          go_ret2
          unfold RowPost
          rw [HRES.out]
          exact ⟨rfl, HF2.out⟩
      · have hkRI : R ≤ (k : Int) := by omega
        have hres : chF bs h most = none := by rw [HCF.out, HC.out, show R.toNat - k = 0 from by omega, chN_end _ _ HZ.out]; rfl
        have HRES := Lib.hid hres
        clear hres
        go_wp2
        go_ret2
        unfold RowPost
        rw [HRES.out]
        exact ⟨rfl, HF.out⟩

set_option maxRecDepth 100000 in
set_option maxHeartbeats 2000000 in
theorem rall_any (m g lb lo : Nat) (bs : List Int) (h n : Int) (w : World) (hm : IsMem 86 w m g bs) (hl : IsList w lb lo h n) (hn0 : 0 ≤ n) (hn1 : n ≤ 1048576) :
    Calls Try.prog 55 #[.pointer (some ⟨lb, lo, none⟩), .pointer (some ⟨m, 0, none⟩)] w (AllPost m g bs (allF bs h n) w) := by
  have HM := Lib.hid hm
  have HL := Lib.hid hl
  obtain ⟨c1, f1⟩ := hl.head
  obtain ⟨c2, f2⟩ := hl.num
  clear hm hl
  have hd1 : decide (n < 0) = false := by simp; omega
  have hd2 : decide (1048576 < n) = false := by simp; omega
  have HF2 := Lib.hid ((Fr.refl nil2 w).drew)
  have hrr := rrow_any m g bs h n w.drew HM.out.drew HL.out.h0 HL.out.h1
  unfold RowPost at hrr
  cases hc : chF bs h n with
  | none =>
    rw [hc] at hrr
    have HRR := Lib.hid hrr
    have HALL : Hid (allF bs h n = none) := Lib.hid (by unfold allF; rw [hc])
    clear hc hrr
    go_enter Try.func55, Try.ntmps55
    go_wp2
    go_region_with (go_at_call 58; refine HRR.out.mono ?_; rintro e w3 ⟨rfl, hf3⟩; have HF3 := Lib.hid (HF2.out.trans' hf3); clear hf3)
    all_goals
      go_wp2
      go_ret2
      unfold AllPost
      rw [HALL.out]
      exact ⟨rfl, HF3.out⟩
  | some k =>
    rw [hc] at hrr
    have HRR := Lib.hid hrr
    have hall : allF bs h n = if (k : Int) = n then some (chL bs h k) else none := by unfold allF; rw [hc]
    have HALL := Lib.hid hall
    clear hc hrr hall
    by_cases hk : (k : Int) = n
    · have hk' : ((k : Int) != n) = false := by simp [hk]
      have HK := Lib.hid hk
      clear hk
      go_enter Try.func55, Try.ntmps55
      go_wp2
      go_region_with (go_at_call 58; refine HRR.out.mono ?_; rintro e w3 ⟨⟨v, rfl, hown⟩, hf3⟩; have HF3 := Lib.hid (HF2.out.trans' hf3); have HL3 := Lib.hid ((HL.out.fr HF2.out (fun h => h) (fun h => h)).fr hf3 (fun h => h) (fun h => h)); have HO := Lib.hid hown; obtain ⟨A7, c7, rfl, -, -, -, -⟩ := own_reads hown; clear hf3 hown)
      all_goals
        obtain ⟨c3, f3⟩ := HL3.out.num
        go_wp2
        go_ret2
        unfold AllPost
        rw [HALL.out, if_pos HK.out]
        refine ⟨⟨_, rfl, ?_⟩, HF3.out⟩
        have := HO.out
        rw [chL_len]
        exact this
    · have hk' : ((k : Int) != n) = true := by simp [hk]
      have HK := Lib.hid hk
      clear hk
      go_enter Try.func55, Try.ntmps55
      go_wp2
      go_region_with (go_at_call 58; refine HRR.out.mono ?_; rintro e w3 ⟨⟨v, rfl, hown⟩, hf3⟩; have HF3 := Lib.hid (HF2.out.trans' hf3); have HL3 := Lib.hid ((HL.out.fr HF2.out (fun h => h) (fun h => h)).fr hf3 (fun h => h) (fun h => h)); have HO := Lib.hid hown; obtain ⟨A7, c7, rfl, -, -, -, -⟩ := own_reads hown; clear hf3 hown)
      all_goals
        obtain ⟨c3, f3⟩ := HL3.out.num
        go_wp2
        go_ret2
        unfold AllPost
        rw [HALL.out, if_neg HK.out]
        exact ⟨rfl, HF3.out⟩

end Go.Proofs.Ythginpedlfocpaa
