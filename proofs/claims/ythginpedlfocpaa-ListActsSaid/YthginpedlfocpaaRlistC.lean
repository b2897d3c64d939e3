/- Contracts of lists: Join of two lists in one block; of a list with itself; the reference's Join. -/
import Derived.Test.YthginpedlfocpaaRlistB
import Derived.Test.YthginpedlfocpaaJoin
namespace Go.Proofs.Ythginpedlfocpaa
open Go.RowKit Go.Alo Go.Shelf
attribute [local go_sem] max_ints min_ints

set_option maxRecDepth 100000 in
set_option maxHeartbeats 1000000 in
theorem join_self (m lb lo : Nat) (w : World) : Calls Try.prog 34 #[.pointer (some ⟨lb, lo, none⟩), .pointer (some ⟨m, 0, none⟩), .pointer (some ⟨lb, lo, none⟩)] w fun e w' => e = .returned (.int .i64 2) ∧ w = w' := by
  obtain ⟨i, hi⟩ : ∃ i, Try.prog.info? 36 = some i := by
    have := info_list
    cases hq : Try.prog.info? 36 with
    | none => rw [hq] at this; simp at this
    | some i0 => exact ⟨i0, rfl⟩
  have heq := run_eql_ptr_same (P := Try.prog) w (⟨lb, lo, none⟩ : Addr) Try.underlying48 hi
  clear hi
  go_enter Try.func34, Try.ntmps34
  go_wp2
  go_ret
  exact ⟨rfl, rfl⟩

set_option maxRecDepth 100000 in
set_option maxHeartbeats 2000000 in
theorem join2_any (m g lb lo lo2 : Nat) (bs : List Int) (h n h2 n2 : Int) (w : World) (hm : IsMem 149 w m g bs) (hl : IsList w lb lo h n) (hl2 : IsList w lb lo2 h2 n2) (hlm : lb ≠ m) (hlg : lb ≠ g) (hd : lo + 1 < lo2 ∨ lo2 + 1 < lo) (hfl : Flat w lb) (hbig : bs.length ≤ 1000000000) (hn0 : 0 ≤ n) (hn1 : n ≤ 1000000000) :
    Calls Try.prog 34 #[.pointer (some ⟨lb, lo, none⟩), .pointer (some ⟨m, 0, none⟩), .pointer (some ⟨lb, lo2, none⟩)] w (JoinPost m g lb lo lb lo2 (joinF bs h n h2 n2) w) := by
  have HM := Lib.hid hm
  have HL := Lib.hid hl
  have HK := Lib.hid hl2
  obtain ⟨c1, f1⟩ := hl.head
  obtain ⟨c2, f2⟩ := hl.num
  obtain ⟨c3, f3⟩ := hl2.head
  obtain ⟨c4, f4⟩ := hl2.num
  clear hm hl hl2
  have q1 : ¬ lo2 = lo := by omega
  have q2 : ¬ lo = lo2 := by omega
  have q3 : ¬ lo2 = lo + 1 := by omega
  have q4 : ¬ lo + 1 = lo2 := by omega
  have q5 : ¬ lo2 + 1 = lo := by omega
  have q6 : ¬ lo = lo2 + 1 := by omega
  have hpe := ptr_eq lb lo lb lo2 w hfl hfl (fun h => q2 h.2)
  go_enter Try.func34, Try.ntmps34
  go_wp2_with fail
  have hall := (all_any m g lb lo2 bs h2 n2 w HM.out HK.out hbig)
  cases hA : allF bs h2 n2 with
  | none =>
    rw [hA] at hall
    refine hall.mono ?_
    rintro e w1 ⟨rfl, hf1⟩
    have HF1 := Lib.hid hf1
    have HA := Lib.hid hA
    clear hf1 hall hA
    go_wp2
    go_ret
    unfold JoinPost joinF
    rw [HA.out]
    exact ⟨rfl, HM.out.fr HF1.out (fun _ h => h) (fun _ h => h), HL.out.fr HF1.out (fun h => h) (fun h => h), HK.out.fr HF1.out (fun h => h) (fun h => h), HF1.out.mono (fun _ _ _ h => h.elim)⟩
  | some ls =>
    rw [hA] at hall
    refine hall.mono ?_
    rintro e w1 ⟨⟨v, rfl, hown⟩, hf1⟩
    obtain ⟨A7, cap7, rfl, hc7, hm7, hr7, -⟩ := own_reads hown
    have HA := Lib.hid hA
    have HF1 := Lib.hid hf1
    have HM1 := Lib.hid (HM.out.fr hf1 (fun _ h => h) (fun _ h => h))
    have HL1 := Lib.hid (HL.out.fr hf1 (fun h => h) (fun h => h))
    have HK1 := Lib.hid (HK.out.fr hf1 (fun h => h) (fun h => h))
    have HR1 := Lib.hid hr7
    clear hA hf1 hall hown hr7 c1 f1 c2 f2 c3 f3 c4 f4
    obtain ⟨c1, f1⟩ := HL1.out.head
    obtain ⟨c2, f2⟩ := HL1.out.num
    obtain ⟨c3, f3⟩ := HK1.out.head
    obtain ⟨c4, f4⟩ := HK1.out.num
    by_cases hz : ls.length = 0
    · have hz' : decide ((0 : Int) < (ls.length : Int)) = false := by simp [hz]
      have hls : ls = [] := List.eq_nil_of_length_eq_zero hz
      have HLS := Lib.hid hls
      have hz0 : (ls.length : Int) = 0 := by omega
      clear hz hls
      go_wp2
      go_ret
      unfold JoinPost joinF
      rw [HA.out, HLS.out]
      have hf : Fr (LL lb lo2) w1 ((w1.setCell ⟨lb, lo2, none⟩ (.int .u64 0)).setCell ⟨lb, lo2 + 1, none⟩ (.int .i64 0)) := ((Fr.refl (LL lb lo2) w1).setCell lb lo2 (fun _ => ⟨rfl, .inl rfl⟩) _).setCell lb (lo2 + 1) (fun _ => ⟨rfl, .inr rfl⟩) _
      have hf' : Fr (JS g lb lo lb lo2) w1 ((w1.setCell ⟨lb, lo2, none⟩ (.int .u64 0)).setCell ⟨lb, lo2 + 1, none⟩ (.int .i64 0)) := ((Fr.refl (JS g lb lo lb lo2) w1).setCell lb lo2 (fun _ => .inr (.inr ⟨rfl, .inl rfl⟩)) _).setCell lb (lo2 + 1) (fun _ => .inr (.inr ⟨rfl, .inr rfl⟩)) _
      exact ⟨rfl, HM1.out.fr hf (fun _ e => hlm e.1.symm) (fun _ e => hlg e.1.symm), HL1.out.fr hf (by unfold LL; omega) (by unfold LL; omega), HK1.out.turn 0 0 (by decide) (by decide), (HF1.out.mono (fun _ _ _ h => h.elim)).step hf' (fun _ _ _ h => h)⟩
    · have hpos : (0 : Int) < (ls.length : Int) := by omega
      have hposn : ls.length - 1 < ls.length := by omega
      obtain ⟨b, off, hAb, hc⟩ := HR1.out.get (ls.length - 1) (by simpa using hposn)
      rw [ints_get] at hc
      obtain ⟨p1, p2, p3, p4⟩ := allF_last HA.out HK.out.h0 HK.out.h1 HM.out.byt (ls.length - 1) hposn
      have hgl : ls.getLast? = some ls[ls.length - 1] := by rw [List.getLast?_eq_getElem?, List.getElem?_eq_getElem]
      obtain ⟨x, hx⟩ : ∃ x, ls[ls.length - 1] = x := ⟨_, rfl⟩
      rw [hx] at hc p1 p2 p3 p4 hgl
      have HQ1 := Lib.hid p1
      have HGL := Lib.hid hgl
      subst hAb
      obtain ⟨q, hq⟩ : ∃ q, ls.length = q + 1 := ⟨ls.length - 1, by omega⟩
      have hbq : q < 1000000000 := by have := (allF_len HA.out).2; omega
      have HQ := Lib.hid hq
      rw [hq, Nat.add_sub_cancel] at hc
      rw [hq] at hc7 ⊢
      clear hz p1 p4 hx hgl hq hpos hposn
      go_wp2
      have hwq : IntKind.i64.wrap (q : Int) = (q : Int) := by rw [IntKind.wrap_i64]; omega
      have hb1 : (q : Int) < ((q + 1 : Nat) : Int) := by omega
      have hb2 : (q : Int) < (q : Int) + 1 := by omega
      have hb3 : (0 : Int) ≤ (q : Int) := by omega
      have hb4 : q < q + 1 := by omega
      go_still_tail 10, (by kernel_rfl)
      change wpList _ _ _ _ _ w1.drew
      have HM2 := Lib.hid HM1.out.drew
      have HL2 := Lib.hid (HL1.out.fr ((Fr.refl nil2 w1).drew) (fun h => h) (fun h => h))
      have HK2 := Lib.hid (HK1.out.fr ((Fr.refl nil2 w1).drew) (fun h => h) (fun h => h))
      have HF2 := Lib.hid HF1.out.drew
      obtain ⟨W2, hW2⟩ : ∃ W, w1.drew = W := ⟨_, rfl⟩
      rw [hW2] at HM2 HL2 HK2 HF2 ⊢
      clear hW2 c1 f1 c2 f2 c3 f3 c4 f4 hwq hb1 hb2 hb3 hb4 hc
      go_wp2_with fail
      refine (store_any _ _ bs x h _ HM2.out p2 HL2.out.h0 HL2.out.h1).mono ?_
      rw [HQ1.out]
      rintro e w3 ⟨rfl, hm3, hf3⟩
      have HM3 := Lib.hid hm3
      have HL3 := Lib.hid (HL2.out.fr hf3 hlg hlg)
      have HK3 := Lib.hid (HK2.out.fr hf3 hlg hlg)
      have HF3 := Lib.hid ((HF2.out.mono (T := JS g lb lo lb lo2) (fun _ _ _ h => h.elim)).step hf3 (by intro i o hi hs; exact .inl hs))
      clear hm3 hf3
      obtain ⟨c1, f1⟩ := HL3.out.head
      obtain ⟨c2, f2⟩ := HL3.out.num
      obtain ⟨c3, f3⟩ := HK3.out.head
      obtain ⟨c4, f4⟩ := HK3.out.num
      have hwn : IntKind.i64.wrap (n + ((q : Int) + 1)) = n + ((q : Int) + 1) := by rw [IntKind.wrap_i64]; omega
      go_wp2
      go_region
      go_wp2
      go_ret
      have hk0 := HK.out.h0
      have hk1 := HK.out.h1
      have T1 := HL3.out.turn h2 (n + ((q : Int) + 1)) hk0 hk1
      have fA : Fr (LL lb lo) w3 (((w3.setCell ⟨lb, lo, none⟩ (.int .u64 h2)).setCell ⟨lb, lo + 1, none⟩ (.int .i64 (n + ((q : Int) + 1)))).drew) := (((Fr.refl (LL lb lo) w3).setCell lb lo (fun _ => ⟨rfl, .inl rfl⟩) _).setCell lb (lo + 1) (fun _ => ⟨rfl, .inr rfl⟩) _).drew
      have fA' : Fr (JS g lb lo lb lo2) w3 (((w3.setCell ⟨lb, lo, none⟩ (.int .u64 h2)).setCell ⟨lb, lo + 1, none⟩ (.int .i64 (n + ((q : Int) + 1)))).drew) := (((Fr.refl (JS g lb lo lb lo2) w3).setCell lb lo (fun _ => .inr (.inl ⟨rfl, .inl rfl⟩)) _).setCell lb (lo + 1) (fun _ => .inr (.inl ⟨rfl, .inr rfl⟩)) _).drew
      have T1' : IsList (((w3.setCell ⟨lb, lo, none⟩ (.int .u64 h2)).setCell ⟨lb, lo + 1, none⟩ (.int .i64 (n + ((q : Int) + 1)))).drew) lb lo h2 (n + ((q : Int) + 1)) := T1.fr ((Fr.refl nil2 _).drew) (fun h => h) (fun h => h)
      have K1 := HK3.out.fr fA (by unfold LL; omega) (by unfold LL; omega)
      have M1 := HM3.out.fr fA (fun _ e => hlm e.1.symm) (fun _ e => hlg e.1.symm)
      have F1 := HF3.out.step fA' (fun _ _ _ h => h)
      have key : ∀ w4 : World, IsMem 149 w4 m g (stF bs x h) → IsList w4 lb lo h2 (n + ((q : Int) + 1)) → IsList w4 lb lo2 h2 n2 → Fr (JS g lb lo lb lo2) w w4 →
          JoinPost m g lb lo lb lo2 (joinF bs h n h2 n2) w (.returned (.int .i64 0)) ((w4.setCell ⟨lb, lo2, none⟩ (.int .u64 0)).setCell ⟨lb, lo2 + 1, none⟩ (.int .i64 0)) := by
        intro w4 M1 T1 K1 F1
        have fB : Fr (LL lb lo2) w4 ((w4.setCell ⟨lb, lo2, none⟩ (.int .u64 0)).setCell ⟨lb, lo2 + 1, none⟩ (.int .i64 0)) := ((Fr.refl (LL lb lo2) w4).setCell lb lo2 (fun _ => ⟨rfl, .inl rfl⟩) _).setCell lb (lo2 + 1) (fun _ => ⟨rfl, .inr rfl⟩) _
        have fB' : Fr (JS g lb lo lb lo2) w4 ((w4.setCell ⟨lb, lo2, none⟩ (.int .u64 0)).setCell ⟨lb, lo2 + 1, none⟩ (.int .i64 0)) := ((Fr.refl (JS g lb lo lb lo2) w4).setCell lb lo2 (fun _ => .inr (.inr ⟨rfl, .inl rfl⟩)) _).setCell lb (lo2 + 1) (fun _ => .inr (.inr ⟨rfl, .inr rfl⟩)) _
        unfold JoinPost joinF
        rw [HA.out]
        simp only [HGL.out]
        refine ⟨trivial, M1.fr fB (fun _ e => hlm e.1.symm) (fun _ e => hlg e.1.symm), ?_, K1.turn 0 0 (by decide) (by decide), F1.step fB' (fun _ _ _ h => h)⟩
        rw [HQ.out, show (((q + 1 : Nat)) : Int) = (q : Int) + 1 from by omega]
        exact T1.fr fB (by unfold LL; omega) (by unfold LL; omega)
      exact key _ M1 T1' K1 F1

def RJoinPost (m g lb lo lb2 lo2 : Nat) (r : List Int × (Int × Int) × (Int × Int) × Int) (w : World) (e : Ending) (w' : World) : Prop :=
  e = .returned (.int .i64 r.2.2.2) ∧ IsMem 86 w' m g r.1 ∧ IsList w' lb lo r.2.1.1 r.2.1.2 ∧ IsList w' lb2 lo2 r.2.2.1.1 r.2.2.1.2 ∧ Fr (JS g lb lo lb2 lo2) w w'

set_option maxRecDepth 100000 in
set_option maxHeartbeats 2000000 in
theorem rjoin2_any (m g lb lo lo2 : Nat) (bs : List Int) (h n h2 n2 : Int) (w : World) (hm : IsMem 86 w m g bs) (hl : IsList w lb lo h n) (hl2 : IsList w lb lo2 h2 n2) (hlm : lb ≠ m) (hlg : lb ≠ g) (hd : lo + 1 < lo2 ∨ lo2 + 1 < lo) (hbig : bs.length ≤ 1000000000) (hm0 : 0 ≤ n2) (hm1 : n2 ≤ 1048576) (hn0 : 0 ≤ n) (hn1 : n ≤ 1000000000) :
    Calls Try.prog 56 #[.pointer (some ⟨lb, lo, none⟩), .pointer (some ⟨m, 0, none⟩), .pointer (some ⟨lb, lo2, none⟩)] w (RJoinPost m g lb lo lb lo2 (joinF bs h n h2 n2) w) := by
  have HM := Lib.hid hm
  have HL := Lib.hid hl
  have HK := Lib.hid hl2
  obtain ⟨c1, f1⟩ := hl.head
  obtain ⟨c2, f2⟩ := hl.num
  obtain ⟨c3, f3⟩ := hl2.head
  obtain ⟨c4, f4⟩ := hl2.num
  clear hm hl hl2
  have q1 : ¬ lo2 = lo := by omega
  have q2 : ¬ lo = lo2 := by omega
  have q3 : ¬ lo2 = lo + 1 := by omega
  have q4 : ¬ lo + 1 = lo2 := by omega
  have q5 : ¬ lo2 + 1 = lo := by omega
  have q6 : ¬ lo = lo2 + 1 := by omega
  go_enter Try.func56, Try.ntmps56
  go_wp2_with fail
  have hall := (rall_any m g lb lo2 bs h2 n2 w HM.out HK.out hm0 hm1)
  cases hA : allF bs h2 n2 with
  | none =>
    rw [hA] at hall
    refine hall.mono ?_
    rintro e w1 ⟨rfl, hf1⟩
    have HF1 := Lib.hid hf1
    have HA := Lib.hid hA
    clear hf1 hall hA
    go_wp2
    go_ret
    unfold RJoinPost joinF
    rw [HA.out]
    exact ⟨rfl, HM.out.fr HF1.out (fun _ h => h) (fun _ h => h), HL.out.fr HF1.out (fun h => h) (fun h => h), HK.out.fr HF1.out (fun h => h) (fun h => h), HF1.out.mono (fun _ _ _ h => h.elim)⟩
  | some ls =>
    rw [hA] at hall
    refine hall.mono ?_
    rintro e w1 ⟨⟨v, rfl, hown⟩, hf1⟩
    obtain ⟨A7, cap7, rfl, hc7, hm7, hr7, -⟩ := own_reads hown
    have HA := Lib.hid hA
    have HF1 := Lib.hid hf1
    have HM1 := Lib.hid (HM.out.fr hf1 (fun _ h => h) (fun _ h => h))
    have HL1 := Lib.hid (HL.out.fr hf1 (fun h => h) (fun h => h))
    have HK1 := Lib.hid (HK.out.fr hf1 (fun h => h) (fun h => h))
    have HR1 := Lib.hid hr7
    clear hA hf1 hall hown hr7 c1 f1 c2 f2 c3 f3 c4 f4
    obtain ⟨c1, f1⟩ := HL1.out.head
    obtain ⟨c2, f2⟩ := HL1.out.num
    obtain ⟨c3, f3⟩ := HK1.out.head
    obtain ⟨c4, f4⟩ := HK1.out.num
    by_cases hz : ls.length = 0
    · have hz' : decide ((0 : Int) < (ls.length : Int)) = false := by simp [hz]
      have hls : ls = [] := List.eq_nil_of_length_eq_zero hz
      have HLS := Lib.hid hls
      have hz0 : (ls.length : Int) = 0 := by omega
      clear hz hls
      go_wp2
      go_ret
      unfold RJoinPost joinF
      rw [HA.out, HLS.out]
      have hf : Fr (LL lb lo2) w1 ((w1.setCell ⟨lb, lo2, none⟩ (.int .u64 0)).setCell ⟨lb, lo2 + 1, none⟩ (.int .i64 0)) := ((Fr.refl (LL lb lo2) w1).setCell lb lo2 (fun _ => ⟨rfl, .inl rfl⟩) _).setCell lb (lo2 + 1) (fun _ => ⟨rfl, .inr rfl⟩) _
      have hf' : Fr (JS g lb lo lb lo2) w1 ((w1.setCell ⟨lb, lo2, none⟩ (.int .u64 0)).setCell ⟨lb, lo2 + 1, none⟩ (.int .i64 0)) := ((Fr.refl (JS g lb lo lb lo2) w1).setCell lb lo2 (fun _ => .inr (.inr ⟨rfl, .inl rfl⟩)) _).setCell lb (lo2 + 1) (fun _ => .inr (.inr ⟨rfl, .inr rfl⟩)) _
      exact ⟨rfl, HM1.out.fr hf (fun _ e => hlm e.1.symm) (fun _ e => hlg e.1.symm), HL1.out.fr hf (by unfold LL; omega) (by unfold LL; omega), HK1.out.turn 0 0 (by decide) (by decide), (HF1.out.mono (fun _ _ _ h => h.elim)).step hf' (fun _ _ _ h => h)⟩
    · have hpos : (0 : Int) < (ls.length : Int) := by omega
      have hposn : ls.length - 1 < ls.length := by omega
      obtain ⟨b, off, hAb, hc⟩ := HR1.out.get (ls.length - 1) (by simpa using hposn)
      rw [ints_get] at hc
      obtain ⟨p1, p2, p3, p4⟩ := allF_last HA.out HK.out.h0 HK.out.h1 HM.out.byt (ls.length - 1) hposn
      have hgl : ls.getLast? = some ls[ls.length - 1] := by rw [List.getLast?_eq_getElem?, List.getElem?_eq_getElem]
      obtain ⟨x, hx⟩ : ∃ x, ls[ls.length - 1] = x := ⟨_, rfl⟩
      rw [hx] at hc p1 p2 p3 p4 hgl
      have HQ1 := Lib.hid p1
      have HGL := Lib.hid hgl
      subst hAb
      obtain ⟨q, hq⟩ : ∃ q, ls.length = q + 1 := ⟨ls.length - 1, by omega⟩
      have hbq : q < 1000000000 := by have := (allF_len HA.out).2; omega
      have HQ := Lib.hid hq
      rw [hq, Nat.add_sub_cancel] at hc
      rw [hq] at hc7 ⊢
      clear hz p1 p4 hx hgl hq hpos hposn
      go_wp2
      have hwq : IntKind.i64.wrap (q : Int) = (q : Int) := by rw [IntKind.wrap_i64]; omega
      have hb1 : (q : Int) < ((q + 1 : Nat) : Int) := by omega
      have hb2 : (q : Int) < (q : Int) + 1 := by omega
      have hb3 : (0 : Int) ≤ (q : Int) := by omega
      have hb4 : q < q + 1 := by omega
      go_still_tail 11, (by kernel_rfl)
      change wpList _ _ _ _ _ w1.drew
      have HM2 := Lib.hid HM1.out.drew
      have HL2 := Lib.hid (HL1.out.fr ((Fr.refl nil2 w1).drew) (fun h => h) (fun h => h))
      have HK2 := Lib.hid (HK1.out.fr ((Fr.refl nil2 w1).drew) (fun h => h) (fun h => h))
      have HF2 := Lib.hid HF1.out.drew
      obtain ⟨W2, hW2⟩ : ∃ W, w1.drew = W := ⟨_, rfl⟩
      rw [hW2] at HM2 HL2 HK2 HF2 ⊢
      clear hW2 c1 f1 c2 f2 c3 f3 c4 f4 hwq hb1 hb2 hb3 hb4 hc
      go_wp2_with fail
      refine (rstore_any _ _ bs x h _ HM2.out p2 p3 HL2.out.h0 HL2.out.h1).mono ?_
      rw [HQ1.out]
      rintro e w3 ⟨rfl, hm3, hf3⟩
      have HM3 := Lib.hid hm3
      have HL3 := Lib.hid (HL2.out.fr hf3 hlg hlg)
      have HK3 := Lib.hid (HK2.out.fr hf3 hlg hlg)
      have HF3 := Lib.hid ((HF2.out.mono (T := JS g lb lo lb lo2) (fun _ _ _ h => h.elim)).step hf3 (by intro i o hi hs; exact .inl hs))
      clear hm3 hf3
      obtain ⟨c1, f1⟩ := HL3.out.head
      obtain ⟨c2, f2⟩ := HL3.out.num
      obtain ⟨c3, f3⟩ := HK3.out.head
      obtain ⟨c4, f4⟩ := HK3.out.num
      have hwn : IntKind.i64.wrap (n + n2) = n + n2 := by rw [IntKind.wrap_i64]; omega
      go_wp2
      go_region
      go_wp2
      go_ret
      have hk0 := HK.out.h0
      have hk1 := HK.out.h1
      have T1 := HL3.out.turn h2 (n + n2) hk0 hk1
      have fA : Fr (LL lb lo) w3 (((w3.setCell ⟨lb, lo, none⟩ (.int .u64 h2)).setCell ⟨lb, lo + 1, none⟩ (.int .i64 (n + n2))).drew) := (((Fr.refl (LL lb lo) w3).setCell lb lo (fun _ => ⟨rfl, .inl rfl⟩) _).setCell lb (lo + 1) (fun _ => ⟨rfl, .inr rfl⟩) _).drew
      have fA' : Fr (JS g lb lo lb lo2) w3 (((w3.setCell ⟨lb, lo, none⟩ (.int .u64 h2)).setCell ⟨lb, lo + 1, none⟩ (.int .i64 (n + n2))).drew) := (((Fr.refl (JS g lb lo lb lo2) w3).setCell lb lo (fun _ => .inr (.inl ⟨rfl, .inl rfl⟩)) _).setCell lb (lo + 1) (fun _ => .inr (.inl ⟨rfl, .inr rfl⟩)) _).drew
      have T1' : IsList (((w3.setCell ⟨lb, lo, none⟩ (.int .u64 h2)).setCell ⟨lb, lo + 1, none⟩ (.int .i64 (n + n2))).drew) lb lo h2 (n + n2) := T1.fr ((Fr.refl nil2 _).drew) (fun h => h) (fun h => h)
      have K1 := HK3.out.fr fA (by unfold LL; omega) (by unfold LL; omega)
      have M1 := HM3.out.fr fA (fun _ e => hlm e.1.symm) (fun _ e => hlg e.1.symm)
      have F1 := HF3.out.step fA' (fun _ _ _ h => h)
      have key : ∀ w4 : World, IsMem 86 w4 m g (stF bs x h) → IsList w4 lb lo h2 (n + n2) → IsList w4 lb lo2 h2 n2 → Fr (JS g lb lo lb lo2) w w4 →
          RJoinPost m g lb lo lb lo2 (joinF bs h n h2 n2) w (.returned (.int .i64 0)) ((w4.setCell ⟨lb, lo2, none⟩ (.int .u64 0)).setCell ⟨lb, lo2 + 1, none⟩ (.int .i64 0)) := by
        intro w4 M1 T1 K1 F1
        have fB : Fr (LL lb lo2) w4 ((w4.setCell ⟨lb, lo2, none⟩ (.int .u64 0)).setCell ⟨lb, lo2 + 1, none⟩ (.int .i64 0)) := ((Fr.refl (LL lb lo2) w4).setCell lb lo2 (fun _ => ⟨rfl, .inl rfl⟩) _).setCell lb (lo2 + 1) (fun _ => ⟨rfl, .inr rfl⟩) _
        have fB' : Fr (JS g lb lo lb lo2) w4 ((w4.setCell ⟨lb, lo2, none⟩ (.int .u64 0)).setCell ⟨lb, lo2 + 1, none⟩ (.int .i64 0)) := ((Fr.refl (JS g lb lo lb lo2) w4).setCell lb lo2 (fun _ => .inr (.inr ⟨rfl, .inl rfl⟩)) _).setCell lb (lo2 + 1) (fun _ => .inr (.inr ⟨rfl, .inr rfl⟩)) _
        unfold RJoinPost joinF
        rw [HA.out]
        simp only [HGL.out]
        refine ⟨trivial, M1.fr fB (fun _ e => hlm e.1.symm) (fun _ e => hlg e.1.symm), ?_, K1.turn 0 0 (by decide) (by decide), F1.step fB' (fun _ _ _ h => h)⟩
        rw [(allF_len HA.out).1]
        exact T1.fr fB (by unfold LL; omega) (by unfold LL; omega)
      exact key _ M1 T1' K1 F1

end Go.Proofs.Ythginpedlfocpaa
