/- Contracts of lists: Join. -/
import Derived.Test.YthginpedlfocpaaListLaw
import Derived.StillTailTactics
import Derived.LaidEqlPtr
namespace Go.Proofs.Ythginpedlfocpaa
open Go.RowKit Go.Alo Go.Shelf
attribute [local go_sem] max_ints min_ints

/-- All of another list is put ahead: memory, both lists, and the word. -/
def joinF (bs : List Int) (h n h2 n2 : Int) : List Int × (Int × Int) × (Int × Int) × Int := match allF bs h2 n2 with
  | none => (bs, (h, n), (h2, n2), 3)
  | some ls => match ls.getLast? with
    | none => (bs, (h, n), (0, 0), 0)
    | some a => (stF bs a h, (h2, n + ls.length), (0, 0), 0)

/-- The cells that Join may write. -/
def JS (g lb lo lb2 lo2 : Nat) (k o : Nat) : Prop := k = g ∨ (k = lb ∧ (o = lo ∨ o = lo + 1)) ∨ (k = lb2 ∧ (o = lo2 ∨ o = lo2 + 1))

def JoinPost (m g lb lo lb2 lo2 : Nat) (r : List Int × (Int × Int) × (Int × Int) × Int) (w : World) (e : Ending) (w' : World) : Prop :=
  e = .returned (.int .i64 r.2.2.2) ∧ IsMem 149 w' m g r.1 ∧ IsList w' lb lo r.2.1.1 r.2.1.2 ∧ IsList w' lb2 lo2 r.2.2.1.1 r.2.2.1.2 ∧ Fr (JS g lb lo lb2 lo2) w w'

/-- A block that lies whole, unfrozen. -/
def Flat (w : World) (b : Nat) : Prop := ∃ c e, w.heap[b]? = some (.cells c e (0, 0))
theorem Flat.fr {S : Nat → Nat → Prop} {w w' : World} {b : Nat} (h : Flat w b) (f : Fr S w w') : Flat w' b := by
  obtain ⟨c, e, h⟩ := h
  obtain ⟨c', h'⟩ := f.cells b c e (0, 0) h
  exact ⟨c', e, h'.1⟩
theorem Flat.new (w : World) (c : Array Value) (e : TypeId) : Flat (w.alloc (.cells c e)) w.heap.size := ⟨c, e, by show (w.heap.push _)[w.heap.size]? = _; simp⟩

theorem info_list : (Try.prog.info? 36).map (fun i => i.size) = some 2 := by kernel_rfl

theorem ptr_eq (lb lo lb2 lo2 : Nat) (w : World) (h1 : Flat w lb) (h2 : Flat w lb2) (hne : ¬ (lb = lb2 ∧ lo = lo2)) : Sem.run Try.prog (binOp BinOp.eql 48 (.pointer (some ⟨lb, lo, none⟩)) (.pointer (some ⟨lb2, lo2, none⟩))) w = .ok (.bool false) w := by
  obtain ⟨c1, e1, h1⟩ := h1
  obtain ⟨c2, e2, h2⟩ := h2
  obtain ⟨i, hi, hs⟩ : ∃ i, Try.prog.info? 36 = some i ∧ i.size = 2 := by
    have := info_list
    cases hq : Try.prog.info? 36 with
    | none => rw [hq] at this; simp at this
    | some i0 => rw [hq] at this; simp at this; exact ⟨i0, rfl, this⟩
  exact run_eql_ptr_other w Try.underlying48 hi (by rw [hs]; decide) (by intro e; injection e with e1 e2; exact hne ⟨e1, e2⟩) h1 h2

theorem allF_last {bs : List Int} {h n : Int} {ls : List Int} (ha : allF bs h n = some ls) (h0 : 0 ≤ h) (h1 : h < 18446744073709551616) (hb : ∀ b ∈ bs, 0 ≤ b ∧ b < 256) (i : Nat) (hi : i < ls.length) : ldE bs ls[i] = 0 ∧ 0 ≤ ls[i] ∧ ls[i] < 18446744073709551616 ∧ ls[i] ≠ 0 := by
  unfold allF at ha
  cases hc : chF bs h n with
  | none => rw [hc] at ha; simp at ha
  | some k =>
    rw [hc] at ha
    simp only at ha
    split at ha
    · obtain rfl := Option.some.inj ha
      obtain ⟨_, _, h3⟩ := chN_spec _ _ _ _ hc
      have hik : i < k := by simpa [chL] using hi
      have e : (chL bs h k)[i] = hd bs h i := by simp [chL]
      rw [e]
      exact ⟨(h3 i hik).2, (hd_bd bs h h0 h1 hb i).1, (hd_bd bs h h0 h1 hb i).2, (h3 i hik).1⟩
    · simp at ha

theorem allF_len {bs : List Int} {h n : Int} {ls : List Int} (ha : allF bs h n = some ls) : (ls.length : Int) = n ∧ ls.length ≤ bs.length := by
  unfold allF at ha
  cases hc : chF bs h n with
  | none => rw [hc] at ha; simp at ha
  | some k =>
    rw [hc] at ha
    simp only at ha
    split at ha
    · rename_i hk
      obtain rfl := Option.some.inj ha
      obtain ⟨h2, _, _⟩ := chN_spec _ _ _ _ hc
      have := mn_eq n bs.length
      refine ⟨by simpa [chL] using hk, ?_⟩
      simp only [chL, List.length_map, List.length_range]
      omega
    · simp at ha

set_option maxRecDepth 100000 in
set_option maxHeartbeats 2000000 in
theorem join_any (m g lb lo lb2 lo2 : Nat) (bs : List Int) (h n h2 n2 : Int) (w : World) (hm : IsMem 149 w m g bs) (hl : IsList w lb lo h n) (hl2 : IsList w lb2 lo2 h2 n2) (hlm : lb ≠ m) (hlg : lb ≠ g) (hlm2 : lb2 ≠ m) (hlg2 : lb2 ≠ g) (hne : lb ≠ lb2) (hfl : Flat w lb) (hfl2 : Flat w lb2) (hbig : bs.length ≤ 1000000000) (hn0 : 0 ≤ n) (hn1 : n ≤ 1000000000) :
    Calls Try.prog 34 #[.pointer (some ⟨lb, lo, none⟩), .pointer (some ⟨m, 0, none⟩), .pointer (some ⟨lb2, lo2, none⟩)] w (JoinPost m g lb lo lb2 lo2 (joinF bs h n h2 n2) w) := by
  have HM := Lib.hid hm
  have HL := Lib.hid hl
  have HK := Lib.hid hl2
  obtain ⟨c1, f1⟩ := hl.head
  obtain ⟨c2, f2⟩ := hl.num
  obtain ⟨c3, f3⟩ := hl2.head
  obtain ⟨c4, f4⟩ := hl2.num
  clear hm hl hl2
  have hne' : ¬ lb2 = lb := fun e => hne e.symm
  have hpe := ptr_eq lb lo lb2 lo2 w hfl hfl2 (fun h => hne h.1)
  go_enter Try.func34, Try.ntmps34
  go_wp2_with fail
  have hall := (all_any m g lb2 lo2 bs h2 n2 w HM.out HK.out hbig)
  cases hA : allF bs h2 n2 with
  | none =>
    rw [hA] at hall
    refine hall.mono ?_
    rintro e w1 ⟨rfl, hf1⟩
    have HF1 := Lib.hid hf1
    have HA := Lib.hid hA
    clear hf1 hall hA
    go_wp2
    go_ret
    unfold JoinPost joinF
    rw [HA.out]
    exact ⟨rfl, HM.out.fr HF1.out (fun _ h => h) (fun _ h => h), HL.out.fr HF1.out (fun h => h) (fun h => h), HK.out.fr HF1.out (fun h => h) (fun h => h), HF1.out.mono (fun _ _ _ h => h.elim)⟩
  | some ls =>
    rw [hA] at hall
    refine hall.mono ?_
    rintro e w1 ⟨⟨v, rfl, hown⟩, hf1⟩
    obtain ⟨A7, cap7, rfl, hc7, hm7, hr7, -⟩ := own_reads hown
    have HA := Lib.hid hA
    have HF1 := Lib.hid hf1
    have HM1 := Lib.hid (HM.out.fr hf1 (fun _ h => h) (fun _ h => h))
    have HL1 := Lib.hid (HL.out.fr hf1 (fun h => h) (fun h => h))
    have HK1 := Lib.hid (HK.out.fr hf1 (fun h => h) (fun h => h))
    have HR1 := Lib.hid hr7
    clear hA hf1 hall hown hr7 c1 f1 c2 f2 c3 f3 c4 f4
    obtain ⟨c1, f1⟩ := HL1.out.head
    obtain ⟨c2, f2⟩ := HL1.out.num
    obtain ⟨c3, f3⟩ := HK1.out.head
    obtain ⟨c4, f4⟩ := HK1.out.num
    by_cases hz : ls.length = 0
    · have hz' : decide ((0 : Int) < (ls.length : Int)) = false := by simp [hz]
      have hls : ls = [] := List.eq_nil_of_length_eq_zero hz
      have HLS := Lib.hid hls
      have hz0 : (ls.length : Int) = 0 := by omega
      clear hz hls
      go_wp2
      go_ret
      unfold JoinPost joinF
      rw [HA.out, HLS.out]
      have hf : Fr (fun k _ => k = lb2) w1 ((w1.setCell ⟨lb2, lo2, none⟩ (.int .u64 0)).setCell ⟨lb2, lo2 + 1, none⟩ (.int .i64 0)) := ((Fr.refl (fun k _ => k = lb2) w1).setCell lb2 lo2 (fun _ => rfl) _).setCell lb2 (lo2 + 1) (fun _ => rfl) _
      have hf' : Fr (JS g lb lo lb2 lo2) w1 ((w1.setCell ⟨lb2, lo2, none⟩ (.int .u64 0)).setCell ⟨lb2, lo2 + 1, none⟩ (.int .i64 0)) := ((Fr.refl (JS g lb lo lb2 lo2) w1).setCell lb2 lo2 (fun _ => .inr (.inr ⟨rfl, .inl rfl⟩)) _).setCell lb2 (lo2 + 1) (fun _ => .inr (.inr ⟨rfl, .inr rfl⟩)) _
      exact ⟨rfl, HM1.out.fr hf (fun _ e => hlm2 e.symm) (fun _ e => hlg2 e.symm), HL1.out.fr hf (fun e => hne e) (fun e => hne e), HK1.out.turn 0 0 (by decide) (by decide), (HF1.out.mono (fun _ _ _ h => h.elim)).step hf' (fun _ _ _ h => h)⟩
    · have hpos : (0 : Int) < (ls.length : Int) := by omega
      have hposn : ls.length - 1 < ls.length := by omega
      obtain ⟨b, off, hAb, hc⟩ := HR1.out.get (ls.length - 1) (by simpa using hposn)
      rw [ints_get] at hc
      obtain ⟨q1, q2, q3, q4⟩ := allF_last HA.out HK.out.h0 HK.out.h1 HM.out.byt (ls.length - 1) hposn
      have hgl : ls.getLast? = some ls[ls.length - 1] := by rw [List.getLast?_eq_getElem?, List.getElem?_eq_getElem]
      obtain ⟨x, hx⟩ : ∃ x, ls[ls.length - 1] = x := ⟨_, rfl⟩
      rw [hx] at hc q1 q2 q3 q4 hgl
      have HQ1 := Lib.hid q1
      have HGL := Lib.hid hgl
      subst hAb
      obtain ⟨q, hq⟩ : ∃ q, ls.length = q + 1 := ⟨ls.length - 1, by omega⟩
      have hbq : q < 1000000000 := by have := (allF_len HA.out).2; omega
      have HQ := Lib.hid hq
      rw [hq, Nat.add_sub_cancel] at hc
      rw [hq] at hc7 ⊢
      clear hz q1 q4 hx hgl hq hpos hposn
      go_wp2
      have hwq : IntKind.i64.wrap (q : Int) = (q : Int) := by rw [IntKind.wrap_i64]; omega
      have hb1 : (q : Int) < ((q + 1 : Nat) : Int) := by omega
      have hb2 : (q : Int) < (q : Int) + 1 := by omega
      have hb3 : (0 : Int) ≤ (q : Int) := by omega
      have hb4 : q < q + 1 := by omega
      go_still_tail 10, (by kernel_rfl)
      change wpList _ _ _ _ _ w1.drew
      have HM2 := Lib.hid HM1.out.drew
      have HL2 := Lib.hid (HL1.out.fr ((Fr.refl nil2 w1).drew) (fun h => h) (fun h => h))
      have HK2 := Lib.hid (HK1.out.fr ((Fr.refl nil2 w1).drew) (fun h => h) (fun h => h))
      have HF2 := Lib.hid HF1.out.drew
      obtain ⟨W2, hW2⟩ : ∃ W, w1.drew = W := ⟨_, rfl⟩
      rw [hW2] at HM2 HL2 HK2 HF2 ⊢
      clear hW2 c1 f1 c2 f2 c3 f3 c4 f4 hwq hb1 hb2 hb3 hb4 hc
      go_wp2_with fail
      refine (store_any _ _ bs x h _ HM2.out q2 HL2.out.h0 HL2.out.h1).mono ?_
      rw [HQ1.out]
      rintro e w3 ⟨rfl, hm3, hf3⟩
      have HM3 := Lib.hid hm3
      have HL3 := Lib.hid (HL2.out.fr hf3 hlg hlg)
      have HK3 := Lib.hid (HK2.out.fr hf3 hlg2 hlg2)
      have HF3 := Lib.hid ((HF2.out.mono (T := JS g lb lo lb2 lo2) (fun _ _ _ h => h.elim)).step hf3 (by intro i o hi hs; exact .inl hs))
      clear hm3 hf3
      obtain ⟨c1, f1⟩ := HL3.out.head
      obtain ⟨c2, f2⟩ := HL3.out.num
      obtain ⟨c3, f3⟩ := HK3.out.head
      obtain ⟨c4, f4⟩ := HK3.out.num
      have hwn : IntKind.i64.wrap (n + ((q : Int) + 1)) = n + ((q : Int) + 1) := by rw [IntKind.wrap_i64]; omega
      go_wp2
      go_region
      go_wp2
      go_ret
      have hk0 := HK.out.h0
      have hk1 := HK.out.h1
      have T1 := HL3.out.turn h2 (n + ((q : Int) + 1)) hk0 hk1
      have fA : Fr (fun k _ => k = lb) w3 (((w3.setCell ⟨lb, lo, none⟩ (.int .u64 h2)).setCell ⟨lb, lo + 1, none⟩ (.int .i64 (n + ((q : Int) + 1)))).drew) := (((Fr.refl (fun k _ => k = lb) w3).setCell lb lo (fun _ => rfl) _).setCell lb (lo + 1) (fun _ => rfl) _).drew
      have fA' : Fr (JS g lb lo lb2 lo2) w3 (((w3.setCell ⟨lb, lo, none⟩ (.int .u64 h2)).setCell ⟨lb, lo + 1, none⟩ (.int .i64 (n + ((q : Int) + 1)))).drew) := (((Fr.refl (JS g lb lo lb2 lo2) w3).setCell lb lo (fun _ => .inr (.inl ⟨rfl, .inl rfl⟩)) _).setCell lb (lo + 1) (fun _ => .inr (.inl ⟨rfl, .inr rfl⟩)) _).drew
      have T1' : IsList (((w3.setCell ⟨lb, lo, none⟩ (.int .u64 h2)).setCell ⟨lb, lo + 1, none⟩ (.int .i64 (n + ((q : Int) + 1)))).drew) lb lo h2 (n + ((q : Int) + 1)) := T1.fr ((Fr.refl nil2 _).drew) (fun h => h) (fun h => h)
      have K1 := HK3.out.fr fA (fun e => hne' e) (fun e => hne' e)
      have M1 := HM3.out.fr fA (fun _ e => hlm e.symm) (fun _ e => hlg e.symm)
      have F1 := HF3.out.step fA' (fun _ _ _ h => h)
      have key : ∀ w4 : World, IsMem 149 w4 m g (stF bs x h) → IsList w4 lb lo h2 (n + ((q : Int) + 1)) → IsList w4 lb2 lo2 h2 n2 → Fr (JS g lb lo lb2 lo2) w w4 →
          JoinPost m g lb lo lb2 lo2 (joinF bs h n h2 n2) w (.returned (.int .i64 0)) ((w4.setCell ⟨lb2, lo2, none⟩ (.int .u64 0)).setCell ⟨lb2, lo2 + 1, none⟩ (.int .i64 0)) := by
        intro w4 M1 T1 K1 F1
        have fB : Fr (fun k _ => k = lb2) w4 ((w4.setCell ⟨lb2, lo2, none⟩ (.int .u64 0)).setCell ⟨lb2, lo2 + 1, none⟩ (.int .i64 0)) := ((Fr.refl (fun k _ => k = lb2) w4).setCell lb2 lo2 (fun _ => rfl) _).setCell lb2 (lo2 + 1) (fun _ => rfl) _
        have fB' : Fr (JS g lb lo lb2 lo2) w4 ((w4.setCell ⟨lb2, lo2, none⟩ (.int .u64 0)).setCell ⟨lb2, lo2 + 1, none⟩ (.int .i64 0)) := ((Fr.refl (JS g lb lo lb2 lo2) w4).setCell lb2 lo2 (fun _ => .inr (.inr ⟨rfl, .inl rfl⟩)) _).setCell lb2 (lo2 + 1) (fun _ => .inr (.inr ⟨rfl, .inr rfl⟩)) _
        unfold JoinPost joinF
        rw [HA.out]
        simp only [HGL.out]
        refine ⟨trivial, M1.fr fB (fun _ e => hlm2 e.symm) (fun _ e => hlg2 e.symm), ?_, K1.turn 0 0 (by decide) (by decide), F1.step fB' (fun _ _ _ h => h)⟩
        rw [HQ.out, show (((q + 1 : Nat)) : Int) = (q : Int) + 1 from by omega]
        exact T1.fr fB (fun e => hne e) (fun e => hne e)
      exact key _ M1 T1' K1 F1

end Go.Proofs.Ythginpedlfocpaa
