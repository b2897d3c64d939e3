/- ListCounts: the walk. -/
import Derived.Test.YthginpedlfocpaaLChainsB
namespace Go.Proofs.Ythginpedlfocpaa
open Go.RowKit Go.Alo Go.Shelf
attribute [local go_sem] max_ints min_ints

theorem cells_one (w : World) (e : TypeId) (x : Value) : Reads (w.alloc (.cells #[x] e)) (some ⟨w.heap.size, 0, none⟩) [x] := by
  refine .inr ⟨_, _, rfl, fun i v hi => ?_⟩
  have := (Row.new w e [x]).cell i (List.getElem?_eq_some_iff.1 hi).1
  rw [Nat.zero_add]
  rw [this]
  exact congrArg some (List.getElem?_eq_some_iff.1 hi).2

/-- What holds between two rounds: a list of some of the blocks that came. -/
structure CountJ (w : World) (L : List Int) (A8 : Option Addr) (m g X : Nat) (k : Nat) (ls : List Int) (bs : List Int) (h : Int) (W : World) : Prop where
  mem : IsMem 149 W m g bs
  len : bs.length = 2048
  list : IsList W X 0 h ls.length
  on : OnL bs h ls
  apart : Apart ls
  some : ∀ a ∈ ls, a ∈ L.take k
  few : ls.length ≤ k
  fr : Fr nil2 w W
  reads : Reads W A8 (ints .u64 L)

theorem CountJ.turn {w : World} {L : List Int} {A8 : Option Addr} {m g X k : Nat} {ls bs : List Int} {h : Int} {W W' : World} (j : CountJ w L A8 m g X k ls bs h W) (f : Fr nil2 W W') : CountJ w L A8 m g X k ls bs h W' :=
  ⟨j.mem.fr f (fun _ h => h) (fun _ h => h), j.len, j.list.fr f (fun h => h) (fun h => h), j.on, j.apart, j.some, j.few, j.fr.trans' f, j.reads.fr f (fun _ _ _ _ _ _ h => h)⟩

theorem CountJ.next {w : World} {L : List Int} {A8 : Option Addr} {m g X k : Nat} {ls bs : List Int} {h : Int} {W : World} (j : CountJ w L A8 m g X k ls bs h W) : CountJ w L A8 m g X (k + 1) ls bs h W :=
  ⟨j.mem, j.len, j.list, j.on, j.apart, fun a ha => (List.take_subset_take_left L (Nat.le_succ k)) (j.some a ha), by have := j.few; omega, j.fr, j.reads⟩

/-- One more block is pushed. -/
theorem count_push {L : List Int} (hL : Blocks L) {ls : List Int} {k : Nat} (hk : k < L.length) (hs : ∀ a ∈ ls, a ∈ L.take k) (ha : Apart ls) : Apart (L[k] :: ls) := by
  refine List.pairwise_cons.2 ⟨fun b hb => ?_, ha⟩
  obtain ⟨i, hi, rfl⟩ := List.getElem_of_mem (hs b hb)
  have hi' : i < k := by simp at hi; omega
  have := List.pairwise_iff_getElem.1 hL.apart i k (by omega) hk hi'
  rw [List.getElem_take]
  exact this.symm

set_option maxRecDepth 100000 in
set_option maxHeartbeats 4000000 in
theorem counts_walk (A A1 : Option Addr) (cap cap1 : Nat) (l : List Int) (pops : List Bool) (w : World) (hx : Reads w A (ints .u8 l)) (hb : ∀ a ∈ l, 0 ≤ a ∧ a < 256) (ll : (l.length : Int) ≤ 9223372036854775807) (hp : Reads w A1 (pops.map Value.bool)) (lp : (pops.length : Int) ≤ 9223372036854775807) :
    Calls Try.prog 5 #[.slice A l.length cap, .slice A1 pops.length cap1] w fun e w' => e = .returned (.bool true) ∧ Fr nil2 w w' := by
  have HX := Lib.hid hx
  have HB := Lib.hid hb
  have HPP := Lib.hid hp
  clear hx hb hp
  have HBL := Lib.hid (blocks_law l)
  obtain ⟨L, hL⟩ : ∃ L, blk (fun _ => false) l = L := ⟨_, rfl⟩
  rw [hL] at HBL
  have HLe := Lib.hid hL
  have hlen := HBL.out.len
  clear hL
  go_enter Try.func5, Try.ntmps5
  go_wp2_with fail
  refine (alive_any w).mono ?_
  rintro e wa ⟨rfl, hfa⟩
  have HFA := Lib.hid hfa
  clear hfa
  go_wp2_with fail
  refine (new_any 2048 wa (by decide) (by decide) (by decide)).mono ?_
  rintro e w1 ⟨rfl, rfl⟩
  have HM := Lib.hid (newMem_is 149 2048 wa (by decide))
  have HF := Lib.hid (HFA.out.trans' (newMem_fr 149 2048 wa nil2))
  have HS1 := Lib.hid (newMem_is 149 2048 wa (by decide)).obj.lt
  have HSW := Lib.hid HFA.out.size
  obtain ⟨W1, hW1⟩ : ∃ W, newMem 149 2048 wa = W := ⟨_, rfl⟩
  rw [hW1] at HM HF HS1 ⊢
  clear hW1
  have HL2 := Lib.hid (list_new W1)
  have HM2 := Lib.hid (HM.out.alloc (.cells #[.int .u64 0, .int .i64 0] 36))
  have HF2 := Lib.hid (HF.out.alloc (.cells #[.int .u64 0, .int .i64 0] 36))
  by_cases h200 : (200 : Int) < (pops.length : Int)
  · go_wp2
    go_ret
    exact ⟨rfl, HF2.out⟩
  · have h200' : (pops.length : Int) ≤ 200 := by omega
    clear h200
    go_wp2_with fail
    have HX2 := Lib.hid (HX.out.fr HF2.out (fun _ _ _ _ _ _ h => h))
    obtain ⟨W2, hW2⟩ : ∃ W, W1.alloc (.cells #[.int .u64 0, .int .i64 0] 36) = W := ⟨_, rfl⟩
    rw [hW2] at HL2 HM2 HF2 HX2 ⊢
    have HS2 : Hid (W1.heap.size < W2.heap.size) := Lib.hid HL2.out.head.lt
    clear hW2
    refine (blocks_any A cap l W2 HX2.out HB.out ll).mono ?_
    rw [HLe.out]
    rintro e w3 ⟨⟨v, rfl, hown⟩, hf3⟩
    obtain ⟨A8, cap8, rfl, hc8, hm8, hr8, -⟩ := own_reads hown
    have HA8 : Hid (∀ b off, A8 = some ⟨b, off, none⟩ → W2.heap.size ≤ b) := Lib.hid (fun b off e => by subst e; exact (own_cells hown b rfl).1)
    have HJ0 : Hid (CountJ w L A8 (wa.heap.size + 1) wa.heap.size W1.heap.size 0 [] (List.replicate 2048 0) 0 w3) :=
      Lib.hid ⟨HM2.out.fr hf3 (fun _ h => h) (fun _ h => h), List.length_replicate, HL2.out.fr hf3 (fun h => h) (fun h => h), rfl, List.Pairwise.nil, by simp, Nat.zero_le _, HF2.out.trans' hf3, hr8⟩
    clear hown hf3 hr8 HM2 HL2 HF2 HX2 HM HF
    go_wp2
    go_loopw [9, 37] (fun c i wr => ∃ (k : Nat) (ls bs : List Int) (h : Int), k ≤ L.length ∧ i = .int .i64 k ∧ c = .int .i64 ls.length ∧ Hid (CountJ w L A8 (wa.heap.size + 1) wa.heap.size W1.heap.size k ls bs h wr)) (fun _ i _ => L.length - (intOf i).toNat)
    case atStart => exact ⟨0, [], _, 0, Nat.zero_le _, rfl, rfl, HJ0⟩
    case round =>
      obtain ⟨k, ls, bs, h, hkl, rfl, rfl, HJ⟩ := hrel
      clear HJ0
      by_cases hlt : k < L.length
      · obtain ⟨b, off, hAb, hc⟩ := HJ.out.reads.get k (by simpa using hlt)
        rw [ints_get] at hc
        have hap := count_push HBL.out hlt HJ.out.some HJ.out.apart
        have hgd := HBL.out.good L[k] (List.getElem_mem hlt)
        have hin : L[k] ∈ L.take (k + 1) := List.mem_take_iff_getElem.2 ⟨k, by omega, rfl⟩
        obtain ⟨x, hxk⟩ : ∃ a, L[k] = a := ⟨_, rfl⟩
        rw [hxk] at hc hap hgd hin
        have HAP := Lib.hid hap
        have HIN := Lib.hid hin
        obtain ⟨g1, g2, g3, g4⟩ := hgd
        have HG1 := Lib.hid g1
        clear hxk hap hin g1
        subst hAb
        have HJ1 := Lib.hid (HJ.out.turn ((Fr.refl nil2 wr).alloc (.cells #[.int .u64 x] 22)))
        have HR1 := Lib.hid (cells_one wr 22 (.int .u64 x))
        have hlk := HJ.out.few
        go_wp2_with fail
        refine (push_any _ _ _ 0 1 _ [x] bs h ls.length _ HJ1.out.mem HJ1.out.list (by have := HS1.out; omega) (by have := HS1.out; omega) HR1.out (by intro b off e; injection e with e; injection e with e1 e2; have := HJ.out.mem.bytes.lt; have := HJ.out.list.head.lt; omega) (by intro a ha; simp at ha; subst ha; exact ⟨g2, g4⟩) (by omega) (by simp; omega)).mono ?_
        obtain ⟨bs', h', p1, p2, p3, p4, p5, -⟩ := push_law [x] bs h ls.length ls HJ1.out.on HJ1.out.list.h0 HJ1.out.list.h1 HAP.out (by rw [HJ1.out.len]; intro a ha; simp at ha; subst ha; exact ⟨HG1.out, g2, g3, g4⟩)
        rw [p1]
        rintro e w4 ⟨rfl, hm4, hl4, hf4⟩
        have HJ4 : Hid (CountJ w L (some ⟨b, off, none⟩) (wa.heap.size + 1) wa.heap.size W1.heap.size (k + 1) (x :: ls) bs' h' w4) := by
          refine Lib.hid ⟨hm4, p3.trans HJ1.out.len, ?_, p2, HAP.out, ?_, by simp; exact HJ.out.few, HJ1.out.fr.step hf4 (by intro i o hi h; have := HSW.out; have := HS1.out; unfold LS at h; omega), HJ1.out.reads.fr hf4 (by intro b2 off2 o e _ _ h; have := HA8.out b2 off2 e; have := HS1.out; have := HS2.out; unfold LS at h; omega)⟩
          · have e : ((ls.length : Int) + ([x] : List Int).length) = ((x :: ls).length : Int) := by simp
            rw [← e]; exact hl4
          · intro a ha
            rcases List.mem_cons.1 ha with rfl | ha
            · exact HIN.out
            · exact (List.take_subset_take_left L (Nat.le_succ k)) (HJ.out.some a ha)
        clear hm4 hl4 hf4 p1 p2 p3 p4 p5 HJ1 HR1
        by_cases hkp : k < pops.length
        · obtain ⟨b1, off1, hA1, hcp⟩ := (HPP.out.fr HJ4.out.fr (fun _ _ _ _ _ _ h => h)).get k (by simpa using hkp)
          rw [List.getElem_map] at hcp
          have hkpi : (k : Int) < (pops.length : Int) := by omega
          obtain ⟨pk, hpk⟩ : ∃ a, pops[k] = a := ⟨_, rfl⟩
          rw [hpk] at hcp
          clear hpk
          subst hA1
          cases pk with
          | true =>
            go_wp2_with fail
            refine (all_any _ _ _ _ _ _ _ _ HJ4.out.mem HJ4.out.list (by rw [HJ4.out.len]; decide)).mono ?_
            rw [HJ4.out.on.all (by rw [HJ4.out.len]; simp; omega)]
            rintro e w5 ⟨⟨v5, rfl, hown5⟩, hf5⟩
            obtain ⟨A12, cap12, rfl, hc12, hm12, hr12, -⟩ := own_reads hown5
            obtain ⟨b12, off12, hA12, ha0⟩ := hr12.get 0 (by simp)
            rw [ints_get, Nat.add_zero, List.getElem_cons_zero] at ha0
            subst hA12
            have HB12 : Hid (W1.heap.size < b12) := Lib.hid (by have := (own_cells hown5 b12 rfl).1; have := HJ4.out.list.head.lt; omega)
            have HJ5 := Lib.hid (HJ4.out.turn hf5)
            clear hown5 hf5 hr12
            have h12 : (0 : Int) < ((x :: ls).length : Int) := by simp
            have hx0 : ((x :: ls).length : Int) - 1 = (ls.length : Int) := by simp
            have HX0 := Lib.hid hx0
            clear hx0
            go_wp2_with fail
            refine (pop_any _ _ _ 0 _ _ _ _ HJ5.out.mem HJ5.out.list (by have := HS1.out; omega) (by have := HS1.out; omega) (by omega) (by simp; omega)).mono ?_
            obtain ⟨q1, q2⟩ := HJ5.out.on.pop ((x :: ls).length : Int) (by simp; omega)
            rw [q1]
            rintro e w6 ⟨rfl, hm6, hl6, hf6⟩
            have ha6 := hf6.cell ha0 (by intro h; have := h.1; have := HB12.out; omega)
            have HJ6 : Hid (CountJ w L (some ⟨b, off, none⟩) (wa.heap.size + 1) wa.heap.size W1.heap.size (k + 1) ls bs' (ldF bs' x) w6) := by
              refine Lib.hid ⟨hm6, HJ5.out.len, ?_, q2, HJ.out.apart, fun a ha => HJ5.out.some a (List.mem_cons_of_mem _ ha), by have := HJ.out.few; omega, HJ5.out.fr.step hf6 (by intro i o hi h; have := HSW.out; have := HS1.out; unfold LL at h; omega), HJ5.out.reads.fr hf6 (by intro b2 off2 o e _ _ h; have := HA8.out b2 off2 e; have := HS2.out; unfold LL at h; omega)⟩
              rw [← HX0.out]; exact hl6
            clear hm6 hl6 hf6 q1 q2 HJ5 HJ4 ha0
            go_wp2_with fail
            have hcN := HJ6.out.list.num.1
            have hfew := HJ6.out.few
            refine (all_any _ _ _ _ _ _ _ _ HJ6.out.mem HJ6.out.list (by rw [HJ6.out.len]; decide)).mono ?_
            rw [HJ6.out.on.all (by rw [HJ6.out.len]; omega)]
            rintro e w7 ⟨⟨v7, rfl, hown7⟩, hf7⟩
            obtain ⟨A16, cap16, rfl, -, -, -, -⟩ := own_reads hown7
            have HJ7 := Lib.hid (HJ6.out.turn hf7)
            have hcN7 := HJ7.out.list.num.1
            clear hown7 hf7 HJ6 hcN hfew
            have HE : Hid (∀ z : Int, z = (ls.length : Int) + 1 → z = ((x :: ls).length : Int)) := Lib.hid (fun z hz => by rw [hz]; simp)
            have hl0 : (((x :: ls).length : Int) != (ls.length : Int) + 1) = false := by simp
            go_wp2
            go_roundw
            case rel => exact ⟨k + 1, ls, _, _, by omega, by go_num, by simp, HJ7⟩
            case measure => simp [intOf]; omega
          | false =>
            go_wp2_with fail
            have hcN := HJ4.out.list.num.1
            have hfew := HJ4.out.few
            refine (all_any _ _ _ _ _ _ _ _ HJ4.out.mem HJ4.out.list (by rw [HJ4.out.len]; decide)).mono ?_
            rw [HJ4.out.on.all (by rw [HJ4.out.len]; omega)]
            rintro e w7 ⟨⟨v7, rfl, hown7⟩, hf7⟩
            obtain ⟨A16, cap16, rfl, -, -, -, -⟩ := own_reads hown7
            have HJ7 := Lib.hid (HJ4.out.turn hf7)
            have hcN7 := HJ7.out.list.num.1
            clear hown7 hf7 HJ4 hcN hfew
            have HE : Hid (∀ z : Int, z = (ls.length : Int) + 1 → z = ((x :: ls).length : Int)) := Lib.hid (fun z hz => by rw [hz]; simp)
            have hl0 : (((x :: ls).length : Int) != (ls.length : Int) + 1) = false := by simp
            go_wp2
            go_roundw
            case rel => exact ⟨k + 1, (x :: ls), _, _, by omega, by go_num, by simp, HJ7⟩
            case measure => simp [intOf]; omega
        · have hkpi : (pops.length : Int) ≤ (k : Int) := by omega
          go_wp2_with fail
          have hcN := HJ4.out.list.num.1
          have hfew := HJ4.out.few
          refine (all_any _ _ _ _ _ _ _ _ HJ4.out.mem HJ4.out.list (by rw [HJ4.out.len]; decide)).mono ?_
          rw [HJ4.out.on.all (by rw [HJ4.out.len]; omega)]
          rintro e w7 ⟨⟨v7, rfl, hown7⟩, hf7⟩
          obtain ⟨A16, cap16, rfl, -, -, -, -⟩ := own_reads hown7
          have HJ7 := Lib.hid (HJ4.out.turn hf7)
          have hcN7 := HJ7.out.list.num.1
          clear hown7 hf7 HJ4 hcN hfew
          have HE : Hid (∀ z : Int, z = (ls.length : Int) + 1 → z = ((x :: ls).length : Int)) := Lib.hid (fun z hz => by rw [hz]; simp)
          have hl0 : (((x :: ls).length : Int) != (ls.length : Int) + 1) = false := by simp
          go_wp2
          go_roundw
          case rel => exact ⟨k + 1, (x :: ls), _, _, by omega, by go_num, by simp, HJ7⟩
          case measure => simp [intOf]; omega
      · go_wp2
        go_ret
        exact ⟨rfl, HJ.out.fr⟩

end Go.Proofs.Ythginpedlfocpaa
