/- Contracts of the laws of lists: Same, blocks. -/
import Derived.Test.YthginpedlfocpaaProg
import Derived.Test.YthginpedlfocpaaMap
import Derived.OwnWalk
import Derived.RangeFuncBox
import Derived.BigQuiet
import Derived.Maps.OwnOps
namespace Go.Proofs.Ythginpedlfocpaa
open Go.RowKit Go.Alo Go.Shelf
attribute [local go_sem] max_ints min_ints

set_option maxHeartbeats 1000000 in
theorem same_any (A B : Option Addr) (ca cb : Nat) (xs ys : List Int) (w : World) (hx : Reads w A (ints .u64 xs)) (hy : Reads w B (ints .u64 ys)) (lx : (xs.length : Int) ≤ 9223372036854775807) (ly : (ys.length : Int) ≤ 9223372036854775807) :
    Calls Try.prog 35 #[.slice A xs.length ca, .slice B ys.length cb] w (fun e w' => e = .returned (.bool (decide (xs = ys))) ∧ Fr nil2 w w') := by
  have HX := Lib.hid hx
  have HY := Lib.hid hy
  clear hx hy
  go_enter Try.func35, Try.ntmps35
  by_cases hl : xs.length = ys.length
  · have hl' : ((ys.length : Int) != (xs.length : Int)) = false := by simp [hl]
    have hl2 : ((xs.length : Int) != (ys.length : Int)) = false := by simp [hl]
    have HL := Lib.hid hl
    clear hl
    go_wp2
    go_loopw [13] (fun i wr => ∃ k : Nat, k ≤ xs.length ∧ i = .int .i64 k ∧ Hid (Fr nil2 w wr) ∧ Hid (xs.take k = ys.take k)) (fun i _ => xs.length - (intOf i).toNat)
    case atStart => exact ⟨0, Nat.zero_le _, rfl, Fr.refl _ _, rfl⟩
    case round =>
      obtain ⟨k, hkl, rfl, HF, HT⟩ := hrel
      by_cases hlt : k < xs.length
      · have hly : k < ys.length := by rw [← HL.out]; exact hlt
        obtain ⟨b, off, hAb, hc⟩ := (HX.out.fr HF.out (fun _ _ _ _ _ _ h => h)).get k (by simpa using hlt)
        obtain ⟨b2, off2, hBb, hc2⟩ := (HY.out.fr HF.out (fun _ _ _ _ _ _ h => h)).get k (by simpa using hly)
        rw [ints_get] at hc hc2
        obtain ⟨x, hxk⟩ : ∃ a, xs[k] = a := ⟨_, rfl⟩
        obtain ⟨y, hyk⟩ : ∃ a, ys[k] = a := ⟨_, rfl⟩
        rw [hxk] at hc
        rw [hyk] at hc2
        subst hAb hBb
        have HXK := Lib.hid hxk
        have HYK := Lib.hid hyk
        clear hxk hyk
        by_cases hz : x = y
        · have hz' : (x != y) = false := by simp [hz]
          have HZ := Lib.hid hz
          clear hz
          go_wp2
          go_quiet (fail)
          go_wp2
          go_roundw
          case rel =>
            refine ⟨k + 1, by omega, by go_num, Lib.hid (HF.out.drewN _), Lib.hid ?_⟩
            rw [List.take_add_one, List.take_add_one, HT.out, List.getElem?_eq_getElem hlt, List.getElem?_eq_getElem hly, HXK.out, HYK.out, HZ.out]
          case measure => simp [intOf]; omega
        · have hz' : (x != y) = true := by simp [hz]
          have hne : ¬ xs = ys := by
            intro h
            subst h
            exact hz (HXK.out.symm.trans HYK.out)
          have HZ := Lib.hid hne
          clear hz hne
          go_wp2
          go_quiet (fail)
          go_wp2
          go_ret
          exact ⟨by rw [decide_eq_false HZ.out]; rfl, HF.out.drewN _⟩
      · have hke : k = xs.length := by omega
        have heq : xs = ys := by
          have := HT.out
          rw [hke, List.take_length, HL.out, List.take_length] at this
          exact this
        have HQ := Lib.hid heq
        clear heq
        go_wp2
        go_ret
        exact ⟨by rw [decide_eq_true HQ.out]; rfl, HF.out⟩
  · have hl' : ((xs.length : Int) != (ys.length : Int)) = true := by simp; omega
    have hne : ¬ xs = ys := by intro h; exact hl (by rw [h])
    have HZ := Lib.hid hne
    clear hl hne
    go_wp2
    go_ret
    exact ⟨by rw [decide_eq_false HZ.out]; rfl, Fr.refl _ _⟩

/-- Addresses of blocks, each byte once. -/
def blk (f : Int → Bool) : List Int → List Int
  | [] => []
  | x :: l => if f (x % 120) then blk f l else (16 + 16 * (x % 120)) :: blk (fun y => if y = x % 120 then true else f y) l

theorem blk_drop (f : Int → Bool) (l : List Int) (i : Nat) (hi : i < l.length) :
    blk f (l.drop i) = if f (l[i] % 120) then blk f (l.drop (i + 1)) else (16 + 16 * (l[i] % 120)) :: blk (fun y => if y = l[i] % 120 then true else f y) (l.drop (i + 1)) := by
  rw [List.drop_eq_getElem_cons hi, blk]

/-- How many of n were met. -/
def metN (f : Int → Bool) (n : Nat) : Nat := ((List.range n).filter (fun (i : Nat) => f (i : Int))).length

theorem metN_le (f : Int → Bool) (n : Nat) : metN f n ≤ n := by
  have := List.length_filter_le (fun i : Nat => f (i : Int)) (List.range n)
  rw [List.length_range] at this
  exact this

theorem metN_other (f : Int → Bool) (y : Int) (n : Nat) (h : (n : Int) ≤ y) : metN (fun z => if z = y then true else f z) n = metN f n := by
  unfold metN
  congr 1
  apply List.filter_congr
  intro i hi
  have := List.mem_range.1 hi
  simp [show ¬ ((i : Int) = y) from by omega]

theorem metN_new (f : Int → Bool) (y : Int) (h0 : 0 ≤ y) (hf : f y = false) (n : Nat) (h : y < n) : metN (fun z => if z = y then true else f z) n = metN f n + 1 := by
  induction n with
  | zero => omega
  | succ n ih =>
    have e : ∀ g : Int → Bool, metN g (n + 1) = metN g n + if g n then 1 else 0 := by
      intro g
      unfold metN
      rw [List.range_succ, List.filter_append, List.length_append]
      cases hg : g n <;> simp [hg]
    rw [e, e]
    by_cases hy : y = n
    · subst hy
      rw [metN_other f _ n (Int.le_refl _)]
      simp [hf]
    · rw [ih (by omega)]
      have : ¬ ((n : Int) = y) := fun h => hy h.symm
      simp [this]
      omega

theorem info_u64' : ∃ i0, Try.prog.info? 22 = some i0 ∧ i0.zero = some (.int .u64 0) ∧ i0.size = 1 ∧ i0.bytes = 8 := by
  have : (Try.prog.info? 22).map (fun i => (i.zero, i.size, i.bytes)) = some (some (.int .u64 0), 1, 8) := by kernel_rfl
  cases hq : Try.prog.info? 22 with
  | none => rw [hq] at this; simp at this
  | some i0 => rw [hq] at this; simp at this; exact ⟨i0, rfl, this.1, this.2.1, this.2.2⟩

theorem zero_bool (w : World) : (zeroValue 4).run Try.prog w = .ok (.bool false) w := by kernel_rfl

set_option maxRecDepth 100000 in
set_option maxHeartbeats 2000000 in
theorem blocks_any (A : Option Addr) (cap : Nat) (l : List Int) (w : World) (hx : Reads w A (ints .u8 l)) (hb : ∀ a ∈ l, 0 ≤ a ∧ a < 256) (ll : (l.length : Int) ≤ 9223372036854775807) :
    Calls Try.prog 28 #[.slice A l.length cap] w (fun e w' => (∃ v, e = .returned v ∧ w'.ownsRow w.heap.size 22 1 v (blk (fun _ => false) l).length (ints .u64 (blk (fun _ => false) l))) ∧ Fr nil2 w w') := by
  have HX := Lib.hid hx
  have HB := Lib.hid hb
  clear hx hb
  go_enter Try.func28, Try.ntmps28
  have hmm := @run_makeMap Try.prog
  go_wp2
  clear hmm
  go_loopw [3, 10] (fun o i wr => ∃ (k : Nat) (f : Int → Bool) (out : List Int), k ≤ l.length ∧ i = .int .i64 k ∧ Hid (wr.ownsRow (w.heap.size + 1) 22 1 o out.length (ints .u64 out)) ∧ Hid (Met Try.prog 5 4 .u8 wr w.heap.size out.length f) ∧ Hid (Fr nil2 w wr) ∧ Hid (out ++ blk f (l.drop k) = blk (fun _ => false) l) ∧ Hid (out.length = metN f 120)) (fun _ i _ => l.length - (intOf i).toNat)
  case atStart => exact ⟨0, fun _ => false, [], Nat.zero_le _, rfl, World.ownsRow_nil _ _ _ _, Met.made _ _ _ _ _, (Fr.refl _ _).alloc _, rfl, by unfold Hid; decide⟩
  case round =>
    obtain ⟨k, f, out, hkl, rfl, HO, HM, HF, HL, HN⟩ := hrel
    by_cases hlt : k < l.length
    · obtain ⟨b, off, hAb, hc⟩ := (HX.out.fr HF.out (fun _ _ _ _ _ _ h => h)).get k (by simpa using hlt)
      rw [ints_get] at hc
      have hbd := HB.out _ (List.getElem_mem hlt)
      have hstep := blk_drop f l k hlt
      obtain ⟨x, hxk⟩ : ∃ a, l[k] = a := ⟨_, rfl⟩
      rw [hxk] at hc hbd hstep
      subst hAb
      have HS := Lib.hid hstep
      have hkx : Hid (x.tmod 120 = x % 120 ∧ (Lit.int .u8 (x % 120)).wf = true) := Lib.hid ⟨by rw [Int.tmod_eq_emod_of_nonneg hbd.1], WalkArith.wf_u8 (by omega)⟩
      clear hstep hxk
      cases hfx : f (x % 120) with
      | true =>
        have HFX := Lib.hid hfx
        go_wp2_with (at_lookup; refine wpList_lookup_met rfl _ _ 150 rfl 5 4 .u8 Try.underlying5 Try.underlying150 Try.underlying4 (zero_bool _) w.heap.size out.length f rfl HM.out _ rfl (x % 120) (by first | rfl | exact hkx.out.1) hkx.out.2 ?_; rw [hfx])
        go_roundw
        case rel =>
          refine ⟨k + 1, f, out, by omega, by go_num, HO, HM, HF, Lib.hid ?_, HN⟩
          rw [← HL.out, HS.out, HFX.out, if_pos rfl]
        case measure => simp [intOf]; omega
      | false =>
        have HFX := Lib.hid hfx
        have hml := HM.out.lt
        have hlen : out.length ≤ 120 := by rw [HN.out]; exact metN_le _ _
        have b0 : out.length < maxLen := by rw [show maxLen = 9223372036854775807 from rfl]; omega
        have b1 : out.length + 1 ≤ maxLen := by rw [show maxLen = 9223372036854775807 from rfl]; omega
        have b2 : (out.length + 1) * 8 ≤ 140737488355328 := by omega
        obtain ⟨i0, hi, hz0, hz1, hz2⟩ := info_u64'
        have hy0 : 0 ≤ x % 120 := by omega
        have hy1 : x % 120 < 120 := by omega
        go_wp2_with (first | (at_lookup; refine wpList_lookup_met rfl _ _ 150 rfl 5 4 .u8 Try.underlying5 Try.underlying150 Try.underlying4 (zero_bool _) w.heap.size out.length f rfl HM.out _ rfl (x % 120) (by first | rfl | exact hkx.out.1) hkx.out.2 ?_; rw [hfx]) | (at_mapUpdate; refine wpList_update_met rfl _ _ _ 150 rfl 5 4 .u8 Try.underlying5 Try.underlying150 Try.underlying4 w.heap.size out.length f rfl HM.out b0 _ rfl (x % 120) (by first | rfl | exact hkx.out.1) hkx.out.2 true rfl ?_; intro w1 hm1 hg1; have HM1 := Lib.hid hm1; have HF1 := Lib.hid (HF.out.grown hg1 (by intro q hq; obtain rfl := Option.some.inj hq; exact Nat.le_refl _)); have HO1 := Lib.hid (own_same HO.out (fun q hq hl _ => hg1.block q hl (by intro e; obtain rfl := Option.some.inj e; omega))); clear hm1 hg1) | (at_builtin; refine wpList_append_own _ rfl _ _ 33 rfl (w.heap.size + 1) 22 i0 (.int .u64 0) 1 8 Try.underlying33 hi hz0 hz1 hz2 rfl (by decide) u3 out.length (ints .u64 out) rfl (own_fr (S := nil2) HO1.out ((Fr.refl _ _).alloc _) (fun _ _ _ h => h)) ⟨w1.heap.size, 0, none⟩ 1 1 [.int .u64 (16 + 16 * (x % 120))] rfl rfl (cell_one_new _ _ _) (by simp [Value.oneCell']) b1 b2 (by rw [World.size_alloc]; have := HM1.out.lt; omega) ?_; intro v' w2 hown' hgrow _; have HG2 := Lib.hid hgrow; have HO2 := Lib.hid hown'; clear hgrow hown'))
        go_roundw
        case rel =>
          have hro : ∀ q, u3.ownBlock = some q → w.heap.size + 1 ≤ q := fun q hq => (own_cells HO.out q hq).1
          refine ⟨k + 1, (fun y => if y = x % 120 then true else f y), out ++ [16 + 16 * (x % 120)], by omega, by go_num, ?_, ?_, Lib.hid ?_, Lib.hid ?_, Lib.hid ?_⟩
          · rw [List.length_append, List.length_singleton, show ints IntKind.u64 (out ++ [16 + 16 * (x % 120)]) = ints .u64 out ++ [.int .u64 (16 + 16 * (x % 120))] from by simp [ints]]
            exact HO2
          · rw [List.length_append, List.length_singleton]
            exact Lib.hid ((HM1.out.alloc _).kept HG2.out (by intro e; have := hro _ e.symm; omega))
          · exact ((HF1.out.trans' ((Fr.refl _ _).alloc _)).grown HG2.out (fun q hq => by have := hro q hq; omega))
          · rw [← HL.out, HS.out, HFX.out, if_neg (by simp), List.append_assoc]; rfl
          · rw [List.length_append, List.length_singleton, HN.out, metN_new f _ hy0 HFX.out 120 hy1]
        case measure => simp [intOf]; omega
    · have hke : k = l.length := by omega
      have HL2 : Hid (out = blk (fun _ => false) l) := Lib.hid (by have := HL.out; rw [hke, List.drop_length] at this; simpa [blk] using this)
      go_wp2
      go_ret
      refine ⟨⟨_, rfl, ?_⟩, HF.out⟩
      rw [← HL2.out]
      exact own_lower HO.out (by omega)

end Go.Proofs.Ythginpedlfocpaa
