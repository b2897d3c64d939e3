/- Contracts of lists: all, in order. -/
import Derived.Test.YthginpedlfocpaaListC
import Derived.Sort.CutIn
import Derived.Sort.QuietIn
import Derived.RangeFuncBox
import Derived.OwnWalkIn
namespace Go.Proofs.Ythginpedlfocpaa
open Go.RowKit Go.Alo Go.Shelf
attribute [local go_sem] Oper.semAt_some max_ints min_ints

theorem info_u64 : (Try.prog.info? 22).map (fun i => (i.zero, i.size, i.bytes)) = some (some (.int .u64 0), 1, 8) := by kernel_rfl

/-- The blocks of a chain, so many. -/
def chL (bs : List Int) (h : Int) (k : Nat) : List Int := (List.range k).map (hd bs h)

/-- All of a list, if the chain ends where it should. -/
def allF (bs : List Int) (h n : Int) : Option (List Int) := match chF bs h n with
  | some k => if (k : Int) = n then some (chL bs h k) else none
  | none => none


theorem own_slice {w : World} {base size n : Nat} {e : TypeId} {v : Value} {xs : List Value} (h : w.ownsRow base e size v n xs) : ∃ A cap, v = .slice A n cap := by
  rcases h.2 with ⟨rfl, rfl⟩ | ⟨g, cap, cur, rfl, _⟩
  · exact ⟨_, _, rfl⟩
  · exact ⟨_, _, rfl⟩

theorem hd_tail (bs : List Int) (h : Int) (i : Nat) : hd bs (ldF bs h) i = hd bs h (i + 1) := by
  induction i with
  | zero => rfl
  | succ i ih => show ldF bs (hd bs (ldF bs h) i) = ldF bs (hd bs h (i + 1)); rw [ih]

/-- A chain that ends: what hangs where. -/
theorem chN_spec (bs : List Int) (r : Nat) : ∀ (h : Int) (k : Nat), chN bs h r = some k → k ≤ r ∧ hd bs h k = 0 ∧ ∀ i, i < k → hd bs h i ≠ 0 ∧ ldE bs (hd bs h i) = 0 := by
  induction r with
  | zero =>
    intro h k hk
    simp only [chN] at hk
    split at hk
    · rename_i h0
      obtain rfl := Option.some.inj hk
      exact ⟨Nat.le_refl _, h0, by intro i hi; omega⟩
    · simp at hk
  | succ r ih =>
    intro h k hk
    simp only [chN] at hk
    split at hk
    · rename_i h0
      obtain rfl := Option.some.inj hk
      exact ⟨by omega, h0, by intro i hi; omega⟩
    · rename_i h0
      split at hk
      · rename_i hok
        obtain ⟨q, hq, rfl⟩ := Option.map_eq_some_iff.1 hk
        obtain ⟨i1, i2, i3⟩ := ih _ _ hq
        refine ⟨by omega, by rw [← hd_tail]; exact i2, ?_⟩
        intro i hi
        cases i with
        | zero => exact ⟨h0, hok⟩
        | succ i => rw [← hd_tail]; exact i3 i (by omega)
      · simp at hk

/-- What was seen of a chain that ends in so many. -/
theorem sq_whole {bs : List Int} {h : Int} {k : Nat} {xs : List (Int × Bool)} (hz : hd bs h k = 0) (hs : Sq bs h xs) : xs.length ≤ k := by
  rcases Nat.lt_or_ge k xs.length with hlt | hge
  · exact absurd hz (hs k xs[k] (List.getElem?_eq_getElem hlt)).1
  · exact hge

theorem sq_ends {bs : List Int} {h : Int} {k : Nat} {xs : List (Int × Bool)} (hz : hd bs h k = 0) (hok : ∀ i, i < k → hd bs h i ≠ 0 ∧ ldE bs (hd bs h i) = 0) (hs : Sq bs h xs) (he : hd bs h xs.length = 0 ∨ ∃ pre x, xs = pre ++ [x] ∧ x.2 = false) : xs.length = k := by
  have hle := sq_whole hz hs
  rcases Nat.lt_or_ge xs.length k with hlt | hge
  · rcases he with he | ⟨pre, x, rfl, hx⟩
    · exact absurd he (hok _ hlt).1
    · have h2 := (hs pre.length x (by simp)).2
      rw [h2] at hx
      have := (hok pre.length (by simp at hlt; omega)).2
      simp [this] at hx
  · omega

theorem sq_list {bs : List Int} {h : Int} {xs : List (Int × Bool)} (hs : Sq bs h xs) : xs.map Prod.fst = chL bs h xs.length := by
  apply List.ext_getElem?
  intro i
  unfold chL
  rw [List.getElem?_map, List.getElem?_map]
  rcases Nat.lt_or_ge i xs.length with hlt | hge
  · rw [List.getElem?_range hlt, List.getElem?_eq_getElem hlt]
    simp only [Option.map_some]
    rw [(hs i xs[i] (List.getElem?_eq_getElem hlt)).2]
  · rw [List.getElem?_eq_none hge, List.getElem?_eq_none (by simpa using hge)]
    rfl

/-- Between two rounds of All's loop. -/
structure AllJ (bs : List Int) (h : Int) (k m B hb : Nat) (w : World) (pre : List (Int × Bool)) (W : World) : Prop where
  fr : Fr nil2 w W
  size : hb < W.heap.size
  mem : Cel W (hb - 1) 0 (.pointer (some ⟨m, 0, none⟩))
  box : ∃ v, Cel W B 0 v ∧ W.ownsRow (hb + 1) 22 1 v pre.length (ints .u64 (pre.map Prod.fst))
  sq : Sq bs h pre

theorem AllJ.turn {bs : List Int} {h : Int} {k m B hb : Nat} {w : World} {pre : List (Int × Bool)} {W W' : World} (j : AllJ bs h k m B hb w pre W) (f : Fr (fun q _ => q = hb) W W') (hB : w.heap.size ≤ B) (hB2 : B + 1 < hb) : AllJ bs h k m B hb w pre W' := by
  obtain ⟨v, hv, ho⟩ := j.box
  exact ⟨j.fr.step f (by intro i o hi h; omega), Nat.lt_of_lt_of_le j.size f.size, j.mem.fr f (by omega), ⟨v, hv.fr f (by omega), own_fr ho f (by intro q o hq; omega)⟩, j.sq⟩
theorem AllJ.put {bs : List Int} {h : Int} {k m B hb : Nat} {w : World} {pre : List (Int × Bool)} {W : World} {l : Nat} {o o' : Obj} (j : AllJ bs h k m B hb w pre W) (hl : w.heap.size ≤ l) (ho : W.heap[l]? = some o) (hc : o.isCells = false) : AllJ bs h k m B hb w pre (W.putObj l o') := by
  obtain ⟨v, hv, hw⟩ := j.box
  exact ⟨j.fr.putObj l o' hl, by simpa [World.putObj] using j.size, j.mem.put ho hc, ⟨v, hv.put ho hc, own_put hw ho hc⟩, j.sq⟩

/-- A round's end: one block more. -/
theorem AllJ.more {bs : List Int} {h : Int} {k m B hb : Nat} {w : World} {pre : List (Int × Bool)} {W W' W2 : World} {v v' : Value} {x : Int × Bool} (j : AllJ bs h k m B hb w pre W) (hB : w.heap.size ≤ B) (hB2 : B + 1 < hb) (hw : W.ownsRow (hb + 1) 22 1 v pre.length (ints .u64 (pre.map Prod.fst))) (f : Fr nil2 W W2) (hg : W2.grownBy W' v.ownBlock)
    (hbx : Cel W B 0 v) (ho : W'.ownsRow (hb + 1) 22 1 v' (pre.length + 1) (ints .u64 (pre.map Prod.fst) ++ [.int .u64 x.1])) (hs : Sq bs h (pre ++ [x])) :
    AllJ bs h k m B hb w (pre ++ [x]) (W'.setCell ⟨B, 0, none⟩ v') ∧ KeepsOthers W (W'.setCell ⟨B, 0, none⟩ v') ∧ (∀ u, Cel W hb 0 u → Cel (W'.setCell ⟨B, 0, none⟩ v') hb 0 u) := by
  have hw2 := own_fr hw f (fun _ _ _ h => h)
  have hr : ∀ q, v.ownBlock = some q → hb + 1 ≤ q := fun q hq => (own_cells hw q hq).1
  have hsz := f.size
  have hlow : ∀ (b o : Nat) (u : Value), b ≤ hb → Cel W b o u → Cel W' b o u := fun b o u hb' hu =>
    (hu.fr f (fun h => h)).same (hg.block b (Nat.lt_of_lt_of_le hu.lt hsz) (fun e => by have := hr b e.symm; omega))
  refine ⟨⟨?_, ?_, ?_, ⟨v', ?_, ?_⟩, hs⟩, ?_, ?_⟩
  · exact ((j.fr.trans' f).grown hg (fun q hq => by have := hr q hq; have := j.fr.size; omega)).setCell _ _ (by omega) _
  · have := j.size; have := hg.size; simp only [World.size_setCell]; omega
  · exact (hlow _ _ _ (by omega) j.mem).other _ (by omega)
  · exact (hlow _ _ _ (by omega) hbx).set _
  · rw [List.length_append, List.length_singleton, List.map_append, List.map_singleton]
    have e : ints IntKind.u64 (pre.map Prod.fst ++ [x.1]) = ints .u64 (pre.map Prod.fst) ++ [.int .u64 x.1] := by simp [ints]
    rw [e]
    exact own_fr ho ((Fr.refl (fun q _ => q = B) _).setCell B 0 (fun _ => rfl) v') (by intro q o hq; omega)
  · refine ((KeepsOthers.of_fr f).trans (KeepsOthers.of_grownBy hg ?_)).trans (KeepsOthers.setCell _ _ _)
    intro q o hq ho'
    obtain ⟨_, c, hc⟩ := own_cells hw2 q hq
    rw [hc] at ho'
    obtain rfl := Option.some.inj ho'
    rfl
  · intro u hu
    exact (hlow _ _ _ (Nat.le_refl _) hu).other _ (by omega)

/-- What a chain's word says of all. -/
theorem all_bad {bs : List Int} {h n : Int} (hh : ¬ ((chR bs h n).2.2 = 0 ∧ (chR bs h n).1 = h ∧ (chR bs h n).2.1 = n)) : allF bs h n = none := by
  unfold chR at hh
  unfold allF
  cases hc : chF bs h n with
  | none => rfl
  | some k =>
    rw [hc] at hh
    simp only at hh ⊢
    rw [if_neg (by intro e; exact hh ⟨trivial, trivial, e⟩)]

theorem all_good {bs : List Int} {h n : Int} (h3 : (chR bs h n).2.2 = 0) (h2 : (chR bs h n).2.1 = n) : ∃ k : Nat, chF bs h n = some k ∧ (k : Int) = n ∧ allF bs h n = some (chL bs h k) := by
  unfold chR at h3 h2
  unfold allF
  cases hc : chF bs h n with
  | none => rw [hc] at h3; simp at h3
  | some k =>
    rw [hc] at h2
    simp only at h2 ⊢
    exact ⟨k, rfl, h2, by rw [if_pos h2]⟩

def AllPost (m g : Nat) (bs : List Int) (r : Option (List Int)) (w : World) (e : Ending) (w' : World) : Prop :=
  (match r with
   | none => e = .returned (.tuple #[.slice none 0 0, .int .i64 3])
   | some l => ∃ v, e = .returned (.tuple #[v, .int .i64 0]) ∧ w'.ownsRow w.heap.size 22 1 v l.length (ints .u64 l)) ∧ Fr nil2 w w'

set_option maxRecDepth 100000 in
set_option maxHeartbeats 4000000 in
theorem all_any (m g lb lo : Nat) (bs : List Int) (h n : Int) (w : World) (hm : IsMem 149 w m g bs) (hl : IsList w lb lo h n) (hbig : bs.length ≤ 1000000000) :
    Calls Try.prog 31 #[.pointer (some ⟨lb, lo, none⟩), .pointer (some ⟨m, 0, none⟩)] w (AllPost m g bs (allF bs h n) w) := by
  have HM := Lib.hid hm
  have HL := Lib.hid hl
  obtain ⟨c1, f1⟩ := hl.head
  obtain ⟨c2, f2⟩ := hl.num
  have hh0 := hl.h0
  have hh1 := hl.h1
  clear hm hl
  refine (callsIn_wide (n := 3)).1 ?_
  refine callsIn_of_wp_marks Try.func31 rfl trivial ?_ rfl
  simp only [Try.ntmps31, List.size_toArray, List.length_cons, List.length_nil, Nat.reduceAdd, Nat.reduceSub, Array.replicate_succ, Array.replicate_zero, List.push_toArray, List.append_toArray, List.nil_append, List.cons_append]
  gi_wp2
  have hX := Cel.new w 33 (.slice none 0 0)
  have hf1 : Fr nil2 w (w.alloc (.cells #[.slice none 0 0] 33)) := (Fr.refl _ _).alloc _
  have hsz1 : (w.alloc (.cells #[.slice none 0 0] 33)).heap.size = w.heap.size + 1 := by simp
  generalize w.alloc (.cells #[.slice none 0 0] 33) = W1 at *
  have HM1 := Lib.hid (HM.out.fr hf1 (fun _ h => h) (fun _ h => h))
  have HL1 := Lib.hid (HL.out.fr hf1 (fun h => h) (fun h => h))
  have HX := Lib.hid hX
  have HF1 := Lib.hid hf1
  have HSZ1 := Lib.hid hsz1
  clear hX hf1 hsz1 c1 f1 c2 f2
  obtain ⟨c1, f1⟩ := HL1.out.head
  obtain ⟨c2, f2⟩ := HL1.out.num
  have c1a := (HL1.out.head.alloc (.cells #[.int .u64 0, .int .i64 0] 36)).1
  have c2a := (HL1.out.num.alloc (.cells #[.int .u64 0, .int .i64 0] 36)).1
  have hR := chain_any m g bs h n
  obtain ⟨r1, hr1⟩ : ∃ r, (chR bs h n).1 = r := ⟨_, rfl⟩
  obtain ⟨r2, hr2⟩ : ∃ r, (chR bs h n).2.1 = r := ⟨_, rfl⟩
  obtain ⟨r3, hr3⟩ : ∃ r, (chR bs h n).2.2 = r := ⟨_, rfl⟩
  have HC1 : Hid (Calls Try.prog 30 #[.pointer (some ⟨m, 0, none⟩), .int .u64 h, .int .i64 n] W1.drew fun e w' => e = .returned (.tuple #[.agg #[.int .u64 r1, .int .i64 r2], .int .i64 r3]) ∧ Fr nil2 W1.drew w') :=
    Lib.hid (by rw [← hr1, ← hr2, ← hr3]; exact hR _ HM1.out.drew hh0 hh1)
  have HC2 : Hid (Calls Try.prog 30 #[.pointer (some ⟨m, 0, none⟩), .int .u64 h, .int .i64 n] (W1.alloc (.cells #[.int .u64 0, .int .i64 0] 36)).drew fun e w' => e = .returned (.tuple #[.agg #[.int .u64 r1, .int .i64 r2], .int .i64 r3]) ∧ Fr nil2 W1 w' ∧ Cel w' W1.heap.size 0 (.int .u64 0) ∧ Cel w' W1.heap.size 1 (.int .i64 0)) :=
    Lib.hid (by
      rw [← hr1, ← hr2, ← hr3]
      refine (hR _ (HM1.out.alloc (.cells #[.int .u64 0, .int .i64 0] 36)).drew hh0 hh1).mono fun e w' ⟨he, hf⟩ => ⟨he, ((Fr.refl nil2 W1).alloc (.cells #[.int .u64 0, .int .i64 0] 36)).drew.trans' hf, ?_, ?_⟩
      · exact Cel.fr (Cel.of_row (Row.new W1 36 [.int .u64 0, .int .i64 0]).drew 0 (by simp)) hf (fun h => h)
      · exact Cel.fr (Cel.of_row (Row.new W1 36 [.int .u64 0, .int .i64 0]).drew 1 (by simp)) hf (fun h => h))
  have HR1 := Lib.hid hr1
  have HR2 := Lib.hid hr2
  have HR3 := Lib.hid hr3
  clear hR hr1 hr2 hr3
  gi_cut [6, 7] from 15 (fun v6 v7 wr => ∃ C, v6 = .pointer (some ⟨C, 0, none⟩) ∧ v7 = .int .i64 r3 ∧ Hid (Cel wr C 0 (.int .u64 r1)) ∧ Hid (Cel wr C 1 (.int .i64 r2)) ∧ Hid (Fr nil2 W1 wr) ∧ W1.heap.size ≤ C)
  case first =>
    refine wpIn_mono (Q := NoPanic _) ?_ NoPanic.imp
    gi_region_with (refine ⟨trivial, ?_⟩; gi_at_call 30; (first | ((with_reducible refine (callsIn_wide.2 HC1.out).mono ?_); rintro e w2 ⟨rfl, hf2⟩) | ((with_reducible refine (callsIn_wide.2 HC2.out).mono ?_); rintro e w2 ⟨rfl, hf2, ⟨g1, g2⟩, ⟨g3, g4⟩⟩)))
    all_goals refine NoPanic.normal ?_
    all_goals
      gi_wp2
      gi_meet
    all_goals
      first
      | exact ⟨w2.heap.size, rfl, rfl, Lib.hid (Cel.of_row (Row.new w2 36 [.int .u64 r1, .int .i64 r2]) 0 (by simp)), Lib.hid (Cel.of_row (Row.new w2 36 [.int .u64 r1, .int .i64 r2]) 1 (by simp)), Lib.hid (((Fr.refl nil2 W1).drew.trans' hf2).alloc _), hf2.size⟩
      | exact ⟨W1.heap.size, rfl, rfl, Lib.hid ((Cel.set ⟨g1, g2⟩ _).other _ (by omega)), Lib.hid ((Cel.other ⟨g3, g4⟩ _ (by omega)).set _), Lib.hid ((hf2.setCell _ _ (by omega) _).setCell _ _ (by omega) _), Nat.le_refl _⟩
  case rest =>
    obtain ⟨C, rfl, rfl, HC0, HC1', HFW, hCW⟩ := hcut
    have HMw := Lib.hid (HM1.out.fr HFW.out (fun _ h => h) (fun _ h => h))
    have HLw := Lib.hid (HL1.out.fr HFW.out (fun h => h) (fun h => h))
    have HXw := Lib.hid (HX.out.fr HFW.out (fun h => h))
    clear c1 f1 c2 f2 c1a c2a
    obtain ⟨c1, f1⟩ := HLw.out.head
    obtain ⟨c2, f2⟩ := HLw.out.num
    obtain ⟨c3, f3⟩ := HC0.out
    obtain ⟨c4, f4⟩ := HC1'.out
    obtain ⟨c5, f5⟩ := HXw.out
    by_cases hr3 : r3 = 0
    · have hr3' : (r3 != 0) = false := by simp [hr3]
      have HR30 := Lib.hid hr3
      clear hr3
      have hr1h : r1 = h := by
        have h1 := HR1.out
        have h3 := HR3.out.trans HR30.out
        unfold chR at h1 h3
        cases hc : chF bs h n with
        | none => rw [hc] at h3; simp at h3
        | some k => rw [hc] at h1; exact h1.symm
      subst hr1h
      by_cases heq : r2 = n
      · subst heq
        obtain ⟨k, hk1, hk2, hk3⟩ := all_good (HR3.out.trans HR30.out) HR2.out
        obtain ⟨hk4, hk5, hk6⟩ := chN_spec _ _ _ _ hk1
        have hkb : k ≤ bs.length := by have := mn_eq r2 bs.length; omega
        have HK1 := Lib.hid hk1
        have HK2 := Lib.hid hk2
        have HK3 := Lib.hid hk3
        have HK5 := Lib.hid hk5
        have HK6 := Lib.hid hk6
        clear hk1 hk2 hk3 hk4 hk5 hk6
        gi_wp2
        gi_quiet (fail)
        gi_wp2_with fail
        refine ⟨trivial, (callsIn_wide.2 (from_any _ _ _)).mono ?_⟩
        rintro e w' ⟨rfl, rfl⟩
        gi_wp2_with fail
        have q0 := ((HM1.out.obj.lt))
        obtain ⟨hbb, hhb⟩ : ∃ q, q = wc.heap.size + 1 := ⟨_, rfl⟩
        have hj0 : AllJ bs r1 k m w.heap.size (wc.heap.size + 1) w [] ((((wc.drewN nq).alloc (.cells #[.pointer (some ⟨m, 0, none⟩)] 30)).alloc (.cells #[.int .u64 r1] 22))) := by
          have hsz : (((wc.drewN nq).alloc (.cells #[.pointer (some ⟨m, 0, none⟩)] 30)).alloc (.cells #[.int .u64 r1] 22)).heap.size = wc.heap.size + 2 := by
            show (World.alloc _ _).heap.size = _
            simp only [World.size_alloc]
            rfl
          refine ⟨((((HF1.out.trans' HFW.out).drewN nq).alloc _).alloc _), by omega, ?_, ⟨.slice none 0 0, ?_, ?_⟩, Sq.nil _ _⟩
          · exact ((Cel.new (wc.drewN nq) 30 (.pointer (some ⟨m, 0, none⟩))).alloc (.cells #[.int .u64 r1] 22))
          · exact ((((HXw.out.drewN nq).alloc (.cells #[.pointer (some ⟨m, 0, none⟩)] 30)).alloc (.cells #[.int .u64 r1] 22)))
          · exact World.ownsRow_nil _ _ _ _
        have hc4 : Cel ((((wc.drewN nq).alloc (.cells #[.pointer (some ⟨m, 0, none⟩)] 30)).alloc (.cells #[.int .u64 r1] 22))) (wc.heap.size + 1) 0 (.int .u64 r1) := by
          have := (Cel.new ((wc.drewN nq).alloc (.cells #[.pointer (some ⟨m, 0, none⟩)] 30)) 22 (.int .u64 r1))
          rw [World.size_alloc] at this
          exact this
        have hs5 : ((((wc.drewN nq).alloc (.cells #[.pointer (some ⟨m, 0, none⟩)] 30)).alloc (.cells #[.int .u64 r1] 22))).heap.size = wc.heap.size + 2 := by
          show (World.alloc _ _).heap.size = _
          simp only [World.size_alloc]
          rfl
        generalize ((((wc.drewN nq).alloc (.cells #[.pointer (some ⟨m, 0, none⟩)] 30)).alloc (.cells #[.int .u64 r1] 22))) = W0 at *
        have hg := HMw.out.bytes.lt
        have hml := HMw.out.obj.lt
        have hwl := HXw.out.lt
        refine range_law (gf := 144) (lb := #[.pointer (some ⟨wc.heap.size + 1, 0, none⟩), .pointer (some ⟨wc.heap.size, 0, none⟩)]) rfl (enters_of Try.func144 (by kernel_rfl) rfl)
          (from_iter _ m g wc.heap.size (wc.heap.size + 1) k bs r1 hh0 hh1 W0 hc4 (by omega) (by omega) (by omega))
          (fun h k v hv => k v (h v hv)) (fun W l o o' hl ho hc v hv => hv.put ho hc) (fun x => rfl)
          (AllJ bs r1 k m w.heap.size (wc.heap.size + 1) w) (fun _ _ _ => False) ?hJ ?hJx ?f1 ?f2 hj0 ?round ?done ?stop
        case hJ => exact ⟨fun s W l o o' hl ho hc j => j.put (by omega) ho hc, fun s W o hB j => j.turn ((Fr.refl _ _).alloc o) (Nat.le_refl _) (by omega)⟩
        case hJx => exact fun c => ⟨fun s W l o o' hl ho hc j => j, fun s W o hB j => j⟩
        case f1 =>
          intro l r D d _ _
          refine ⟨FineFr.loop (fun s W W' j f => j.turn f (Nat.le_refl _) (by omega)) l r D d, ?_⟩
          rintro pre W ⟨j, _⟩
          exact ⟨by have := sq_whole HK5.out j.sq; omega, HM.out.fr j.fr (fun _ h => h) (fun _ h => h), j.mem.1⟩
        case f2 =>
          intro l r D d _ _
          refine ⟨FineFr.loopx (fun c s W W' j f => j) l r D d, ?_⟩
          rintro pre W ⟨c, j, _⟩
          exact j.elim
        case round =>
          intro l pre x W hl j hok
          have hle := sq_whole HK5.out hok
          rw [List.length_append, List.length_singleton] at hle
          have HJ := Lib.hid j
          have HOK := Lib.hid hok
          obtain ⟨v, hbx, hrow⟩ := j.box
          clear j hok
          have HROW := Lib.hid hrow
          have HBX := Lib.hid hbx
          obtain ⟨c1, f1⟩ := hbx
          obtain ⟨xa, xb⟩ := x
          apply Exists.intro
          apply And.intro
          · intro Wq K hK
            simp [encF]
            gi_wp2
            exact hK
          · have hwa : Fr nil2 W (W.alloc (.cells #[.int .u64 xa] 22)) := (Fr.refl _ _).alloc _
            have hnew : (W.alloc (.cells #[.int .u64 xa] 22)).cell? (⟨W.heap.size, 0, none⟩ : Addr) = some (.int .u64 xa) := (Cel.new W 22 (.int .u64 xa)).1
            have HWA := Lib.hid hwa
            have HROW2 := Lib.hid (own_fr hrow hwa (fun _ _ _ h => h))
            have HNEW := Lib.hid hnew
            have hsz := HJ.out.size
            have HB : Hid ((w.heap.size + 1 < wc.heap.size + 1) ∧ (∀ q, v.ownBlock = some q → wc.heap.size + 1 + 1 ≤ q)) := Lib.hid ⟨by omega, fun q hq => (own_cells hrow q hq).1⟩
            have b1 : pre.length + 1 ≤ maxLen := by rw [show maxLen = 9223372036854775807 from rfl]; omega
            have b2 : (pre.length + 1) * 8 ≤ 140737488355328 := by omega
            have b3 : wc.heap.size + 1 + 1 ≤ (W.alloc (.cells #[.int .u64 xa] 22)).heap.size := by rw [World.size_alloc]; omega
            clear hwa hnew hrow
            obtain ⟨i0, hi, hz0, hz1, hz2⟩ : ∃ i0, Try.prog.info? 22 = some i0 ∧ i0.zero = some (.int .u64 0) ∧ i0.size = 1 ∧ i0.bytes = 8 := by
              have := info_u64
              cases hq : Try.prog.info? 22 with
              | none => rw [hq] at this; simp at this
              | some i0 => rw [hq] at this; simp at this; exact ⟨i0, rfl, this.1, this.2.1, this.2.2⟩
            gi_wp2_with (gi_at_builtin; refine wpListIn_append_own _ rfl _ _ 33 rfl (wc.heap.size + 1 + 1) 22 i0 (.int .u64 0) 1 8 Try.underlying33 hi hz0 hz1 hz2 rfl (by decide) v pre.length (ints .u64 (pre.map Prod.fst)) rfl HROW2.out ⟨W.heap.size, 0, none⟩ 1 1 [.int .u64 xa] rfl rfl (cell_one_new _ _ _) (by simp [Value.oneCell']) b1 b2 b3 ?_; intro v' w1 hown' hgrow _; have HG := Lib.hid hgrow; have HO := Lib.hid hown'; clear hgrow; have c9 := (HBX.out.fr HWA.out (fun h => h)).same (HG.out.block _ (Nat.lt_of_lt_of_le HBX.out.lt HWA.out.size) (fun e => by have := HB.out.2 _ e.symm; have := HB.out.1; omega)); obtain ⟨c91, c92⟩ := c9; obtain ⟨g', cap', rfl⟩ := ownsRow_succ hown'; clear hown')
            obtain ⟨k1, k2, k3⟩ := HJ.out.more (x := (xa, xb)) (by omega) (by omega) HROW.out HWA.out HG.out HBX.out HO.out HOK.out
            exact ⟨k2, k3, k1⟩
        case done =>
          rintro D xs W hD ⟨hs, hend⟩ j hK
          have hxl := sq_ends HK5.out HK6.out hs hend
          have hxm := sq_list hs
          rw [hxl] at hxm
          obtain ⟨v, hbx, hrow⟩ := j.box
          rw [hxl, hxm] at hrow
          have HFR := Lib.hid j.fr
          have HBX := Lib.hid hbx
          have HROW := Lib.hid hrow
          clear hs hend hxl hxm j hrow
          obtain ⟨A9, cap9, rfl⟩ := own_slice HROW.out
          obtain ⟨c9, f9⟩ := hbx
          gi_wp2
          have gx := (HBX.out.set (.slice A9 k cap9)).put (x' := .deferred none) ((KeepsOthers.setCell W ⟨w.heap.size, 0, none⟩ (.slice A9 k cap9)).same D _ hK rfl) rfl
          have hK' := (KeepsOthers.setCell W ⟨w.heap.size, 0, none⟩ (.slice A9 k cap9)).same D _ hK rfl
          refine ⟨by simp, .inl ⟨_, _, rfl, run_takeDeferred hK', ?_⟩⟩
          refine ⟨.tuple #[.slice A9 k cap9, .int .i64 0], ?_, ?_, ?_⟩
          · simp [results, Try.results31, go_sem, gx.1]
          · rw [HK3.out]
            refine ⟨_, rfl, ?_⟩
            have := own_put (x' := .deferred none) (own_fr HROW.out ((Fr.refl (fun q _ => q = w.heap.size) _).setCell w.heap.size 0 (fun _ => rfl) (.slice A9 k cap9)) (by intro q o hq; omega)) hK' rfl
            rw [show (chL bs r1 k).length = k from by simp [chL]]
            exact own_lower this (by omega)
          · exact (HFR.out.setCell _ _ (by omega) _).putObj _ _ (by omega)
        case stop =>
          rintro D c pre W hD hs j hK
          exact j.elim
      · have heq' : (r2 == n) = false := by simp [heq]
        have heq2 : (r2 != n) = true := by simp [heq]
        have HAB := Lib.hid (all_bad (bs := bs) (h := r1) (n := n) (by rw [HR2.out]; exact fun hx => heq hx.2.2))
        clear heq
        gi_wp2
        gi_quiet (fail)
        gi_wp2
        have gx := (HXw.out.drewN nq).set (.slice none 0 0)
        refine ⟨.tuple #[.slice none 0 0, .int .i64 3], by simp [results, Try.results31, go_sem, gx.1], ?_, ?_⟩
        · rw [HAB.out]
        · exact (((HF1.out.trans' HFW.out).drewN nq).setCell _ _ (by omega) _)
    · have hr3' : (r3 != 0) = true := by simp [hr3]
      have HAB := Lib.hid (all_bad (bs := bs) (h := h) (n := n) (by rw [HR3.out]; exact fun hx => hr3 hx.1))
      have hr33 : r3 = 3 := by
        have h3 := HR3.out
        unfold chR at h3
        cases hc : chF bs h n with
        | none => rw [hc] at h3; exact h3.symm
        | some k => rw [hc] at h3; exact absurd h3.symm hr3
      clear hr3
      gi_wp2
      gi_quiet (fail)
      gi_wp2
      have gx := (HXw.out.drewN nq).set (.slice none 0 0)
      refine ⟨.tuple #[.slice none 0 0, .int .i64 3], by simp [results, Try.results31, go_sem, gx.1], ?_, ?_⟩
      · rw [HAB.out]
      · exact (((HF1.out.trans' HFW.out).drewN nq).setCell _ _ (by omega) _)

end Go.Proofs.Ythginpedlfocpaa
