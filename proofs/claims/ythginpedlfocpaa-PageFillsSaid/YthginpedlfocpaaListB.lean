/- Contracts of lists: the chain from a block on. -/
import Derived.Test.YthginpedlfocpaaListA
import Derived.Stop.RegionWithIn
import Derived.Deep.RegionHeld3
namespace Go.Proofs.Ythginpedlfocpaa
open Go.RowKit Go.Alo Go.Shelf
attribute [local go_sem] Oper.semAt_some max_ints min_ints

set_option maxHeartbeats 400000 in
theorem from_any (m : Nat) (h : Int) (w : World) :
    Calls Try.prog 103 #[.pointer (some ⟨m, 0, none⟩), .int .u64 h] w fun e w' =>
      e = .returned (.func (.func 144) #[] #[.pointer (some ⟨w.heap.size + 1, 0, none⟩), .pointer (some ⟨w.heap.size, 0, none⟩)]) ∧
      w' = (w.alloc (.cells #[.pointer (some ⟨m, 0, none⟩)] 30)).alloc (.cells #[.int .u64 h] 22) := by
  go_enter Try.func103, Try.ntmps103
  go_wp2
  go_ret
  exact ⟨rfl, rfl⟩

/-- How many blocks hang on one, if it ends within so many. -/
def chN (bs : List Int) (h : Int) : Nat → Option Nat
  | 0 => if h = 0 then some 0 else none
  | r + 1 => if h = 0 then some 0 else if ldE bs h = 0 then (chN bs (ldF bs h) r).map (· + 1) else none

def chF (bs : List Int) (h most : Int) : Option Nat := chN bs h (mn most bs.length).toNat

def chR (bs : List Int) (h most : Int) : Int × Int × Int := match chF bs h most with
  | some n => (h, n, 0)
  | none => (0, 0, 3)

theorem chN_zero (bs : List Int) (r : Nat) : chN bs 0 r = some 0 := by cases r <;> simp [chN]
theorem chN_step (bs : List Int) (h : Int) (r : Nat) (h0 : h ≠ 0) (hr : 0 < r) (hok : ldE bs h = 0) : chN bs h r = (chN bs (ldF bs h) (r - 1)).map (· + 1) := by
  obtain ⟨q, rfl⟩ : ∃ q, r = q + 1 := ⟨r - 1, by omega⟩
  simp [chN, h0, hok]
theorem chN_bad (bs : List Int) (h : Int) (r : Nat) (h0 : h ≠ 0) (hok : ldE bs h ≠ 0) : chN bs h r = none := by
  cases r <;> simp [chN, h0, hok]
theorem chN_end (bs : List Int) (h : Int) (h0 : h ≠ 0) : chN bs h 0 = none := by simp [chN, h0]

def ChainPost (bs : List Int) (h most : Int) (w : World) (e : Ending) (w' : World) : Prop :=
  e = .returned (.tuple #[.agg #[.int .u64 (chR bs h most).1, .int .i64 (chR bs h most).2.1], .int .i64 (chR bs h most).2.2]) ∧ Fr nil2 w w'

/-- Between two rounds of Chain's loop. B: the first block of the call's own. -/
structure ChainJ (bs : List Int) (h R : Int) (m B : Nat) (w : World) (pre : List (Int × Bool)) (W : World) : Prop where
  fr : Fr nil2 w W
  size : B + 4 < W.heap.size
  most : Cel W B 0 (.int .i64 R)
  head : Cel W (B + 1) 0 (.int .u64 0)
  num : Cel W (B + 1) 1 (.int .i64 pre.length)
  err : Cel W (B + 2) 0 (.int .i64 0)
  mem : Cel W (B + 3) 0 (.pointer (some ⟨m, 0, none⟩))
  len : pre.length ≤ R.toNat
  oks : ∀ x ∈ pre, x.2 = true
  says : chN bs h R.toNat = (chN bs (hd bs h pre.length) (R.toNat - pre.length)).map (· + pre.length)

/-- A round has left: the chain doesn't end. -/
structure ChainX (bs : List Int) (h R : Int) (m B : Nat) (w : World) (c : Code) (pre : List (Int × Bool)) (W : World) : Prop where
  is : c = .ret
  fr : Fr nil2 w W
  size : B + 4 < W.heap.size
  head : Cel W (B + 1) 0 (.int .u64 0)
  num : Cel W (B + 1) 1 (.int .i64 0)
  err : Cel W (B + 2) 0 (.int .i64 3)
  mem : Cel W (B + 3) 0 (.pointer (some ⟨m, 0, none⟩))
  len : pre.length ≤ R.toNat + 1
  says : chN bs h R.toNat = none

theorem ChainJ.turn {bs : List Int} {h R : Int} {m B : Nat} {w : World} {pre : List (Int × Bool)} {W W' : World} (j : ChainJ bs h R m B w pre W) (f : Fr (fun k _ => k = B + 4) W W') (hB : w.heap.size ≤ B) : ChainJ bs h R m B w pre W' :=
  ⟨j.fr.step f (by intro i o hi h; omega), Nat.lt_of_lt_of_le j.size f.size, j.most.fr f (by omega), j.head.fr f (by omega), j.num.fr f (by omega), j.err.fr f (by omega), j.mem.fr f (by omega), j.len, j.oks, j.says⟩
theorem ChainX.turn {bs : List Int} {h R : Int} {m B : Nat} {w : World} {c : Code} {pre : List (Int × Bool)} {W W' : World} (j : ChainX bs h R m B w c pre W) (f : Fr (fun k _ => k = B + 4) W W') (hB : w.heap.size ≤ B) : ChainX bs h R m B w c pre W' :=
  ⟨j.is, j.fr.step f (by intro i o hi h; omega), Nat.lt_of_lt_of_le j.size f.size, j.head.fr f (by omega), j.num.fr f (by omega), j.err.fr f (by omega), j.mem.fr f (by omega), j.len, j.says⟩
theorem ChainJ.put {bs : List Int} {h R : Int} {m B : Nat} {w : World} {pre : List (Int × Bool)} {W : World} {l : Nat} {o o' : Obj} (j : ChainJ bs h R m B w pre W) (hl : w.heap.size ≤ l) (ho : W.heap[l]? = some o) (hc : o.isCells = false) : ChainJ bs h R m B w pre (W.putObj l o') :=
  ⟨j.fr.putObj l o' hl, by simpa [World.putObj] using j.size, j.most.put ho hc, j.head.put ho hc, j.num.put ho hc, j.err.put ho hc, j.mem.put ho hc, j.len, j.oks, j.says⟩
theorem ChainX.put {bs : List Int} {h R : Int} {m B : Nat} {w : World} {c : Code} {pre : List (Int × Bool)} {W : World} {l : Nat} {o o' : Obj} (j : ChainX bs h R m B w c pre W) (hl : w.heap.size ≤ l) (ho : W.heap[l]? = some o) (hc : o.isCells = false) : ChainX bs h R m B w c pre (W.putObj l o') :=
  ⟨j.is, j.fr.putObj l o' hl, by simpa [World.putObj] using j.size, j.head.put ho hc, j.num.put ho hc, j.err.put ho hc, j.mem.put ho hc, j.len, j.says⟩

theorem ChainJ.fails {bs : List Int} {h R : Int} {m B : Nat} {w : World} {pre : List (Int × Bool)} {W : World} (j : ChainJ bs h R m B w pre W) (hB : w.heap.size ≤ B) (hs : chN bs h R.toNat = none) (x : Int × Bool) :
    ChainX bs h R m B w .ret (pre ++ [x]) (((W.setCell ⟨B + 1, 0, none⟩ (.int .u64 0)).setCell ⟨B + 1, 1, none⟩ (.int .i64 0)).setCell ⟨B + 1 + 1, 0, none⟩ (.int .i64 3)) := by
  refine ⟨rfl, ?_, ?_, ?_, ?_, ?_, ?_, ?_, hs⟩
  · exact ((j.fr.setCell _ _ (by omega) _).setCell _ _ (by omega) _).setCell _ _ (by omega) _
  · simpa [World.setCell] using j.size
  · exact ((j.head.set _).other _ (by omega)).other _ (by omega)
  · exact (((j.num.other _ (by omega)).set _)).other _ (by omega)
  · exact ((j.err.other _ (by omega)).other _ (by omega)).set _
  · exact ((j.mem.other _ (by omega)).other _ (by omega)).other _ (by omega)
  · have := j.len; simp; omega

theorem ChainJ.more {bs : List Int} {h R : Int} {m B : Nat} {w : World} {pre : List (Int × Bool)} {W : World} (j : ChainJ bs h R m B w pre W) (hB : w.heap.size ≤ B) (hR : (pre.length : Int) < R) (h0 : hd bs h pre.length ≠ 0) (hok : ldE bs (hd bs h pre.length) = 0) (x : Int × Bool) (hx : x.2 = true) :
    ChainJ bs h R m B w (pre ++ [x]) (W.setCell ⟨B + 1, 1, none⟩ (.int .i64 ((pre.length : Int) + 1))) := by
  refine ⟨j.fr.setCell _ _ (by omega) _, by simpa [World.setCell] using j.size, j.most.other _ (by omega), j.head.other _ (by omega), ?_, j.err.other _ (by omega), j.mem.other _ (by omega), by simp; omega, ?_, ?_⟩
  · rw [List.length_append, List.length_singleton]
    have := j.num.set (.int .i64 ((pre.length : Int) + 1))
    rwa [show ((pre.length + 1 : Nat) : Int) = (pre.length : Int) + 1 from by omega]
  · intro y hy
    rcases List.mem_append.1 hy with hy | hy
    · exact j.oks y hy
    · rw [List.mem_singleton.1 hy]; exact hx
  · rw [j.says, chN_step _ _ _ h0 (by omega) hok, List.length_append, List.length_singleton, Option.map_map]
    congr 1
    funext q
    simp; omega

theorem ChainJ.full {bs : List Int} {h R : Int} {m B : Nat} {w : World} {pre : List (Int × Bool)} {W : World} (j : ChainJ bs h R m B w pre W) (hR : R ≤ (pre.length : Int)) (h0 : hd bs h pre.length ≠ 0) : chN bs h R.toNat = none := by
  rw [j.says, show R.toNat - pre.length = 0 from by omega, chN_end _ _ h0]; rfl

/-- The world in which Chain's loop begins. -/
def chainW (h R : Int) (m : Nat) (w : World) : World :=
  (((((w.alloc (.cells #[.int .i64 R] 3)).alloc (.cells #[.int .u64 0, .int .i64 0] 36)).alloc (.cells #[.int .i64 0] 24)).alloc (.cells #[.pointer (some ⟨m, 0, none⟩)] 30)).alloc (.cells #[.int .u64 h] 22)).drew

theorem chainW_says (bs : List Int) (h R : Int) (m : Nat) (w : World) : ChainJ bs h R m w.heap.size w [] (chainW h R m w) ∧ Cel (chainW h R m w) (w.heap.size + 4) 0 (.int .u64 h) ∧ (chainW h R m w).heap.size = w.heap.size + 5 := by
  have a0 := Row.new w 3 [.int .i64 R]
  have a1 := Row.new (w.alloc (.cells #[.int .i64 R] 3)) 36 [.int .u64 0, .int .i64 0]
  have a2 := Row.new ((w.alloc (.cells #[.int .i64 R] 3)).alloc (.cells #[.int .u64 0, .int .i64 0] 36)) 24 [.int .i64 0]
  have a3 := Row.new (((w.alloc (.cells #[.int .i64 R] 3)).alloc (.cells #[.int .u64 0, .int .i64 0] 36)).alloc (.cells #[.int .i64 0] 24)) 30 [.pointer (some ⟨m, 0, none⟩)]
  have a4 := Row.new ((((w.alloc (.cells #[.int .i64 R] 3)).alloc (.cells #[.int .u64 0, .int .i64 0] 36)).alloc (.cells #[.int .i64 0] 24)).alloc (.cells #[.pointer (some ⟨m, 0, none⟩)] 30)) 22 [.int .u64 h]
  simp only [World.size_alloc] at a1 a2 a3 a4
  have b0 := ((((a0.alloc (.cells #[.int .u64 0, .int .i64 0] 36)).alloc (.cells #[.int .i64 0] 24)).alloc (.cells #[.pointer (some ⟨m, 0, none⟩)] 30)).alloc (.cells #[.int .u64 h] 22)).drew
  have b1 := (((a1.alloc (.cells #[.int .i64 0] 24)).alloc (.cells #[.pointer (some ⟨m, 0, none⟩)] 30)).alloc (.cells #[.int .u64 h] 22)).drew
  have b2 := ((a2.alloc (.cells #[.pointer (some ⟨m, 0, none⟩)] 30)).alloc (.cells #[.int .u64 h] 22)).drew
  have b3 := (a3.alloc (.cells #[.int .u64 h] 22)).drew
  have b4 := a4.drew
  have hs : (chainW h R m w).heap.size = w.heap.size + 5 := by
    show (World.alloc _ _).heap.size = _
    simp only [World.size_alloc]
  refine ⟨⟨(((((Fr.refl _ _).alloc _).alloc _).alloc _).alloc _).alloc _ |>.drew, by omega, Cel.of_row b0 0 (by simp), Cel.of_row b1 0 (by simp), Cel.of_row b1 1 (by simp), Cel.of_row b2 0 (by simp), Cel.of_row b3 0 (by simp), Nat.zero_le _, by simp, ?_⟩, Cel.of_row b4 0 (by simp), hs⟩
  simp [hd]

set_option maxRecDepth 100000 in
set_option maxHeartbeats 4000000 in
theorem chain_any (m g : Nat) (bs : List Int) (h most : Int) (w : World) (hm : IsMem 149 w m g bs) (h0 : 0 ≤ h) (h1 : h < 18446744073709551616) :
    Calls Try.prog 30 #[.pointer (some ⟨m, 0, none⟩), .int .u64 h, .int .i64 most] w (ChainPost bs h most w) := by
  have HM := Lib.hid hm
  have hlen := hm.len
  clear hm
  refine (callsIn_wide (n := 3)).1 ?_
  refine callsIn_of_wp_marks Try.func30 rfl trivial ?_ rfl
  simp only [Try.ntmps30, List.size_toArray, List.length_cons, List.length_nil, Nat.reduceAdd, Nat.reduceSub, Array.replicate_succ, Array.replicate_zero, List.push_toArray, List.append_toArray, List.nil_append, List.cons_append]
  gi_wp2
  have hsz := size_any m g bs ((((w.alloc (.cells #[.int .i64 most] 3)).alloc (.cells #[.int .u64 0, .int .i64 0] 36)).alloc (.cells #[.int .i64 0] 24)).drew) ((((HM.out.alloc _).alloc _).alloc _).drew)
  have HSZ := Lib.hid hsz
  clear hsz
  have hwr : IntKind.i64.wrap (bs.length : Int) = bs.length := by rw [IntKind.wrap_i64]; omega
  obtain ⟨R, hR⟩ : ∃ R, mn most bs.length = R := ⟨_, rfl⟩
  have HRR := Lib.hid hR
  refine wpIn_mono (Q := NoPanic _) ?_ NoPanic.imp
  gi_region_with (refine ⟨trivial, ?_⟩; gi_at_call 102; refine (callsIn_wide.2 HSZ.out).mono ?_; rintro e w' ⟨rfl, rfl⟩)
  clear hwr hR
  all_goals
    refine NoPanic.normal ?_
    gi_wp2_with fail
    refine ⟨trivial, (callsIn_wide.2 (from_any _ _ _)).mono ?_⟩
    rintro e w' ⟨rfl, rfl⟩
    gi_wp2_with fail
    obtain ⟨hj0, hc4, hs5⟩ := chainW_says bs h R m w
    rw [show ((((((w.alloc (.cells #[.int .i64 R] 3)).alloc (.cells #[.int .u64 0, .int .i64 0] 36)).alloc (.cells #[.int .i64 0] 24)).alloc (.cells #[.pointer (some ⟨m, 0, none⟩)] 30)).alloc (.cells #[.int .u64 h] 22)).drew) = chainW h R m w from rfl]
    generalize chainW h R m w = W0 at *
    have hg := HM.out.bytes.lt
    have hml := HM.out.obj.lt
    refine range_law (gf := 144) (lb := #[.pointer (some ⟨w.heap.size + 4, 0, none⟩), .pointer (some ⟨w.heap.size + 3, 0, none⟩)]) rfl (enters_of Try.func144 (by kernel_rfl) rfl)
      (from_iter _ m g (w.heap.size + 3) (w.heap.size + 4) R.toNat bs h h0 h1 W0 hc4 (by omega) (by omega) (by omega))
      (fun h k v hv => k v (h v hv)) (fun W l o o' hl ho hc v hv => hv.put ho hc) (fun x => rfl)
      (ChainJ bs h R m w.heap.size w) (ChainX bs h R m w.heap.size w) ?hJ ?hJx ?f1 ?f2 hj0 ?round ?done ?stop
    case hJ => exact ⟨fun s W l o o' hl ho hc j => j.put (by omega) ho hc, fun s W o hB j => j.turn ((Fr.refl _ _).alloc o) (Nat.le_refl _)⟩
    case hJx => exact fun c => ⟨fun s W l o o' hl ho hc j => j.put (by omega) ho hc, fun s W o hB j => j.turn ((Fr.refl _ _).alloc o) (Nat.le_refl _)⟩
    case f1 =>
      intro l r D d _ _
      refine ⟨FineFr.loop (fun s W W' j f => j.turn f (Nat.le_refl _)) l r D d, ?_⟩
      rintro pre W ⟨j, _⟩
      exact ⟨by have := j.len; omega, HM.out.fr j.fr (fun _ h => h) (fun _ h => h), j.mem.1⟩
    case f2 =>
      intro l r D d _ _
      refine ⟨FineFr.loopx (fun c s W W' j f => j.turn f (Nat.le_refl _)) l r D d, ?_⟩
      rintro pre W ⟨c, j, _⟩
      exact ⟨j.len, HM.out.fr j.fr (fun _ h => h) (fun _ h => h), j.mem.1⟩
    case round =>
      intro l pre x W hl j hok
      obtain ⟨hne0, hx⟩ := hok pre.length x (by simp)
      have HJ := Lib.hid j
      obtain ⟨c1, f1⟩ := j.most
      obtain ⟨c2, f2⟩ := j.head
      obtain ⟨c3, f3⟩ := j.num
      obtain ⟨c4, f4⟩ := j.err
      have hlenR := j.len
      have hbig : pre.length < 9223372036854775807 := by
        have h1 := HRR.out
        have h2 := mn_eq most bs.length
        omega
      clear j hok
      have HX := Lib.hid hx
      have HNE := Lib.hid hne0
      clear hx hne0
      obtain ⟨xa, xb⟩ := x
      apply Exists.intro
      apply And.intro
      · intro Wq K hK
        simp [encF]
        gi_wp2
        exact hK
      · simp only [Prod.mk.injEq] at HX
        have hxa := HX.out.1
        have hxb := HX.out.2
        have HXB := Lib.hid hxb
        clear hxa hxb
        cases xb with
        | false =>
          have hbad : chN bs h R.toNat = none := by
            rw [HJ.out.says, chN_bad _ _ _ HNE.out (by have := HXB.out; simpa using this.symm)]; rfl
          have HBAD := Lib.hid hbad
          clear hbad
          gi_wp2
          exact ⟨((KeepsOthers.setCell _ _ _).trans (KeepsOthers.setCell _ _ _)).trans (KeepsOthers.setCell _ _ _), HJ.out.fails (Nat.le_refl _) HBAD.out _⟩
        | true =>
          have hok : ldE bs (hd bs h pre.length) = 0 := by have := HXB.out; simpa using this.symm
          by_cases hR : R ≤ (pre.length : Int)
          · have HBAD := Lib.hid (HJ.out.full hR HNE.out)
            have HOK := Lib.hid hok
            clear hok
            gi_wp2
            exact ⟨((KeepsOthers.setCell _ _ _).trans (KeepsOthers.setCell _ _ _)).trans (KeepsOthers.setCell _ _ _), HJ.out.fails (Nat.le_refl _) HBAD.out _⟩
          · have hR' : (pre.length : Int) < R := by omega
            have HMORE := Lib.hid (HJ.out.more (Nat.le_refl _) hR' HNE.out hok (xa, true) rfl)
            clear hR hok
            gi_wp2
            refine ⟨KeepsOthers.setCell _ _ _, ?_, HMORE.out⟩
            intro v hv
            exact hv.other _ (by omega)
    case done =>
      rintro D xs W hD ⟨hs, hend⟩ j hK
      have hz : chF bs h most = some xs.length := by
        unfold chF
        rw [HRR.out, j.says]
        rcases hend with he | ⟨pre, x, rfl, hx⟩
        · rw [he, chN_zero]; simp
        · have := j.oks x (by simp)
          rw [hx] at this
          exact absurd this (by simp)
      have hr : chR bs h most = (h, (xs.length : Int), 0) := by unfold chR; rw [hz]
      have HRE := Lib.hid hr
      have HJ := Lib.hid j
      obtain ⟨c2, f2⟩ := j.head
      obtain ⟨c3, f3⟩ := j.num
      obtain ⟨c4, f4⟩ := j.err
      clear hs hend hz hr j
      gi_wp2
      have k1 := ((((KeepsOthers.setCell W ⟨w.heap.size + 1, 0, none⟩ (.int .u64 h)).trans (KeepsOthers.setCell _ ⟨w.heap.size + 1, 0, none⟩ (.int .u64 h))).trans (KeepsOthers.setCell _ ⟨w.heap.size + 1, 1, none⟩ (.int .i64 xs.length))).trans (KeepsOthers.setCell _ ⟨w.heap.size + 1 + 1, 0, none⟩ (.int .i64 0)))
      have hK' := k1.same D _ hK rfl
      have g2 := (((((HJ.out.head.set (.int .u64 h)).set (.int .u64 h)).other (b' := w.heap.size + 1) (o' := 1) (.int .i64 xs.length) (by omega)).other (b' := w.heap.size + 1 + 1) (o' := 0) (.int .i64 0) (by omega)).put (x' := .deferred none) hK' rfl)
      have g3 := (((((HJ.out.num.other (b' := w.heap.size + 1) (o' := 0) (.int .u64 h) (by omega)).other (b' := w.heap.size + 1) (o' := 0) (.int .u64 h) (by omega)).set (.int .i64 xs.length)).other (b' := w.heap.size + 1 + 1) (o' := 0) (.int .i64 0) (by omega)).put (x' := .deferred none) hK' rfl)
      have g4 := (((((HJ.out.err.other (b' := w.heap.size + 1) (o' := 0) (.int .u64 h) (by omega)).other (b' := w.heap.size + 1) (o' := 0) (.int .u64 h) (by omega)).other (b' := w.heap.size + 1) (o' := 1) (.int .i64 xs.length) (by omega)).set (.int .i64 0)).put (x' := .deferred none) hK' rfl)
      refine ⟨by simp, .inl ⟨_, _, rfl, run_takeDeferred hK', ?_⟩⟩
      refine ⟨.tuple #[.agg #[.int .u64 h, .int .i64 xs.length], .int .i64 0], ?_, ?_, ?_⟩
      · simp [results, Try.results30, go_sem, g2.1, g3.1, g4.1]
      · rw [HRE.out]
      · exact ((((HJ.out.fr.setCell _ _ (by omega) _).setCell _ _ (by omega) _).setCell _ _ (by omega) _).setCell _ _ (by omega) _).putObj _ _ (by omega)
    case stop =>
      rintro D c pre W hD hs j hK
      obtain rfl := j.is
      have hr : chR bs h most = (0, 0, 3) := by unfold chR chF; rw [HRR.out, j.says]
      have HRE := Lib.hid hr
      have HJ := Lib.hid j
      clear hs hr j
      gi_wp2
      have g2 := HJ.out.head.put (x' := .deferred none) hK rfl
      have g3 := HJ.out.num.put (x' := .deferred none) hK rfl
      have g4 := HJ.out.err.put (x' := .deferred none) hK rfl
      refine ⟨by simp, .inl ⟨_, _, rfl, run_takeDeferred hK, ?_⟩⟩
      refine ⟨.tuple #[.agg #[.int .u64 0, .int .i64 0], .int .i64 3], ?_, ?_, ?_⟩
      · simp [results, Try.results30, go_sem, g2.1, g3.1, g4.1]
      · rw [HRE.out]
      · exact HJ.out.fr.putObj _ _ (by omega)

end Go.Proofs.Ythginpedlfocpaa
