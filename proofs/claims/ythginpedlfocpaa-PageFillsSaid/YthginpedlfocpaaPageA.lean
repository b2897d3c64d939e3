/- Pages: what one is; New. -/
import Derived.Test.YthginpedlfocpaaGeo
import Derived.Test.YthginpedlfocpaaListLaw
import Derived.Deep.RegionHeld3
import Derived.StillTailTactics
import Derived.Deep.CutRange
import Derived.Deep.DrawnRows
namespace Go.Proofs.Ythginpedlfocpaa
open Go.RowKit Go.Alo Go.Shelf
attribute [local go_sem] max_ints min_ints

/-- Two cells of a row are written, by another's hand. -/
theorem row_step {S : Nat → Nat → Prop} {w w' : World} {b lo : Nat} {e : TypeId} {vs : List Value} {x y : Value} (h : Row w b e vs) (f : Fr S w w') (hs : ∀ o, S b o → o = lo ∨ o = lo + 1) (h1 : w'.cell? ⟨b, lo, none⟩ = some x) (h2 : w'.cell? ⟨b, lo + 1, none⟩ = some y) (hl : lo + 1 < vs.length) : Row w' b e ((vs.set lo x).set (lo + 1) y) := by
  obtain ⟨c', hc, hz, ho⟩ := f.cells b _ e (0, 0) h
  have hcell : ∀ o, w'.cell? ⟨b, o, none⟩ = c'[o]? := by
    intro o
    unfold World.cell?
    simp only [hc, Option.isSome_none, Bool.false_eq_true, if_false]
  rw [hcell] at h1 h2
  unfold Row
  rw [hc]
  congr 2
  apply Array.ext_getElem?
  intro o
  have e : (((vs.set lo x).set (lo + 1) y).toArray)[o]? = ((vs.set lo x).set (lo + 1) y)[o]? := by simp
  rw [e, List.getElem?_set, List.getElem?_set, List.length_set]
  have hz' : c'.size = vs.length := by simpa using hz
  by_cases e2 : lo + 1 = o
  · subst e2; rw [if_pos rfl, if_pos hl]; exact h2
  · rw [if_neg e2]
    by_cases e1 : lo = o
    · subst e1; rw [if_pos rfl, if_pos (by omega)]; exact h1
    · rw [if_neg e1]
      have := ho o (fun hS => by rcases hs o hS with h | h <;> omega)
      rw [this]; simp

/-- A page's cells. -/
def pageVs (f s n made used : Int) (m : Nat) (hf nf hl nl : Int) : List Value :=
  [.int .u64 f, .int .u64 s, .int .i64 n, .int .i64 made, .int .i64 used, .pointer (some ⟨m, 0, none⟩), .int .u64 hf, .int .i64 nf, .int .u64 hl, .int .i64 nl, .int .u64 0, .int .u64 0, .int .i64 0, .int .u64 0]

/-- A page: its cells, its memory, and what hangs on its rows. -/
structure IsPage (W : World) (pb m g : Nat) (f s n made used : Int) (bs : List Int) (hf hl : Int) (fs ls : List Int) : Prop where
  row : Row W pb 175 (pageVs f s n made used m hf fs.length hl ls.length)
  mem : IsMem 149 W m g bs
  nm : pb ≠ m
  ng : pb ≠ g
  run : RunOK f s n
  s16 : 16 ≤ s
  f1 : 1 ≤ f
  n1 : 1 ≤ n
  fits : f + n * s ≤ bs.length
  hf0 : 0 ≤ hf
  hf1 : hf < 18446744073709551616
  hl0 : 0 ≤ hl
  hl1 : hl < 18446744073709551616
  onf : OnL bs hf fs
  onl : OnL bs hl ls
  made0 : 0 ≤ made
  made1 : made ≤ n
  used0 : 0 ≤ used
  sum : used + fs.length + ls.length = made
  blk : ∀ a ∈ fs ++ ls, ∃ i : Int, 0 ≤ i ∧ i < made ∧ a = f + i * s
  nodup : (fs ++ ls).Nodup

section
variable {W W' : World} {pb m g : Nat} {f s n made used hf hl : Int} {bs fs ls : List Int}

theorem IsPage.fr {S : Nat → Nat → Prop} (p : IsPage W pb m g f s n made used bs hf hl fs ls) (h : Fr S W W') (hp : ∀ o, ¬ S pb o) (hm : ∀ o, ¬ S m o) (hg : ∀ o, ¬ S g o) : IsPage W' pb m g f s n made used bs hf hl fs ls :=
  ⟨p.row.fr h hp, p.mem.fr h hm hg, p.nm, p.ng, p.run, p.s16, p.f1, p.n1, p.fits, p.hf0, p.hf1, p.hl0, p.hl1, p.onf, p.onl, p.made0, p.made1, p.used0, p.sum, p.blk, p.nodup⟩
theorem IsPage.quiet (p : IsPage W pb m g f s n made used bs hf hl fs ls) (h : Fr nil2 W W') : IsPage W' pb m g f s n made used bs hf hl fs ls := p.fr h (fun _ h => h) (fun _ h => h) (fun _ h => h)

theorem IsPage.free (p : IsPage W pb m g f s n made used bs hf hl fs ls) : IsList W pb 6 hf fs.length :=
  ⟨Cel.of_row p.row 6 (by simp [pageVs]), Cel.of_row p.row 7 (by simp [pageVs]), p.hf0, p.hf1⟩
theorem IsPage.loc (p : IsPage W pb m g f s n made used bs hf hl fs ls) : IsList W pb 8 hl ls.length :=
  ⟨Cel.of_row p.row 8 (by simp [pageVs]), Cel.of_row p.row 9 (by simp [pageVs]), p.hl0, p.hl1⟩

/-- The i-th block. -/
theorem IsPage.good (p : IsPage W pb m g f s n made used bs hf hl fs ls) (i : Int) (h0 : 0 ≤ i) (h1 : i < n) : 1 ≤ f + i * s ∧ f + i * s + 16 ≤ bs.length ∧ f + i * s < 18446744073709551616 := by
  obtain ⟨a1, -, -⟩ := p.run.at i h0 (by omega)
  have a2 : (i + 1) * s ≤ n * s := Int.mul_le_mul_of_nonneg_right (by omega) (by have := p.run.s0; omega)
  have a3 : (i + 1) * s = i * s + s := by rw [Int.add_mul, Int.one_mul]
  have := p.fits
  have := p.f1
  have := p.s16
  have := p.mem.len
  omega
end

/-- Two blocks of a run are apart. -/
theorem run_apart {s : Int} (hs : 16 ≤ s) (f i j : Int) (h : i ≠ j) : f + i * s + 8 ≤ f + j * s ∨ f + j * s + 8 ≤ f + i * s := by
  rcases Int.lt_or_gt_of_ne h with h | h
  · left
    have : (i + 1) * s ≤ j * s := Int.mul_le_mul_of_nonneg_right (by omega) (by omega)
    rw [Int.add_mul, Int.one_mul] at this
    omega
  · right
    have : (j + 1) * s ≤ i * s := Int.mul_le_mul_of_nonneg_right (by omega) (by omega)
    rw [Int.add_mul, Int.one_mul] at this
    omega

set_option maxRecDepth 100000 in
set_option maxHeartbeats 2000000 in
theorem pnew_any (m g : Nat) (f s n : Int) (bs : List Int) (w : World) (hm : IsMem 149 w m g bs) (hr : RunOK f s n) (hs : 16 ≤ s) (hf : 1 ≤ f) (hn : 1 ≤ n) (hfit : f + n * s ≤ bs.length) :
    Calls Try.prog 119 #[.pointer (some ⟨m, 0, none⟩), .agg #[.int .u64 f, .int .u64 s, .int .i64 n]] w fun e w' => ∃ pb, e = .returned (.tuple #[.pointer (some ⟨pb, 0, none⟩), .int .i64 0]) ∧ w.heap.size ≤ pb ∧ IsPage w' pb m g f s n 0 0 bs 0 0 [] [] ∧ Fr nil2 w w' := by
  have HM := Lib.hid hm
  have HR := Lib.hid hr
  have HE := Lib.hid (end_any f s n hr)
  have hl := hm.len
  have hd1 : (s < 16) = False := by simp; omega
  obtain ⟨q0, -, q1⟩ := hr.at n hr.n0 (Int.le_refl _)
  have hs0 := hr.s0
  have hfe : f + n * s ≥ 2 := by
    have : 1 * s ≤ n * s := Int.mul_le_mul_of_nonneg_right hn (by omega)
    omega
  obtain ⟨q, hq⟩ : ∃ q, n * s = q := ⟨_, rfl⟩
  have HQ := Lib.hid hq
  rw [hq] at HE hfit q0 q1 hfe
  obtain ⟨E, hE⟩ : ∃ E, f + q = E := ⟨_, rfl⟩
  have HEE := Lib.hid hE
  rw [hE] at HE hfit hfe
  have hE0 : (E == 0) = false := by simp; omega
  have hf0 : (f == 0) = false := by simp; omega
  have hs1 : decide (s < 16) = false := by simp; omega
  have hn1 : decide (n < 1) = false := by simp; omega
  have hEl : decide ((bs.length : Int) < E) = false := by simp; omega
  have r := Row.new w 92 [.int .u64 f, .int .u64 s, .int .i64 n]
  have HRW := Lib.hid r
  clear r hm hr hd1 hq hE q0 q1
  go_enter Try.func119, Try.ntmps119
  go_wp2_with fail
  refine (HE.out _).mono ?_
  rintro e w1 ⟨rfl, hf1⟩
  have r1 := HRW.out.fr hf1 (fun _ h => h)
  have HR1 := Lib.hid r1
  have c0 := r1.cell 0 (by simp)
  have c1 := r1.cell 1 (by simp)
  have c2 := r1.cell 2 (by simp)
  simp only [List.getElem_cons_zero, List.getElem_cons_succ] at c0 c1 c2
  have HF := Lib.hid (((Fr.refl nil2 w).alloc (.cells #[.int .u64 f, .int .u64 s, .int .i64 n] 92)).trans' hf1)
  clear hf1 r1
  go_wp2_with fail
  refine (HE.out _).mono ?_
  rintro e w2 ⟨rfl, hf2⟩
  have r2 := HR1.out.fr hf2 (fun _ h => h)
  have d0 := r2.cell 0 (by simp)
  have d1 := r2.cell 1 (by simp)
  have d2 := r2.cell 2 (by simp)
  simp only [List.getElem_cons_zero, List.getElem_cons_succ] at d0 d1 d2
  have HF2 := Lib.hid (HF.out.trans' hf2)
  have HM2 := Lib.hid (HM.out.fr HF2.out (fun _ h => h) (fun _ h => h))
  clear hf2 r2 c0 c1 c2
  go_wp2_with fail
  refine (size_any m g bs w2 HM2.out).mono ?_
  rintro e w3 ⟨rfl, rfl⟩
  go_wp2
  go_ret2
  have HS := HF2.out.size
  have hmlt := HM2.out.obj.lt
  have hglt := HM2.out.bytes.lt
  refine ⟨w2.heap.size, rfl, HS, ⟨?_, HM2.out.alloc _, by omega, by omega, HR.out, hs, hf, hn, by rw [HQ.out, HEE.out]; exact hfit, by decide, by decide, by decide, by decide, rfl, rfl, by decide, by omega, by decide, by simp, by simp, by simp⟩, HF2.out.alloc _⟩
  exact Row.new w2 175 (pageVs f s n 0 0 m 0 0 0 0)

end Go.Proofs.Ythginpedlfocpaa
