/- Contracts of geo: runs that may be. -/
import Derived.Test.YthginpedlfocpaaMemA
import Derived.BigQuiet
namespace Go.Proofs.Ythginpedlfocpaa
open Go.RowKit Go.Alo
attribute [local go_sem] max_ints min_ints

/-- A run that may be. -/
structure RunOK (f s n : Int) : Prop where
  f0 : 0 ≤ f
  f1 : f ≤ 1048576
  s0 : 1 ≤ s
  s1 : s ≤ 1048576
  n0 : 0 ≤ n
  n1 : n ≤ 1024
  fits : n * s ≤ 1048576 - f

theorem RunOK.at {f s n : Int} (h : RunOK f s n) (i : Int) (h0 : 0 ≤ i) (h1 : i ≤ n) : 0 ≤ i * s ∧ i * s ≤ n * s ∧ i * s ≤ 1048576 - f := by
  have h2 : 0 ≤ i * s := Int.mul_nonneg h0 (by have := h.s0; omega)
  have h3 : i * s ≤ n * s := Int.mul_le_mul_of_nonneg_right h1 (by have := h.s0; omega)
  exact ⟨h2, h3, Int.le_trans h3 h.fits⟩

def runV (f s n : Int) : Value := .agg #[.int .u64 f, .int .u64 s, .int .i64 n]

set_option maxHeartbeats 1000000 in
theorem may_any (f s n : Int) (h : RunOK f s n) (w : World) : Calls Try.prog 122 #[.agg #[.int .u64 f, .int .u64 s, .int .i64 n]] w fun e w' => e = .returned (.bool true) ∧ Fr nil2 w w' := by
  obtain ⟨p0, -, p1⟩ := h.at n h.n0 (Int.le_refl _)
  obtain ⟨f0, f1, s0, s1, n0, n1, -⟩ := h
  obtain ⟨p, hp⟩ : ∃ p, n * s = p := ⟨_, rfl⟩
  rw [hp] at p0 p1
  have hw : IntKind.u64.wrap (n * s) = p := by rw [hp]; exact u64_in p0 (by omega)
  clear hp
  go_enter Try.func122, Try.ntmps122
  go_wp2
  go_ret
  exact ⟨rfl, (Fr.refl _ _).alloc _⟩

set_option maxHeartbeats 1000000 in
theorem end_any (f s n : Int) (h : RunOK f s n) (w : World) : Calls Try.prog 123 #[.agg #[.int .u64 f, .int .u64 s, .int .i64 n]] w fun e w' => e = .returned (.int .u64 (f + n * s)) ∧ Fr nil2 w w' := by
  have HM := Lib.hid (may_any f s n h)
  obtain ⟨p0, -, p1⟩ := h.at n h.n0 (Int.le_refl _)
  obtain ⟨f0, f1, s0, s1, n0, n1, -⟩ := h
  obtain ⟨p, hp⟩ : ∃ p, n * s = p := ⟨_, rfl⟩
  have HP := Lib.hid hp
  rw [hp] at p0 p1 ⊢
  have hw : IntKind.u64.wrap (n * s) = p := by rw [hp]; exact u64_in p0 (by omega)
  clear hp
  have r := Row.new w 92 [.int .u64 f, .int .u64 s, .int .i64 n]
  have HR := Lib.hid r
  clear r
  go_enter Try.func123, Try.ntmps123
  go_wp2_with fail
  refine (HM.out _).mono ?_
  rintro e w1 ⟨rfl, hf1⟩
  have r1 := HR.out.fr hf1 (fun _ h => h)
  have c0 := r1.cell 0 (by simp)
  have c1 := r1.cell 1 (by simp)
  have c2 := r1.cell 2 (by simp)
  simp only [List.getElem_cons_zero, List.getElem_cons_succ] at c0 c1 c2
  have HF := Lib.hid (((Fr.refl nil2 w).alloc (.cells #[.int .u64 f, .int .u64 s, .int .i64 n] 92)).trans' hf1)
  clear hf1 r1
  go_wp2
  go_ret
  exact ⟨rfl, HF.out⟩

set_option maxHeartbeats 1000000 in
theorem block_any (f s n i : Int) (h : RunOK f s n) (h0 : 0 ≤ i) (h1 : i < n) (w : World) : Calls Try.prog 150 #[.agg #[.int .u64 f, .int .u64 s, .int .i64 n], .int .i64 i] w fun e w' => e = .returned (.tuple #[.int .u64 (f + i * s), .int .i64 0]) ∧ Fr nil2 w w' := by
  have HM := Lib.hid (may_any f s n h)
  obtain ⟨p0, -, p1⟩ := h.at i h0 (by omega)
  obtain ⟨f0, f1, s0, s1, n0, n1, -⟩ := h
  obtain ⟨p, hp⟩ : ∃ p, i * s = p := ⟨_, rfl⟩
  rw [hp] at p0 p1 ⊢
  have hw : IntKind.u64.wrap (i * s) = p := by rw [hp]; exact u64_in p0 (by omega)
  clear hp
  have r := Row.new w 92 [.int .u64 f, .int .u64 s, .int .i64 n]
  have HR := Lib.hid r
  clear r
  go_enter Try.func150, Try.ntmps150
  go_wp2_with fail
  refine (HM.out _).mono ?_
  rintro e w1 ⟨rfl, hf1⟩
  have r1 := HR.out.fr hf1 (fun _ h => h)
  have c0 := r1.cell 0 (by simp)
  have c1 := r1.cell 1 (by simp)
  have c2 := r1.cell 2 (by simp)
  simp only [List.getElem_cons_zero, List.getElem_cons_succ] at c0 c1 c2
  have HF := Lib.hid (((Fr.refl nil2 w).alloc (.cells #[.int .u64 f, .int .u64 s, .int .i64 n] 92)).trans' hf1)
  clear hf1 r1
  go_wp2
  go_ret2
  exact ⟨rfl, HF.out⟩

set_option maxRecDepth 100000 in
set_option maxHeartbeats 1000000 in
theorem index_any (f s n i : Int) (h : RunOK f s n) (h0 : 0 ≤ i) (h1 : i < n) (w : World) : Calls Try.prog 67 #[.agg #[.int .u64 f, .int .u64 s, .int .i64 n], .int .u64 (f + i * s)] w fun e w' => e = .returned (.tuple #[.int .i64 i, .int .i64 0]) ∧ Fr nil2 w w' := by
  have HM := Lib.hid (may_any f s n h)
  have HE := Lib.hid (end_any f s n h)
  obtain ⟨p0, -, p1⟩ := h.at i h0 (by omega)
  obtain ⟨q0, -, q1⟩ := h.at n h.n0 (Int.le_refl _)
  obtain ⟨f0, f1, s0, s1, n0, n1, -⟩ := h
  have hdm : i * s % s = 0 := Int.mul_emod_left _ _
  have hdd : i * s / s = i := Int.mul_ediv_cancel _ (by omega)
  have hlt : i * s < n * s := Int.mul_lt_mul_of_pos_right h1 (by omega)
  obtain ⟨p, hp⟩ : ∃ p, i * s = p := ⟨_, rfl⟩
  obtain ⟨q, hq⟩ : ∃ p, n * s = p := ⟨_, rfl⟩
  rw [hp] at p0 p1 hdm hdd hlt ⊢
  rw [hq] at q0 q1 hlt HE
  have hsub : f + p - f = p := by omega
  have hs0 : (s == 0) = false := by simp; omega
  clear hp hq
  have r := Row.new w 92 [.int .u64 f, .int .u64 s, .int .i64 n]
  have HR := Lib.hid r
  clear r
  go_enter Try.func67, Try.ntmps67
  go_wp2_with fail
  refine (HM.out _).mono ?_
  rintro e w1 ⟨rfl, hf1⟩
  have r1 := HR.out.fr hf1 (fun _ h => h)
  have HR1 := Lib.hid r1
  have c0 := r1.cell 0 (by simp)
  have c1 := r1.cell 1 (by simp)
  have c2 := r1.cell 2 (by simp)
  simp only [List.getElem_cons_zero, List.getElem_cons_succ] at c0 c1 c2
  have HF := Lib.hid (((Fr.refl nil2 w).alloc (.cells #[.int .u64 f, .int .u64 s, .int .i64 n] 92)).trans' hf1)
  clear hf1 r1
  go_wp2_with fail
  refine (HE.out _).mono ?_
  rintro e w2 ⟨rfl, hf2⟩
  have r2 := HR1.out.fr hf2 (fun _ h => h)
  have d0 := r2.cell 0 (by simp)
  have d1 := r2.cell 1 (by simp)
  have d2 := r2.cell 2 (by simp)
  simp only [List.getElem_cons_zero, List.getElem_cons_succ] at d0 d1 d2
  have HF2 := Lib.hid (HF.out.trans' hf2)
  clear hf2 r2
  go_wp2
  go_ret2
  exact ⟨rfl, HF2.out⟩

end Go.Proofs.Ythginpedlfocpaa
