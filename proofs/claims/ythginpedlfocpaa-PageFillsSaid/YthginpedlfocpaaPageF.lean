/- Pages: law09's made. -/
import Derived.Test.YthginpedlfocpaaPageE
namespace Go.Proofs.Ythginpedlfocpaa
open Go.RowKit Go.Alo Go.Shelf
attribute [local go_sem] max_ints min_ints
attribute [local go_sem ↓] Go.wp_at_zero Go.wp_at_succ

theorem PgN.fr {S : Nat → Nat → Prop} {W W' : World} {pb m g k : Nat} {f s n : Int} (p : PgN W pb m g f s n k) (h : Fr S W W') (hp : ∀ o, ¬ S pb o) (hm : ∀ o, ¬ S m o) (hg : ∀ o, ¬ S g o) : PgN W' pb m g f s n k := by
  obtain ⟨d, p⟩ := p
  exact ⟨d, p.fr h hp hm hg⟩

set_option maxRecDepth 100000 in
set_option maxHeartbeats 4000000 in
theorem pmade_any (size n : Int) (w : World) (h0 : 0 ≤ size) (h1 : size < 256) (h2 : 0 ≤ n) (h3 : n < 256) : Calls Try.prog 64 #[.int .u8 size, .int .u8 n] w fun e w' => ∃ pb m g, e = .returned (.tuple #[.pointer (some ⟨pb, 0, none⟩), .pointer (some ⟨m, 0, none⟩), .agg #[.int .u64 1024, .int .u64 (16 * (size % 16 + 1)), .int .i64 (n % 60 + 1)], .bool true]) ∧ PgN w' pb m g 1024 (16 * (size % 16 + 1)) (n % 60 + 1) 0 ∧ (w.heap.size ≤ pb ∧ w.heap.size ≤ m ∧ w.heap.size ≤ g) ∧ Fr nil2 w w' := by
  have hw1 : IntKind.u64.wrap size = size := u64_in (by omega) (by omega)
  have hw2 : IntKind.u64.wrap (size % 16) = size % 16 := u64_in (by omega) (by omega)
  have hw3 : IntKind.u64.wrap (size % 16 + 1) = size % 16 + 1 := u64_in (by omega) (by omega)
  have hw4 : IntKind.u64.wrap (16 * (size % 16 + 1)) = 16 * (size % 16 + 1) := u64_in (by omega) (by omega)
  have hw5 : IntKind.i64.wrap n = n := IntWalk.i64_in _ ⟨by omega, by omega⟩
  have hw6 : IntKind.i64.wrap (n % 60) = n % 60 := IntWalk.i64_in _ ⟨by omega, by omega⟩
  have hw7 : IntKind.i64.wrap (n % 60 + 1) = n % 60 + 1 := IntWalk.i64_in _ ⟨by omega, by omega⟩
  have hs0 : 16 ≤ 16 * (size % 16 + 1) := by omega
  have hs1 : 16 * (size % 16 + 1) ≤ 256 := by omega
  have hs8 : (16 * (size % 16 + 1)) % 8 = 0 := by omega
  have hn0 : 1 ≤ n % 60 + 1 := by omega
  have hn1 : n % 60 + 1 ≤ 60 := by omega
  go_enter Try.func64, Try.ntmps64
  go_wp2_with fail
  have HF0 := Lib.hid ((Fr.refl nil2 w).alloc (.cells #[.int .u64 0, .int .u64 0, .int .i64 0] 92))
  have HR0 := Lib.hid (Row.new w 92 [.int .u64 0, .int .u64 0, .int .i64 0])
  have HZ0 : Hid (w.heap.size < (w.alloc (.cells #[.int .u64 0, .int .u64 0, .int .i64 0] 92)).heap.size) := Lib.hid HR0.out.lt
  obtain ⟨pr, hpr⟩ : ∃ k, w.heap.size = k := ⟨_, rfl⟩
  obtain ⟨W0, hW0⟩ : ∃ W, w.alloc (.cells #[.int .u64 0, .int .u64 0, .int .i64 0] 92) = W := ⟨_, rfl⟩
  simp only [List.toArray] at HR0
  rw [hW0] at HF0 HR0 HZ0 ⊢
  rw [hpr] at HR0 HZ0 ⊢
  clear hW0
  refine (new_any 65536 W0 (by decide) (by decide) (by decide)).mono ?_
  rintro e w1 ⟨rfl, rfl⟩
  have HM := Lib.hid (newMem_is 149 65536 W0 (by decide))
  have HN := Lib.hid (newMem_fr 149 65536 W0 nil2)
  obtain ⟨m, hm⟩ : ∃ k, W0.heap.size + 1 = k := ⟨_, rfl⟩
  obtain ⟨g, hg⟩ : ∃ k, W0.heap.size = k := ⟨_, rfl⟩
  obtain ⟨W1, hW1⟩ : ∃ W, newMem 149 65536 W0 = W := ⟨_, rfl⟩
  rw [hW1] at HM HN ⊢
  rw [hm] at HM ⊢
  rw [hg] at HM HZ0
  clear hW1
  have HR1 := Lib.hid (HR0.out.fr HN.out (fun _ h => h))
  have HF1 := Lib.hid (HF0.out.trans HN.out)
  clear HR0 HF0 HN
  have HPR := Lib.hid hpr
  have HMG : Hid (m = g + 1) := Lib.hid (by omega)
  clear hpr hm hg
  obtain ⟨z, hz⟩ : ∃ z, 16 * (size % 16 + 1) = z := ⟨_, rfl⟩
  obtain ⟨c, hc⟩ : ∃ c, n % 60 + 1 = c := ⟨_, rfl⟩
  go_wp2_with fail
  have HR2 := Lib.hid (HR1.out.alloc (.cells #[.int .u64 1024, .int .u64 z, .int .i64 c] 92))
  have HX2 := Lib.hid (Row.new W1 92 [.int .u64 1024, .int .u64 z, .int .i64 c])
  have HM2 := Lib.hid (HM.out.alloc (.cells #[.int .u64 1024, .int .u64 z, .int .i64 c] 92))
  have HF2 := Lib.hid (HF1.out.alloc (.cells #[.int .u64 1024, .int .u64 z, .int .i64 c] 92))
  have HZ2 := Lib.hid HR1.out.lt
  simp only [List.toArray] at HX2
  obtain ⟨rb, hrb⟩ : ∃ k, W1.heap.size = k := ⟨_, rfl⟩
  obtain ⟨W2, hW2⟩ : ∃ W, W1.alloc (.cells #[.int .u64 1024, .int .u64 z, .int .i64 c] 92) = W := ⟨_, rfl⟩
  rw [hW2] at HR2 HX2 HM2 HF2 ⊢
  rw [hrb] at HX2 HZ2 ⊢
  clear hW2 HR1 HM HF1
  have hzz : (16 : Int) ≤ z ∧ z ≤ 256 := by omega
  have hcc : (1 : Int) ≤ c ∧ c ≤ 60 := by omega
  have hcz : 0 ≤ c * z ∧ c * z ≤ 60 * 256 := ⟨Int.mul_nonneg (by omega) (by omega), Int.mul_le_mul hcc.2 hzz.2 (by omega) (by omega)⟩
  refine (pnew_any m g 1024 z c _ W2 HM2.out ⟨by omega, by omega, by omega, by omega, by omega, by omega, by omega⟩ (by omega) (by omega) (by omega) (by rw [List.length_replicate]; omega)).mono ?_
  rintro e w3 ⟨pb, rfl, hpb, hp3, hf3⟩
  have HP3 : Hid (PgN w3 pb m g 1024 z c 0) := Lib.hid ⟨0, _, _, _, hp3⟩
  have HF3 := Lib.hid (HF2.out.trans' hf3)
  have HB3 := Lib.hid (Nat.lt_of_lt_of_le HR2.out.lt hpb)
  have HR3 := Lib.hid (HR2.out.fr hf3 (fun _ h => h))
  have hx3 := HX2.out.fr hf3 (fun _ h => h)
  have y0 := hx3.cell 0 (by simp)
  have y1 := hx3.cell 1 (by simp)
  have y2 := hx3.cell 2 (by simp)
  have x0 := HR3.out.cell 0 (by decide)
  have x1 := HR3.out.cell 1 (by decide)
  have x2 := HR3.out.cell 2 (by decide)
  simp only [List.getElem_cons_zero, List.getElem_cons_succ] at x0 x1 x2 y0 y1 y2
  have z0 := HR3.out.frozen 0
  have z1 := HR3.out.frozen 1
  have z2 := HR3.out.frozen 2
  clear hx3 hp3 hf3 hcz
  go_wp2
  have hne : rb ≠ pr := by have := HZ2.out; omega
  have hne' : pr ≠ rb := by have := HZ2.out; omega
  go_region_held3 (fun w' => w'.cell? ⟨rb, 0, none⟩ = some (.int .u64 1024) ∧ w'.cell? ⟨rb, 1, none⟩ = some (.int .u64 z) ∧ w'.cell? ⟨rb, 2, none⟩ = some (.int .i64 c)) (go_keep) (fail)
  have HFS := Lib.hid ((((Fr.refl (fun k _ => k = pr) w3).setCell pr 0 (fun _ => rfl) (.int .u64 1024)).setCell pr 1 (fun _ => rfl) (.int .u64 z)).setCell pr 2 (fun _ => rfl) (.int .i64 c)).drew
  go_wp2
  have HRE := (((HR3.out.set 0 (.int .u64 1024)).set 1 (.int .u64 z)).set 2 (.int .i64 c))
  have u0 := HRE.cell 0 (by simp)
  have u1 := HRE.cell 1 (by simp)
  have u2 := HRE.cell 2 (by simp)
  simp only [List.set_cons_zero, List.set_cons_succ, List.getElem_cons_zero, List.getElem_cons_succ] at u0 u1 u2
  have h1 := HZ0.out
  have h2 := HMG.out
  have h3 := HPR.out
  have h4 := HB3.out
  refine bodyPost_ret (v := .tuple #[.pointer (some ⟨pb, 0, none⟩), .pointer (some ⟨m, 0, none⟩), .agg #[.int .u64 1024, .int .u64 z, .int .i64 c], .bool true]) ?_ rfl ⟨pb, m, g, by rw [hz, hc], ?_, ⟨by omega, by omega, by omega⟩, HF3.out.step HFS.out (fun i o hi h => by omega)⟩
  · simp [results, Try.results64, go_sem, u0, u1, u2]
  · rw [hz, hc]
    exact HP3.out.fr HFS.out (fun _ h => by omega) (fun _ h => by omega) (fun _ h => by omega)

end Go.Proofs.Ythginpedlfocpaa
