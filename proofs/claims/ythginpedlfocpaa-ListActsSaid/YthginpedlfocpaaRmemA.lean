/- Contracts of the reference's memory: New, Load. -/
import Derived.Test.YthginpedlfocpaaGet
import Derived.BigQuiet
namespace Go.Proofs.Ythginpedlfocpaa
open Go.RowKit Go.Alo Go.Shelf
attribute [local go_sem] max_ints min_ints

set_option maxHeartbeats 400000 in
theorem rnew_any (n : Nat) (w : World) (h0 : 0 < n) (h1 : n ≤ 1048576) (h2 : n % 1024 = 0) :
    Calls Try.prog 53 #[.int .u64 n] w fun e w' => e = .returned (.tuple #[.pointer (some ⟨w.heap.size + 1, 0, none⟩), .bool true]) ∧ w' = newMem 86 n w := by
  have hmk := run_make_bytes
  have h2' : ¬ (0 : Int) < (n : Int) % 1024 := by omega
  have h3' : ((n : Int) == 0) = false := by simp; omega
  have h4' : decide ((1048576 : Int) < (n : Int)) = false := by simp; omega
  go_enter Try.func53, Try.ntmps53
  go_wp2
  go_ret2
  refine ⟨rfl, ?_⟩
  simp [newMem, ints]

set_option maxHeartbeats 400000 in
theorem rmay8 (w : World) : Calls Try.prog 116 #[.int .i64 8] w fun e w' => e = .returned (.bool true) ∧ w = w' := by
  go_enter Try.func116, Try.ntmps116
  go_wp2
  go_ret
  exact ⟨rfl, rfl⟩

set_option maxHeartbeats 400000 in
theorem rin8 (m g : Nat) (bs : List Int) (addr : Int) (w : World) (hm : IsMem 86 w m g bs) (h0 : 0 ≤ addr) :
    Calls Try.prog 149 #[.pointer (some ⟨m, 0, none⟩), .int .u64 addr, .int .u64 8] w fun e w' => e = .returned (.bool (ldE bs addr == 0)) ∧ w = w' := by
  have h := hm.obj.cell 0 (by simp)
  have hl := hm.len
  simp only [List.getElem_cons_zero] at h
  clear hm
  by_cases hin : addr ≤ bs.length ∧ 8 ≤ bs.length - addr
  · have e : ldE bs addr = 0 := if_pos hin
    rw [e]
    obtain ⟨h1, h2⟩ := hin
    clear e
    go_enter Try.func149, Try.ntmps149
    go_wp2
    go_ret
    exact ⟨rfl, rfl⟩
  · have e : ldE bs addr = 3 := if_neg hin
    rw [e]
    clear e
    by_cases h1 : addr ≤ bs.length
    · have h2 : ¬ 8 ≤ (bs.length : Int) - addr := fun h => hin ⟨h1, h⟩
      clear hin
      go_enter Try.func149, Try.ntmps149
      go_wp2
      go_ret
      exact ⟨rfl, rfl⟩
    · clear hin
      go_enter Try.func149, Try.ntmps149
      go_wp2
      go_ret
      exact ⟨rfl, rfl⟩

theorem ldl_drop (l : List Int) (k : Nat) (h : k < l.length) : ldl (l.drop k) = l[k] + 256 * ldl (l.drop (k + 1)) := by
  rw [List.drop_eq_getElem_cons h, ldl]

theorem pow256 {n m : Nat} (h : n ≤ m) : (256 : Int) ^ n ≤ 256 ^ m := by
  induction m with
  | zero => have : n = 0 := by omega
            subst this; exact Int.le_refl _
  | succ m ih =>
    rcases Nat.lt_or_ge m n with hlt | hge
    · have : n = m + 1 := by omega
      subst this; exact Int.le_refl _
    · have h1 := ih hge
      have h2 : (0 : Int) ≤ 256 ^ m := Int.pow_nonneg (by decide)
      rw [Int.pow_succ]; omega

set_option maxRecDepth 100000 in
set_option maxHeartbeats 1000000 in
theorem rload_any (m g : Nat) (bs : List Int) (addr : Int) (w : World) (hm : IsMem 86 w m g bs) (h0 : 0 ≤ addr) (h1 : addr < 18446744073709551616) :
    Calls Try.prog 115 #[.pointer (some ⟨m, 0, none⟩), .int .u64 addr, .int .i64 8] w fun e w' =>
      e = .returned (.tuple #[.int .u64 (ldF bs addr), .int .i64 (ldE bs addr)]) ∧ w = w' := by
  have HIN := Lib.hid (rin8 m g bs addr w hm h0)
  have HM := Lib.hid hm
  have hobj := hm.obj.cell 0 (by simp)
  simp only [List.getElem_cons_zero] at hobj
  have hl := hm.len
  clear hm
  by_cases hin : addr ≤ bs.length ∧ 8 ≤ bs.length - addr
  · have e : ldE bs addr = 0 := if_pos hin
    have es : sub8 bs addr = (bs.drop addr.toNat).take 8 := if_pos hin
    have hs8 : (sub8 bs addr).length = 8 := by rw [es]; simp; omega
    have hsb := sub8_byt bs addr HM.out.byt
    have hel : ∀ k, k < 8 → addr.toNat + k < bs.length ∧ (sub8 bs addr)[k]? = bs[addr.toNat + k]? := by
      intro k h
      refine ⟨by omega, ?_⟩
      rw [es, List.getElem?_take, if_pos h, List.getElem?_drop]
    have hld : ldF bs addr = ldl (sub8 bs addr) := rfl
    rw [hld]
    rw [e] at HIN ⊢
    obtain ⟨s, hs⟩ : ∃ s, sub8 bs addr = s := ⟨_, rfl⟩
    simp only [hs] at hel
    rw [hs] at hs8 hsb ⊢
    have HS8 := Lib.hid hs8
    have HSB := Lib.hid hsb
    have HEL := Lib.hid hel
    obtain ⟨hi1, hi2⟩ := hin
    clear e es hs8 hsb hel hld hs
    go_enter Try.func115, Try.ntmps115
    go_wp2_with (go_at_call 116; refine (rmay8 _).mono ?_; rintro e w' ⟨rfl, rfl⟩)
    refine HIN.out.mono ?_
    rintro e w' ⟨rfl, rfl⟩
    go_wp2
    go_loop [8, 9] (fun x i => ∃ k : Nat, k ≤ 8 ∧ i = .int .i64 ((k : Int) - 1) ∧ x = .int .u64 (ldl (s.drop k))) (fun _ i => (intOf i + 1).toNat)
    case atStart => exact ⟨8, by omega, rfl, by rw [List.drop_of_length_le (by have := HS8.out; omega)]; rfl⟩
    case round =>
      obtain ⟨k, hk, rfl, rfl⟩ := hrel
      by_cases hp : 0 < k
      · obtain ⟨q, rfl⟩ : ∃ q, k = q + 1 := ⟨k - 1, by omega⟩
        have hq8 : q < 8 := by omega
        obtain ⟨hqa, hqb⟩ := HEL.out q hq8
        rw [List.getElem?_eq_getElem hqa, List.getElem?_eq_getElem (by have := HS8.out; omega)] at hqb
        replace hqb := Option.some.inj hqb
        have hc := HM.out.bytes.cell (addr.toNat + q) (by simpa using hqa)
        rw [ints_get, ← hqb] at hc
        have hst := ldl_drop s q (by have := HS8.out; omega)
        have hbd := HSB.out (s[q]'(by have := HS8.out; omega)) (List.getElem_mem _)
        have hld := ldl_bd (s.drop (q + 1)) (fun b hb => HSB.out b (List.mem_of_mem_drop hb))
        have h7 : (256 : Int) ^ (s.drop (q + 1)).length ≤ 256 ^ 7 := pow256 (by rw [List.length_drop]; have := HS8.out; omega)
        rw [show (256 : Int) ^ 7 = 72057594037927936 from by decide] at h7
        obtain ⟨b, hb⟩ : ∃ b, s[q]'(by have := HS8.out; omega) = b := ⟨_, rfl⟩
        rw [hb] at hc hst hbd
        obtain ⟨y, hy⟩ : ∃ y, ldl (s.drop (q + 1)) = y := ⟨_, rfl⟩
        rw [hy] at hst hld ⊢
        have HST := Lib.hid hst
        obtain ⟨hb0, hb1⟩ := hbd
        obtain ⟨hy0, hyu⟩ := hld
        have hy1 : y < 72057594037927936 := by omega
        have hidx : (addr + (q : Int)).toNat = addr.toNat + q := by omega
        have hq1 : ((q + 1 : Nat) : Int) - 1 = (q : Int) := by omega
        rw [hq1]
        clear hst hy h7 hqb hb hyu hq1
        go_wp2
        go_round
        case rel => exact ⟨q, by omega, rfl, by rw [HST.out]; congr 1; omega⟩
        case measure => simp [intOf]
      · have hk0 : k = 0 := by omega
        subst hk0
        go_wp2
        go_ret2
        exact ⟨rfl, rfl⟩
  · have e : ldE bs addr = 3 := if_neg hin
    have e2 : ldF bs addr = 0 := by unfold ldF sub8; rw [if_neg hin]; rfl
    rw [e2]
    rw [e] at HIN ⊢
    clear e e2 hin
    go_enter Try.func115, Try.ntmps115
    go_wp2_with (go_at_call 116; refine (rmay8 _).mono ?_; rintro e w' ⟨rfl, rfl⟩)
    refine HIN.out.mono ?_
    rintro e w' ⟨rfl, rfl⟩
    go_wp2
    go_ret2
    exact ⟨rfl, rfl⟩

end Go.Proofs.Ythginpedlfocpaa
