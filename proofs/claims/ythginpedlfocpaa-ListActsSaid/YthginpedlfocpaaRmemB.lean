/- Contracts of the reference's memory: Put, Store. -/
import Derived.Test.YthginpedlfocpaaRmemA
import Derived.BigQuiet
namespace Go.Proofs.Ythginpedlfocpaa
open Go.RowKit Go.Alo Go.Shelf
attribute [local go_sem] max_ints min_ints

theorem splice_take_step {bs xs : List Int} {a k : Nat} (hk : k < xs.length) (h : a + k + 1 ≤ bs.length) : (splice bs a (xs.take k)).set (a + k) xs[k] = splice bs a (xs.take (k + 1)) := by
  unfold splice
  have e1 : (bs.take a).length = a := by simp; omega
  have e2 : (xs.take k).length = k := by simp; omega
  rw [List.set_append_right _ _ (by omega), e1, List.set_append_right _ _ (by omega), e2]
  rw [show a + k - a - k = 0 from by omega, List.length_take, Nat.min_eq_left (by omega : k + 1 ≤ xs.length)]
  rw [List.drop_eq_getElem_cons (by omega : a + k < bs.length), List.set_cons_zero, List.take_succ_eq_append_getElem hk, List.append_assoc (xs.take k), List.singleton_append, Nat.add_assoc]

set_option maxRecDepth 100000 in
set_option maxHeartbeats 2000000 in
theorem rput_any (m g cap : Nat) (A : Option Addr) (xs bs : List Int) (addr : Int) (w : World) (hm : IsMem 86 w m g bs) (hr : Reads w A (ints .u8 xs)) (hx : xs.length = 8) (hA : ∀ b off, A = some ⟨b, off, none⟩ → b ≠ g) (hb : ∀ x ∈ xs, 0 ≤ x ∧ x < 256) (h0 : 0 ≤ addr) (h1 : addr < 18446744073709551616) :
    Calls Try.prog 117 #[.pointer (some ⟨m, 0, none⟩), .int .u64 addr, .slice A 8 cap] w fun e w' =>
      e = .returned (.int .i64 (ldE bs addr)) ∧ IsMem 86 w' m g (if ldE bs addr = 0 then splice bs addr.toNat xs else bs) ∧ Fr (fun k _ => k = g) w w' := by
  have HIN := Lib.hid (rin8 m g bs addr w hm h0)
  have HM := Lib.hid hm
  have HR := Lib.hid hr
  have HX := Lib.hid hx
  have HA := Lib.hid hA
  have HB := Lib.hid hb
  have hl := hm.len
  clear hm hr hx hA hb
  by_cases hin : addr ≤ bs.length ∧ 8 ≤ bs.length - addr
  · have e : ldE bs addr = 0 := if_pos hin
    rw [e] at HIN
    rw [e, if_pos rfl]
    obtain ⟨hi1, hi2⟩ := hin
    clear e
    go_enter Try.func117, Try.ntmps117
    go_wp2_with fail
    refine HIN.out.mono ?_
    rintro e w' ⟨rfl, rfl⟩
    go_wp2
    go_loopw [18] (fun i wr => ∃ k : Nat, k ≤ 8 ∧ i = .int .i64 k ∧ Hid (IsMem 86 wr m g (splice bs addr.toNat (xs.take k))) ∧ Hid (Fr (fun k _ => k = g) w wr)) (fun i _ => 8 - (intOf i).toNat)
    case atStart => exact ⟨0, by omega, rfl, Lib.hid (by have h := HM.out; simpa [splice] using h), Fr.refl _ _⟩
    case round =>
      obtain ⟨k, hk, rfl, HMk, HF⟩ := hrel
      by_cases hlt : k < 8
      · have hkx : k < xs.length := by rw [HX.out]; exact hlt
        have hlen : (splice bs addr.toNat (xs.take k)).length = bs.length := length_splice _ _ _ (by rw [List.length_take]; omega)
        have hobj := HMk.out.obj.cell 0 (by simp)
        simp only [List.getElem_cons_zero] at hobj
        rw [hlen] at hobj
        have hc := HMk.out.bytes.cell (addr.toNat + k) (by simp; omega)
        have hf := HMk.out.bytes.frozen (addr.toNat + k)
        obtain ⟨b1, o1, hA1, hc1⟩ := (HR.out.fr HF.out (fun b off o e _ _ => HA.out b off e)).get k (by simpa using hkx)
        rw [ints_get] at hc1
        have hbx := HB.out xs[k] (List.getElem_mem hkx)
        have hst := splice_take_step (bs := bs) (xs := xs) (a := addr.toNat) (k := k) hkx (by omega)
        obtain ⟨x, hxk⟩ : ∃ x, xs[k] = x := ⟨_, rfl⟩
        rw [hxk] at hc1 hbx hst
        have HST := Lib.hid hst
        have HLEN := Lib.hid hlen
        have HBX := Lib.hid hbx
        have hidx : (addr + (k : Int)).toNat = addr.toNat + k := by omega
        subst hA1
        clear hst hxk hkx hbx
        go_wp2
        go_roundw
        case rel =>
          refine ⟨k + 1, by omega, by go_num, Lib.hid ?_, Lib.hid (HF.out.setCell _ _ (fun _ => rfl) _)⟩
          have hr := HMk.out.bytes.set (addr.toNat + k) (.int .u8 x)
          rw [← HST.out]
          refine ⟨?_, ?_, HMk.out.ne, ?_, by rw [List.length_set, HLEN.out]; exact HM.out.len⟩
          · have ho := HMk.out.obj.other g (addr.toNat + k) HMk.out.ne (.int .u8 x)
            rw [List.length_set]
            exact ho
          · simpa [ints, List.map_set] using hr
          · intro b hb
            rcases List.mem_or_eq_of_mem_set hb with hb | rfl
            · exact HMk.out.byt b hb
            · exact HBX.out
        case measure => simp [intOf]; omega
      · have hk8 : k = 8 := by omega
        subst hk8
        go_wp2
        go_ret
        refine ⟨rfl, ?_, HF.out⟩
        have := HMk.out
        rwa [List.take_of_length_le (by rw [HX.out]; omega)] at this
  · have e : ldE bs addr = 3 := if_neg hin
    rw [e] at HIN
    rw [e, if_neg (by decide)]
    clear e hin
    go_enter Try.func117, Try.ntmps117
    go_wp2_with fail
    refine HIN.out.mono ?_
    rintro e w' ⟨rfl, rfl⟩
    go_wp2
    go_ret
    exact ⟨rfl, HM.out, Fr.refl _ _⟩

theorem stF_eq (bs : List Int) (addr x : Int) : stF bs addr x = if ldE bs addr = 0 then splice bs addr.toNat (byl 8 x) else bs := by
  unfold stF ldE
  split
  · rw [if_pos rfl]
  · rw [if_neg (by decide)]

set_option maxRecDepth 100000 in
set_option maxHeartbeats 2000000 in
theorem rstore_any (m g : Nat) (bs : List Int) (addr x : Int) (w : World) (hm : IsMem 86 w m g bs) (h0 : 0 ≤ addr) (h1 : addr < 18446744073709551616) (hx0 : 0 ≤ x) (hx1 : x < 18446744073709551616) :
    Calls Try.prog 57 #[.pointer (some ⟨m, 0, none⟩), .int .u64 addr, .int .i64 8, .int .u64 x] w fun e w' =>
      e = .returned (.int .i64 (ldE bs addr)) ∧ IsMem 86 w' m g (stF bs addr x) ∧ Fr (fun k _ => k = g) w w' := by
  have HM := Lib.hid hm
  obtain ⟨i0, hi, hz0, hz1, hz2⟩ := info_u8
  clear hm
  go_enter Try.func57, Try.ntmps57
  go_wp2_with (go_at_call 116; refine (rmay8 _).mono ?_; rintro e w' ⟨rfl, rfl⟩)
  go_loopw [9, 10, 11] (fun b y i wr => ∃ (k : Nat) (y' : Int), k ≤ 8 ∧ i = .int .i64 k ∧ y = .int .u64 y' ∧ 0 ≤ y' ∧ y' < 18446744073709551616 ∧ Hid (y' = x / 256 ^ k) ∧ Hid (wr.ownsRow w.heap.size 5 1 b k (ints .u8 (byl k x))) ∧ Hid (Fr nil2 w wr)) (fun _ _ i _ => 8 - (intOf i).toNat)
  case atStart => exact ⟨0, x, by omega, rfl, rfl, hx0, hx1, by unfold Hid; simp, World.ownsRow_nil _ _ _ _, Fr.refl _ _⟩
  case round =>
    obtain ⟨k, y, hk, rfl, rfl, hy0, hy1, HY, HO, HF⟩ := hrel
    by_cases hlt : k < 8
    · have hsz := HF.out.size
      go_wp2_with (at_builtin; refine wpList_append_own _ rfl _ _ 29 rfl w.heap.size 5 i0 (.int .u8 0) 1 1 Try.underlying29 hi hz0 hz1 hz2 rfl (by decide) _ _ _ rfl (HO.out.alloc _) ⟨wr.heap.size, 0, none⟩ 1 1 [.int .u8 (y % 256)] rfl rfl ?c1 ?c2 ?c3 ?c4 ?c5 ?_)
      case c1 => exact cell_one_new _ _ _
      case c2 => simp [Value.oneCell']
      case c3 => unfold maxLen; omega
      case c4 => omega
      case c5 => simp; omega
      intro v' wn hown2 hgrow _
      have HF2 : Hid (Fr nil2 w wn) := Lib.hid ((HF.out.alloc _).grown hgrow (fun q hq => (own_cells HO.out q hq).1))
      have HO2 := Lib.hid hown2
      clear hown2 hgrow
      go_wp2
      go_roundw
      case rel =>
        refine ⟨k + 1, y / 256, by omega, by go_num, rfl, by omega, by omega, Lib.hid ?_, Lib.hid ?_, HF2⟩
        · rw [HY.out, Int.pow_succ, ← Int.ediv_ediv_of_nonneg (Int.pow_nonneg (by decide))]
        · have := HO2.out
          rw [byl_snoc, ← HY.out]
          simpa [ints] using this
      case measure => simp [intOf]; omega
    · have hk8 : k = 8 := by omega
      subst hk8
      have hy : y = 0 := by
        have := HY.out
        rw [show (256 : Int) ^ 8 = 18446744073709551616 from by decide] at this
        omega
      subst hy
      obtain ⟨A9, c9, rfl, -, -, hr9, -⟩ := own_reads HO.out
      have HR9 := Lib.hid hr9
      have HA9 : Hid (∀ b off, A9 = some ⟨b, off, none⟩ → w.heap.size ≤ b) := Lib.hid (fun b off e => by subst e; exact (own_cells HO.out b rfl).1)
      have HMr := Lib.hid (HM.out.fr HF.out (fun _ h => h) (fun _ h => h))
      have HGL := Lib.hid HM.out.bytes.lt
      clear hr9
      go_wp2_with fail
      refine (rput_any m g c9 A9 (byl 8 x) bs addr wr HMr.out HR9.out (byl_len 8 x) (fun b off e => by have := HA9.out b off e; have := HGL.out; omega) (byl_byt 8 x) h0 h1).mono ?_
      rw [← stF_eq]
      rintro e w2 ⟨rfl, hm2, hf2⟩
      have HM2 := Lib.hid hm2
      have HF2 := Lib.hid hf2
      clear hm2 hf2
      go_wp2
      go_ret
      exact ⟨rfl, HM2.out, (HF.out.mono (fun _ _ _ h => h.elim)).step HF2.out (fun _ _ _ h => h)⟩

end Go.Proofs.Ythginpedlfocpaa
