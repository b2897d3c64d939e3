/- Contracts of mem: words are stored. -/
import Derived.Test.YthginpedlfocpaaMemB
import Derived.Laws.CopyOwn
namespace Go.Proofs.Ythginpedlfocpaa
open Go.RowKit Go.Alo Go.Shelf
attribute [local go_sem] max_ints min_ints

/-- The bytes of a number, the lowest first. -/
def byl : Nat → Int → List Int
  | 0, _ => []
  | n + 1, x => x % 256 :: byl n (x / 256)

theorem byl_len (n : Nat) (x : Int) : (byl n x).length = n := by
  induction n generalizing x with
  | zero => rfl
  | succ n ih => simp [byl, ih]

theorem byl_byt (n : Nat) (x : Int) : ∀ b ∈ byl n x, 0 ≤ b ∧ b < 256 := by
  induction n generalizing x with
  | zero => simp [byl]
  | succ n ih =>
    intro b hb
    simp only [byl, List.mem_cons] at hb
    rcases hb with rfl | hb
    · omega
    · exact ih _ b hb

theorem byl_snoc (n : Nat) (x : Int) : byl (n + 1) x = byl n x ++ [x / 256 ^ n % 256] := by
  induction n generalizing x with
  | zero => simp [byl]
  | succ n ih =>
    show x % 256 :: byl (n + 1) (x / 256) = _
    rw [ih]
    simp only [byl, List.cons_append]
    rw [Int.pow_succ, Int.mul_comm, Int.ediv_ediv_of_nonneg (by omega)]

theorem ldl_byl (n : Nat) (x : Int) (h0 : 0 ≤ x) (h1 : x < 256 ^ n) : ldl (byl n x) = x := by
  induction n generalizing x with
  | zero => simp at h1; simp [byl, ldl]; omega
  | succ n ih =>
    rw [Int.pow_succ] at h1
    simp only [byl, ldl]
    rw [ih (x / 256) (by omega) (by omega)]
    omega

/-- A word is laid at an address. -/
def stF (bs : List Int) (addr x : Int) : List Int := if addr ≤ bs.length ∧ 8 ≤ bs.length - addr then splice bs addr.toNat (byl 8 x) else bs

theorem splice_step {bs : List Int} {a k : Nat} (x : Int) (h : a + k + 1 ≤ bs.length) : (splice bs a (byl k x)).set (a + k) (x / 256 ^ k % 256) = splice bs a (byl (k + 1) x) := by
  rw [byl_snoc]
  unfold splice
  have e1 : (bs.take a).length = a := by simp; omega
  rw [List.set_append_right _ _ (by omega), e1, List.set_append_right _ _ (by rw [byl_len]; omega), byl_len]
  rw [show a + k - a - k = 0 from by omega, List.length_append, byl_len, List.length_singleton]
  rw [List.drop_eq_getElem_cons (by omega : a + k < bs.length), List.set_cons_zero]
  simp [Nat.add_assoc]

theorem pow28 (k : Nat) : (2 : Int) ^ (8 * k) = 256 ^ k := by
  rw [Int.pow_mul]; rfl

set_option maxRecDepth 100000 in
set_option maxHeartbeats 2000000 in
theorem store_any (m g : Nat) (bs : List Int) (addr x : Int) (w : World) (hm : IsMem 149 w m g bs) (h0 : 0 ≤ addr) (hx0 : 0 ≤ x) (hx1 : x < 18446744073709551616) :
    Calls Try.prog 32 #[.pointer (some ⟨m, 0, none⟩), .int .u64 addr, .int .i64 8, .int .u64 x] w fun e w' =>
      e = .returned (.int .i64 (ldE bs addr)) ∧ IsMem 149 w' m g (stF bs addr x) ∧ Fr (fun k _ => k = g) w w' := by
  have HM := Lib.hid hm
  clear hm
  have h88 : mx 8 0 = 8 := by decide
  by_cases hin : addr ≤ bs.length ∧ 8 ≤ bs.length - addr
  · have e1 : inL bs.length addr 8 = 8 := if_pos hin
    have e2 : inC bs.length addr 8 = bs.length - addr.toNat := if_pos hin
    have e3 : inE bs.length addr 8 = 0 := if_pos hin
    have e4 : inA g bs.length addr 8 = some ⟨g, addr.toNat, none⟩ := by unfold inA; rw [if_pos hin, if_neg (by omega)]
    have e5 : ldE bs addr = 0 := if_pos hin
    have e6 : stF bs addr x = splice bs addr.toNat (byl 8 x) := if_pos hin
    rw [e5, e6]
    have E1 := Lib.hid e1
    have E2 := Lib.hid e2
    have E3 := Lib.hid e3
    have E4 := Lib.hid e4
    obtain ⟨hi1, hi2⟩ := hin
    clear e1 e2 e3 e4 e5 e6
    go_enter Try.func32, Try.ntmps32
    go_wp2_with (go_at_call 104; refine (may8 _).mono ?_; rintro e w' ⟨rfl, rfl⟩)
    refine (in_any m g bs addr 8 _ HM.out h0 (by omega)).mono ?_
    rintro e w' ⟨rfl, rfl⟩
    rw [E1.out, E2.out, E3.out, E4.out]
    go_wp2
    go_loopw [42] (fun i wr => ∃ k : Nat, k ≤ 8 ∧ i = .int .i64 k ∧ Hid (IsMem 149 wr m g (splice bs addr.toNat (byl k x))) ∧ Hid (Fr (fun k _ => k = g) w wr)) (fun i _ => 8 - (intOf i).toNat)
    case atStart => exact ⟨0, by omega, rfl, Lib.hid (by have h := HM.out; simpa [splice, byl] using h), Fr.refl _ _⟩
    case round =>
      obtain ⟨k, hk, rfl, HMk, HF⟩ := hrel
      by_cases hlt : k < 8
      · have hlen : (splice bs addr.toNat (byl k x)).length = bs.length := length_splice _ _ _ (by rw [byl_len]; omega)
        have hc := HMk.out.bytes.cell (addr.toNat + k) (by simp; omega)
        have hf := HMk.out.bytes.frozen (addr.toNat + k)
        go_wp2
        go_roundw
        case rel =>
          refine ⟨k + 1, by omega, by go_num, Lib.hid ?_, Lib.hid (HF.out.setCell _ _ (fun _ => rfl) _)⟩
          have hr := HMk.out.bytes.set (addr.toNat + k) (.int .u8 (x / 2 ^ (8 * k) % 256))
          rw [pow28] at hr
          rw [pow28, ← splice_step x (by omega)]
          refine ⟨?_, ?_, HMk.out.ne, ?_, by rw [List.length_set, hlen]; exact HM.out.len⟩
          · have ho := HMk.out.obj.other g (addr.toNat + k) HMk.out.ne (.int .u8 (x / 256 ^ k % 256))
            rw [List.length_set]
            exact ho
          · simpa [ints, List.map_set] using hr
          · intro b hb
            rcases List.mem_or_eq_of_mem_set hb with hb | rfl
            · exact HMk.out.byt b hb
            · omega
        case measure => simp [intOf]; omega
      · have hk8 : k = 8 := by omega
        subst hk8
        go_wp2
        go_ret
        exact ⟨rfl, HMk.out, HF.out⟩
  · have e1 : inL bs.length addr 8 = 0 := if_neg hin
    have e2 : inC bs.length addr 8 = 0 := if_neg hin
    have e3 : inE bs.length addr 8 = 3 := if_neg hin
    have e4 : inA g bs.length addr 8 = none := if_neg hin
    have e5 : ldE bs addr = 3 := if_neg hin
    have e6 : stF bs addr x = bs := if_neg hin
    rw [e5, e6]
    have E1 := Lib.hid e1
    have E2 := Lib.hid e2
    have E3 := Lib.hid e3
    have E4 := Lib.hid e4
    clear e1 e2 e3 e4 e5 e6 hin
    go_enter Try.func32, Try.ntmps32
    go_wp2_with (go_at_call 104; refine (may8 _).mono ?_; rintro e w' ⟨rfl, rfl⟩)
    refine (in_any m g bs addr 8 _ HM.out h0 (by omega)).mono ?_
    rintro e w' ⟨rfl, rfl⟩
    rw [E1.out, E2.out, E3.out, E4.out]
    go_wp2
    go_loop [42] (fun i => i = .int .i64 0) (fun i => 0)
    case atStart => rfl
    case round =>
      obtain rfl := hrel
      go_wp2
      go_ret
      exact ⟨rfl, HM.out, Fr.refl _ _⟩

end Go.Proofs.Ythginpedlfocpaa
