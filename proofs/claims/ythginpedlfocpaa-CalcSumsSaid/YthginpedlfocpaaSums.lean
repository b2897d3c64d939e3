/- Contracts of calc: Sum, Most, Least; of the reference: Ends. -/
import Derived.Test.YthginpedlfocpaaCalcRounds
import Derived.Test.YthginpedlfocpaaRefE
import Derived.BigQuiet
namespace Go.Proofs.Ythginpedlfocpaa
open Go.RowKit Go.Alo
attribute [local go_sem] max_ints min_ints

def tot : List Int → Int
  | [] => 0
  | x :: l => x + tot l

def prd : List Int → Int
  | [] => 1
  | x :: l => x * prd l

theorem tot_append (a b : List Int) : tot (a ++ b) = tot a + tot b := by
  induction a with
  | nil => simp [tot]
  | cons x a ih => simp only [List.cons_append, tot, ih]; omega

theorem tot_take (l : List Int) (k : Nat) (h : k < l.length) : tot (l.take (k + 1)) = tot (l.take k) + l[k] := by
  rw [List.take_succ_eq_append_getElem h, tot_append]
  simp [tot]

theorem prd_append (a b : List Int) : prd (a ++ b) = prd a * prd b := by
  induction a with
  | nil => simp [prd]
  | cons x a ih => simp only [List.cons_append, prd, ih, Int.mul_assoc]

theorem prd_take (l : List Int) (k : Nat) (h : k < l.length) : prd (l.take (k + 1)) = prd (l.take k) * l[k] := by
  rw [List.take_succ_eq_append_getElem h, prd_append]
  simp [prd]

theorem tot_nonneg {l : List Int} (h : ∀ x ∈ l, 0 ≤ x) : 0 ≤ tot l := by
  induction l with
  | nil => simp [tot]
  | cons x l ih =>
    have h1 := h x (by simp)
    have h2 := ih (fun y hy => h y (by simp [hy]))
    simp only [tot]; omega

theorem prd_nonneg {l : List Int} (h : ∀ x ∈ l, 0 ≤ x) : 0 ≤ prd l := by
  induction l with
  | nil => simp [prd]
  | cons x l ih => exact Int.mul_nonneg (h x (by simp)) (ih (fun y hy => h y (by simp [hy])))

theorem prd_pos {l : List Int} (h : ∀ x ∈ l, 1 ≤ x) : 1 ≤ prd l := by
  induction l with
  | nil => simp [prd]
  | cons x l ih =>
    have h1 := h x (by simp)
    have h2 := ih (fun y hy => h y (by simp [hy]))
    have : 1 * prd l ≤ x * prd l := Int.mul_le_mul_of_nonneg_right h1 (by omega)
    simp only [prd]; omega

theorem tot_mono {l : List Int} (h : ∀ x ∈ l, 0 ≤ x) (k : Nat) : tot (l.take k) ≤ tot l := by
  have e : tot l = tot (l.take k) + tot (l.drop k) := by rw [← tot_append, List.take_append_drop]
  have := tot_nonneg (l := l.drop k) (fun x hx => h x (List.mem_of_mem_drop hx))
  omega

theorem prd_zero {l : List Int} (h : (0 : Int) ∈ l) : prd l = 0 := by
  induction l with
  | nil => simp at h
  | cons x l ih =>
    rcases List.mem_cons.1 h with rfl | h
    · simp [prd]
    · simp [prd, ih h]

theorem mulL_prd (l : List Int) : ∀ o : Int, 0 ≤ o → o ≤ 1099511627776 → (∀ x ∈ l, 1 ≤ x) → mulL o l = backF (o * prd l) := by
  induction l with
  | nil => intro o h0 h1 _; unfold mulL backF prd; rw [Int.mul_one, if_neg (by omega)]
  | cons x l ih =>
    intro o h0 h1 hx
    have h2 := hx x (by simp)
    have h3 := prd_pos (l := l) (fun y hy => hx y (by simp [hy]))
    unfold mulL
    rw [show prd (x :: l) = x * prd l from rfl, ← Int.mul_assoc]
    have h5 : 0 ≤ o * x := Int.mul_nonneg h0 (by omega)
    split
    · rename_i hb
      have h4 : o * x * 1 ≤ o * x * prd l := Int.mul_le_mul_of_nonneg_left h3 h5
      unfold backF
      rw [if_pos (by omega)]
    · rename_i hb
      exact ih (o * x) h5 (by omega) (fun y hy => hx y (by simp [hy]))

theorem mulF_prd (l : List Int) (h : ∀ x ∈ l, 0 ≤ x) : mulF l = backF (prd l) := by
  unfold mulF
  split
  · rename_i h0
    rw [prd_zero h0]
    unfold backF
    rw [if_neg (by omega)]
  · rename_i h0
    rw [mulL_prd l 1 (by omega) (by omega) (fun x hx => by
      have h1 := h x hx
      rcases Int.lt_or_le x 1 with h2 | h2
      · have : x = 0 := by omega
        subst this; exact absurd hx h0
      · exact h2), Int.one_mul]

def mxF : Int → List Int → Int
  | a, [] => a
  | a, x :: l => mxF (mx a x) l
def mnF : Int → List Int → Int
  | a, [] => a
  | a, x :: l => mnF (mn a x) l
theorem mxF_drop (a : Int) (l : List Int) (i : Nat) (h : i < l.length) : mxF a (l.drop i) = mxF (mx a l[i]) (l.drop (i + 1)) := by
  rw [List.drop_eq_getElem_cons h, mxF]
theorem mnF_drop (a : Int) (l : List Int) (i : Nat) (h : i < l.length) : mnF a (l.drop i) = mnF (mn a l[i]) (l.drop (i + 1)) := by
  rw [List.drop_eq_getElem_cons h, mnF]

def mostF : List Int → Int × Int
  | [] => (0, 5)
  | x :: l => (mxF x l, 0)
def leastF : List Int → Int × Int
  | [] => (0, 5)
  | x :: l => (mnF x l, 0)

set_option maxHeartbeats 1000000 in
theorem sum_any (A : Option Addr) (l : List Int) (cap : Nat) (w : World) (hr : Reads w A (ints .u64 l)) (hl : l.length ≤ 9223372036854775807) (hb : ∀ x ∈ l, 0 ≤ x ∧ x < 18446744073709551616) :
    Calls Try.prog 36 #[.slice A l.length cap] w fun e w' => e = .returned (.tuple #[.int .u64 (backF (tot l)).1, .int .i64 (backF (tot l)).2]) ∧ w = w' := by
  have HR := Lib.hid hr
  have HB := Lib.hid hb
  clear hr hb
  go_enter Try.func36, Try.ntmps36
  go_wp2
  go_loop [4, 5, 10] (fun s b i => ∃ (k : Nat) (s' : Int) (b' : Bool), k ≤ l.length ∧ i = .int .i64 k ∧ s = .int .u64 s' ∧ b = .bool b' ∧ 0 ≤ s' ∧ s' ≤ 1099511627776 ∧ Hid (if b' then 1099511627776 < tot (l.take k) else s' = tot (l.take k))) (fun _ _ i => l.length - (intOf i).toNat)
  case atStart => exact ⟨0, 0, false, Nat.zero_le _, rfl, rfl, rfl, by omega, by omega, by rw [if_neg (by simp)]; rfl⟩
  case round =>
    obtain ⟨k, s, b, hk, rfl, rfl, rfl, hs0, hs1, HS⟩ := hrel
    by_cases hlt : k < l.length
    · obtain ⟨b1, o1, hA1, hc1⟩ := HR.out.get k (by simpa using hlt)
      rw [ints_get] at hc1
      have hxb := HB.out l[k] (List.getElem_mem hlt)
      have htk := tot_take l k hlt
      obtain ⟨x, hx⟩ : ∃ x, l[k] = x := ⟨_, rfl⟩
      rw [hx] at hc1 hxb htk
      obtain ⟨hx0, hx1⟩ := hxb
      subst hA1
      have HT := Lib.hid htk
      clear hx htk
      cases b with
      | true =>
        go_wp2
        go_round
        case rel =>
          refine ⟨k + 1, s, true, by omega, by go_num, rfl, rfl, hs0, hs1, Lib.hid ?_⟩
          have := HS.out
          rw [if_pos rfl] at this ⊢
          have := HT.out
          omega
        case measure => simp [intOf]; omega
      | false =>
        have hmn : mn s 1099511627776 = s := by rw [mn_eq]; omega
        by_cases hbig : 1099511627776 - s < x
        · have hd : decide (1099511627776 - s < x) = true := by simp [hbig]
          have HBIG := Lib.hid hbig
          clear hbig
          go_wp2
          go_round
          case rel =>
            refine ⟨k + 1, s, true, by omega, by go_num, rfl, rfl, hs0, hs1, Lib.hid ?_⟩
            have := HS.out
            rw [if_neg (by simp)] at this
            rw [if_pos rfl]
            have := HT.out
            have := HBIG.out
            omega
          case measure => simp [intOf]; omega
        · have hd : decide (1099511627776 - s < x) = false := by simp; omega
          have hsx : s + x ≤ 1099511627776 := by omega
          have HSX := Lib.hid hsx
          clear hbig
          go_wp2
          go_round
          case rel =>
            refine ⟨k + 1, s + x, false, by omega, by go_num, rfl, rfl, by omega, HSX.out, Lib.hid ?_⟩
            have := HS.out
            rw [if_neg (by simp)] at this ⊢
            rw [HT.out]
            omega
          case measure => simp [intOf]; omega
    · have hke : k = l.length := by omega
      have HK := Lib.hid hke
      clear hke
      go_wp2_with fail
      refine (held_any s b _).mono ?_
      rintro e w1 ⟨rfl, rfl⟩
      go_wp2
      go_ret2
      have := HS.out
      rw [HK.out, List.take_length] at this
      have e : heldF s b = backF (tot l) := by
        unfold heldF backF
        cases b with
        | true => rw [if_pos rfl] at this; rw [if_pos (.inl rfl), if_pos this]
        | false =>
          rw [if_neg (by simp)] at this
          rw [if_neg (by simp; omega), if_neg (by omega), this]
      rw [e]
      exact ⟨rfl, rfl⟩

end Go.Proofs.Ythginpedlfocpaa
