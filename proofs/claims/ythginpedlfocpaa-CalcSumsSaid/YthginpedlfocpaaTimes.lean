/- Products of numbers as rows of digits: plain arithmetic. -/
import Derived.Test.YthginpedlfocpaaDig
namespace Go.Alo

theorem val_take_succ (l : List Int) (i : Nat) (h : i < l.length) : val (l.take (i + 1)) = val (l.take i) + 10000 ^ i * l[i] := by
  rw [List.take_succ_eq_append_getElem h, val_append, List.length_take, Nat.min_eq_left (by omega)]
  simp [val]

theorem prod_bd {x y : Int} (h0 : 0 ≤ x) (h1 : x < 10000) (k0 : 0 ≤ y) (k1 : y < 10000) : 0 ≤ x * y ∧ x * y ≤ 99980001 := by
  have h2 : 0 ≤ x * y := Int.mul_nonneg h0 k0
  have h3 : x * y ≤ 9999 * y := Int.mul_le_mul_of_nonneg_right (by omega) k0
  omega

/-- A product's row while it is reckoned: i digits of the one, k of the other. -/
structure Prods (a b : List Int) (i k : Nat) (o : List Int) : Prop where
  len : o.length = a.length + b.length + 1
  low : ∀ j (h : j < o.length), 0 ≤ o[j] ∧ o[j] ≤ 100000000 * (100 * (i : Int) + k + 1)
  worth : Go.Alo.val o = Go.Alo.val (a.take i) * Go.Alo.val b + 10000 ^ i * (a.getD i 0 * Go.Alo.val (b.take k))

theorem Prods.start (a b : List Int) : Prods a b 0 0 (List.replicate (a.length + b.length + 1) 0) := by
  refine ⟨by simp, ?_, ?_⟩
  · intro j hj
    simp
  · rw [val_zeros]; simp [val]

theorem Prods.row {a b o : List Int} {i : Nat} (h : Prods a b i b.length o) (hi : i < a.length) (hb : b.length ≤ 99) : Prods a b (i + 1) 0 o := by
  refine ⟨h.len, ?_, ?_⟩
  · intro j hj
    have := h.low j hj
    omega
  · rw [h.worth, List.take_length, val_take_succ a i hi]
    simp only [List.take_zero, val, Int.mul_zero, Int.add_zero]
    have : a.getD i 0 = a[i] := by simp [hi]
    rw [this]
    generalize (10000 : Int) ^ i = p
    generalize a[i] = x
    generalize Go.Alo.val (a.take i) = A
    generalize Go.Alo.val b = B
    grind

theorem Prods.step {a b o : List Int} {i k : Nat} (h : Prods a b i k o) (hi : i < a.length) (hk : k < b.length) (ha : Dig a) (hb : Dig b) (hla : a.length ≤ 90) (hlb : b.length ≤ 90) (h1 : i + k < o.length) (h2 : i + k + 1 < o.length) (y : Int) (hy : y = o[i + k] + a[i] * b[k]) :
    Prods a b i (k + 1) (((o.set (i + k) y).set (i + k + 1) (o[i + k + 1] + y / 10000)).set (i + k) (y % 10000)) := by
  have hx := h.low (i + k) h1
  have hz := h.low (i + k + 1) h2
  have ha' := ha a[i] (List.getElem_mem hi)
  have hb' := hb b[k] (List.getElem_mem hk)
  have hab := prod_bd ha'.1 ha'.2 hb'.1 hb'.2
  refine ⟨by simp [h.len], ?_, ?_⟩
  · intro j hj
    simp only [List.length_set] at hj
    have hj' := h.low j hj
    rw [List.getElem_set]
    by_cases e1 : i + k = j
    · rw [if_pos e1]; omega
    · rw [if_neg e1, List.getElem_set]
      by_cases e2 : i + k + 1 = j
      · rw [if_pos e2]; omega
      · rw [if_neg e2, List.getElem_set, if_neg e1]; omega
  · have e1 : ((o.set (i + k) y).set (i + k + 1) (o[i + k + 1] + y / 10000)).set (i + k) (y % 10000) = (o.set (i + k + 1) (o[i + k + 1] + y / 10000)).set (i + k) (y % 10000) := by
      rw [List.set_comm _ _ (by omega : i + k ≠ i + k + 1), List.set_set]
    rw [e1, val_set _ (i + k) _ (by simpa using h1), List.getElem_set, if_neg (by omega), val_set o (i + k + 1) _ h2, h.worth, val_take_succ b k hk]
    have hg : a.getD i 0 = a[i] := by simp [hi]
    rw [hg, Int.pow_succ, Int.pow_add]
    have hm : y % 10000 = y - 10000 * (y / 10000) := by omega
    rw [hm, hy]
    generalize (o[i + k] + a[i] * b[k]) / 10000 = q
    generalize o[i + k] = x
    generalize o[i + k + 1] = z
    generalize (10000 : Int) ^ i = p
    generalize (10000 : Int) ^ k = r
    generalize a[i] = u
    generalize b[k] = v
    generalize Go.Alo.val (a.take i) = A
    generalize Go.Alo.val (b.take k) = C
    generalize Go.Alo.val b = B
    grind

/-- The same row while what is carried is carried on. -/
structure Carry (T : Int) (N i : Nat) (o : List Int) : Prop where
  len : o.length = N + 1
  low : ∀ j (h : j < o.length), 0 ≤ o[j] ∧ o[j] ≤ 1000000000000 * ((i : Int) + 1)
  dig : ∀ j (h : j < o.length), j < i → o[j] < 10000
  worth : Go.Alo.val o = T

theorem Prods.carry {a b o : List Int} (h : Prods a b a.length 0 o) (hla : a.length ≤ 90) : Carry (Go.Alo.val a * Go.Alo.val b) (a.length + b.length) 0 o := by
  refine ⟨h.len, ?_, ?_, ?_⟩
  · intro j hj
    have := h.low j hj
    omega
  · intro j hj h0; omega
  · rw [h.worth, List.take_length]; simp [val]

theorem Carry.step {T : Int} {N i : Nat} {o : List Int} (h : Carry T N i o) (hi : i < N) (hN : N ≤ 200) (h1 : i < o.length) (h2 : i + 1 < o.length) :
    Carry T N (i + 1) ((o.set (i + 1) (o[i + 1] + o[i] / 10000)).set i (o[i] % 10000)) := by
  have hx := h.low i h1
  have hz := h.low (i + 1) h2
  refine ⟨by simp [h.len], ?_, ?_, ?_⟩
  · intro j hj
    simp only [List.length_set] at hj
    have hj' := h.low j hj
    rw [List.getElem_set]
    by_cases e1 : i = j
    · rw [if_pos e1]; omega
    · rw [if_neg e1, List.getElem_set]
      by_cases e2 : i + 1 = j
      · rw [if_pos e2]; omega
      · rw [if_neg e2]; omega
  · intro j hj hji
    simp only [List.length_set] at hj
    rw [List.getElem_set]
    by_cases e1 : i = j
    · rw [if_pos e1]; omega
    · rw [if_neg e1, List.getElem_set, if_neg (by omega)]
      exact h.dig j hj (by omega)
  · rw [val_set _ i _ (by simpa using h1), List.getElem_set, if_neg (by omega), val_set o (i + 1) _ h2, h.worth, Int.pow_succ]
    have hm : o[i] % 10000 = o[i] - 10000 * (o[i] / 10000) := by omega
    rw [hm]
    generalize o[i] / 10000 = q
    generalize o[i] = x
    generalize (10000 : Int) ^ i = p
    grind

theorem Carry.done {T : Int} {N : Nat} {o : List Int} (h : Carry T N N o) (hT : T < 10000 ^ N) : Dig o ∧ Go.Alo.val o = T := by
  refine ⟨?_, h.worth⟩
  have hlen := h.len
  have hN : N < o.length := by omega
  have hlow := h.low N hN
  have hd : Dig (o.take N) := by
    intro d hd
    obtain ⟨j, hj, rfl⟩ := List.getElem_of_mem hd
    rw [List.length_take] at hj
    rw [List.getElem_take]
    exact ⟨(h.low j (by omega)).1, h.dig j (by omega) (by omega)⟩
  have e : Go.Alo.val o = Go.Alo.val (o.take N) + 10000 ^ N * o[N] := by
    have := val_take_succ o N hN
    rw [List.take_of_length_le (by omega)] at this
    exact this
  have hp := pow4_pos N
  have hv := val_nonneg hd
  have hw := h.worth
  have h0 : o[N] = 0 := by
    rcases Int.lt_or_le 0 o[N] with hlt | hle
    · have : (10000 : Int) ^ N * 1 ≤ 10000 ^ N * o[N] := Int.mul_le_mul_of_nonneg_left (by omega) (by omega)
      omega
    · omega
  intro d hd'
  obtain ⟨j, hj, rfl⟩ := List.getElem_of_mem hd'
  by_cases hjN : j < N
  · exact ⟨(h.low j hj).1, h.dig j hj hjN⟩
  · have : j = N := by omega
    subst this
    omega

theorem val_mul_lt {a b : List Int} (ha : Dig a) (hb : Dig b) : val a * val b < 10000 ^ (a.length + b.length) := by
  have h1 := val_lt ha
  have h2 := val_lt hb
  have h3 := val_nonneg ha
  have h4 := val_nonneg hb
  have h5 := pow4_pos a.length
  have h6 := pow4_pos b.length
  rw [Int.pow_add]
  have : val a * val b ≤ 10000 ^ a.length * val b := Int.mul_le_mul_of_nonneg_right (by omega) h4
  have h7 : 10000 ^ a.length * val b < 10000 ^ a.length * 10000 ^ b.length := Int.mul_lt_mul_of_pos_left h2 h5
  omega

end Go.Alo
