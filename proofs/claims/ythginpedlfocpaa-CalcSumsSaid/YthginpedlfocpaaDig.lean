/- Numbers as rows of digits in base 10000, the lowest first: plain arithmetic. -/
import Derived.IntWalk
namespace Go.Alo

/-- What a row of digits is worth. -/
def val : List Int → Int
  | [] => 0
  | d :: l => d + 10000 * val l

def Dig (l : List Int) : Prop := ∀ d ∈ l, 0 ≤ d ∧ d < 10000

/-- Digits, the highest of them no nought. -/
def Nm (l : List Int) : Prop := Dig l ∧ (∀ h : l ≠ [], l.getLast h ≠ 0)

theorem Dig.nil : Dig [] := by simp [Dig]
theorem Nm.nil : Nm [] := ⟨Dig.nil, fun h => absurd rfl h⟩

theorem pow4_pos (n : Nat) : (0 : Int) < 10000 ^ n := by
  induction n with
  | zero => simp
  | succ n ih => rw [Int.pow_succ]; omega

theorem val_append (a b : List Int) : val (a ++ b) = val a + 10000 ^ a.length * val b := by
  induction a with
  | nil => simp [val]
  | cons d a ih =>
    simp only [List.cons_append, val, ih, List.length_cons, Int.pow_succ]
    grind

theorem val_nonneg {l : List Int} (h : Dig l) : 0 ≤ val l := by
  induction l with
  | nil => simp [val]
  | cons d l ih =>
    have h1 := h d (by simp)
    have h2 := ih (fun x hx => h x (by simp [hx]))
    simp only [val]; omega

theorem val_lt {l : List Int} (h : Dig l) : val l < 10000 ^ l.length := by
  induction l with
  | nil => simp [val]
  | cons d l ih =>
    have h1 := h d (by simp)
    have h2 := ih (fun x hx => h x (by simp [hx]))
    simp only [val, List.length_cons, Int.pow_succ]; omega

theorem val_ge {l : List Int} (h : Nm l) (hne : l ≠ []) : 10000 ^ (l.length - 1) ≤ val l := by
  induction l with
  | nil => exact absurd rfl hne
  | cons d l ih =>
    have h1 := h.1 d (by simp)
    by_cases hl : l = []
    · subst hl
      have := h.2 (by simp)
      simp only [List.getLast_singleton] at this
      simp [val]; omega
    · have hd : Dig l := fun x hx => h.1 x (by simp [hx])
      have h2 := ih ⟨hd, fun _ => by have := h.2 (by simp); rwa [List.getLast_cons hl] at this⟩ hl
      have hp : 0 < l.length := List.length_pos_iff.2 hl
      simp only [val, List.length_cons, Nat.add_sub_cancel]
      rw [show l.length = (l.length - 1) + 1 from by omega, Int.pow_succ]
      omega

theorem pow4_mono {a b : Nat} (h : a ≤ b) : (10000 : Int) ^ a ≤ 10000 ^ b := by
  obtain ⟨c, rfl⟩ : ∃ c, b = a + c := ⟨b - a, by omega⟩
  rw [Int.pow_add]
  have h1 := pow4_pos a
  have h2 := pow4_pos c
  have : (10000 : Int) ^ a * 1 ≤ 10000 ^ a * 10000 ^ c := Int.mul_le_mul_of_nonneg_left (by omega) (by omega)
  omega

/-- Of two numbers that with more digits is greater. -/
theorem val_len {a b : List Int} (ha : Dig a) (hb : Nm b) (h : a.length < b.length) : val a < val b := by
  have hne : b ≠ [] := by intro e; subst e; simp at h
  have h1 := val_lt ha
  have h2 := val_ge hb hne
  have h3 := pow4_mono (show a.length ≤ b.length - 1 by omega)
  omega

theorem Dig.take {l : List Int} (h : Dig l) (n : Nat) : Dig (l.take n) := fun d hd => h d (List.mem_of_mem_take hd)
theorem Dig.drop {l : List Int} (h : Dig l) (n : Nat) : Dig (l.drop n) := fun d hd => h d (List.mem_of_mem_drop hd)

theorem val_split (l : List Int) (n : Nat) : val l = val (l.take n) + 10000 ^ (min n l.length) * val (l.drop n) := by
  have := val_append (l.take n) (l.drop n)
  rw [List.take_append_drop, List.length_take] at this
  exact this

/-- Two rows that part at a place, and are the same above it. -/
theorem val_at {a b : List Int} (ha : Dig a) (hb : Dig b) (hl : a.length = b.length) (i : Nat) (hi : i < a.length) (hd : a.drop (i + 1) = b.drop (i + 1)) :
    (a[i] < b[i]'(by omega) → val a < val b) := by
  intro h
  have e1 := val_split a i
  have e2 := val_split b i
  rw [List.drop_eq_getElem_cons hi] at e1
  rw [List.drop_eq_getElem_cons (by omega : i < b.length)] at e2
  simp only [val] at e1 e2
  rw [hd] at e1
  have t1 := val_lt (ha.take i)
  have t2 := val_nonneg (hb.take i)
  rw [List.length_take] at t1
  rw [Nat.min_eq_left (by omega)] at e1 e2 t1
  generalize val (List.drop (i + 1) b) = D at *
  generalize a[i] = x at *
  generalize b[i] = y at *
  have hp := pow4_pos i
  generalize (10000 : Int) ^ i = p at *
  have : p * (x + 10000 * D + 1) ≤ p * (y + 10000 * D) := Int.mul_le_mul_of_nonneg_left (by omega) (by omega)
  rw [Int.mul_add, Int.mul_one] at this
  omega

theorem Nm.snoc {l : List Int} {d : Int} (h : Dig l) (h0 : 0 < d) (h1 : d < 10000) : Nm (l ++ [d]) := by
  refine ⟨?_, fun _ => by rw [List.getLast_append_of_ne_nil _ (by simp)]; simp; omega⟩
  intro x hx
  rcases List.mem_append.1 hx with hx | hx
  · exact h x hx
  · rw [List.mem_singleton.1 hx]; omega

theorem Dig.snoc {l : List Int} {d : Int} (h : Dig l) (h0 : 0 ≤ d) (h1 : d < 10000) : Dig (l ++ [d]) := by
  intro x hx
  rcases List.mem_append.1 hx with hx | hx
  · exact h x hx
  · rw [List.mem_singleton.1 hx]; omega

/-- One nought less at the end. -/
theorem val_dropLast {l : List Int} (h : 0 < l.length) (h0 : l[l.length - 1] = 0) : val (l.take (l.length - 1)) = val l := by
  have e := val_split l (l.length - 1)
  rw [List.drop_eq_getElem_cons (by omega : l.length - 1 < l.length), h0, List.drop_eq_nil_of_le (by omega)] at e
  simp only [val] at e
  omega

theorem Nm.of_last {l : List Int} (h : Dig l) (h0 : ∀ hp : 0 < l.length, l[l.length - 1] ≠ 0) : Nm l := by
  refine ⟨h, fun hne => ?_⟩
  rw [List.getLast_eq_getElem]
  exact h0 (List.length_pos_iff.2 hne)

/-- What is left of a row by its reader: from the highest digit down. -/
theorem val_back (l : List Int) (i : Nat) (hi : i < l.length) : val (l.drop i) = l[i] + 10000 * val (l.drop (i + 1)) := by
  rw [List.drop_eq_getElem_cons hi, val]

theorem val_drop_le {l : List Int} (h : Dig l) (i : Nat) : val (l.drop i) ≤ val l := by
  have e := val_split l i
  have h1 := val_nonneg (h.take i)
  have h2 := val_nonneg (h.drop i)
  have h3 := pow4_pos (min i l.length)
  have : 1 * val (l.drop i) ≤ 10000 ^ (min i l.length) * val (l.drop i) := Int.mul_le_mul_of_nonneg_right (by omega) h2
  omega

theorem val_set (l : List Int) (i : Nat) (x : Int) (h : i < l.length) : val (l.set i x) = val l + 10000 ^ i * (x - l[i]) := by
  induction l generalizing i with
  | nil => simp at h
  | cons d l ih =>
    cases i with
    | zero => simp [val]; omega
    | succ i =>
      simp only [List.length_cons] at h
      have := ih i (by omega)
      simp only [List.set_cons_succ, val, this, List.getElem_cons_succ, Int.pow_succ]
      grind

theorem val_zeros (n : Nat) : val (List.replicate n 0) = 0 := by
  induction n with
  | zero => rfl
  | succ n ih => simp [List.replicate_succ, val, ih]

theorem getD_out (l : List Int) (k : Nat) (h : l.length ≤ k) : l.getD k 0 = 0 := by simp [List.getD_eq_getElem?_getD, List.getElem?_eq_none h]

theorem val_next (l : List Int) (k : Nat) : val (l.drop k) = l.getD k 0 + 10000 * val (l.drop (k + 1)) := by
  by_cases h : k < l.length
  · rw [val_back l k h]; simp [h]
  · rw [List.drop_eq_nil_of_le (by omega), List.drop_eq_nil_of_le (by omega)]
    simp only [val]
    rw [getD_out _ _ (by omega)]; rfl

theorem Dig.getD {l : List Int} (h : Dig l) (k : Nat) : 0 ≤ l.getD k 0 ∧ l.getD k 0 ≤ 9999 := by
  by_cases hk : k < l.length
  · have := h _ (List.getElem_mem hk)
    simp [hk]; omega
  · rw [getD_out _ _ (by omega)]; omega

/-- The sum's row while it is reckoned: k digits are done; what is left of the second number is still to come. -/
structure Adds (T : Int) (l1 : List Int) (N k : Nat) (o : List Int) : Prop where
  len : o.length = N + 1
  low : ∀ i (h : i < o.length), 0 ≤ o[i] ∧ o[i] ≤ (if i = k then 10000 else 9999)
  top : ∀ h : N < o.length, k ≤ N → o[N] ≤ (if k = N then 1 else 0)
  worth : Go.Alo.val o + 10000 ^ k * Go.Alo.val (l1.drop k) = T

theorem Adds.start {l0 l1 : List Int} {N : Nat} (h0 : Dig l0) (hl : l0.length ≤ N) : Adds (val l0 + val l1) l1 N 0 (l0 ++ List.replicate (N + 1 - l0.length) 0) := by
  refine ⟨by simp; omega, ?_, ?_, ?_⟩
  · intro i hi
    rw [List.getElem_append]
    split
    · rename_i h
      have := h0 _ (List.getElem_mem h)
      split <;> omega
    · simp; split <;> omega
  · intro h _
    rw [List.getElem_append_right (by omega)]
    simp
    split <;> omega
  · rw [val_append, val_zeros]; simp

theorem Adds.small {T : Int} {l1 : List Int} {N k : Nat} {o : List Int} (h : Adds T l1 N k o) (hk : k < o.length) (hs : o[k] + l1.getD k 0 < 10000) (hd : Dig l1) :
    Adds T l1 N (k + 1) (o.set k (o[k] + l1.getD k 0)) := by
  have hy := hd.getD k
  have hok := h.low k hk
  refine ⟨by simp [h.len], ?_, ?_, ?_⟩
  · intro i hi
    rw [List.length_set] at hi
    rw [List.getElem_set]
    have := h.low i hi
    by_cases hik : k = i
    · subst hik; rw [if_pos rfl]; split <;> omega
    · rw [if_neg hik]
      rw [if_neg (fun e => hik e.symm)] at this
      split <;> omega
  · intro hN hle
    rw [List.length_set] at hN
    rw [List.getElem_set, if_neg (by omega)]
    have := h.top hN (by omega)
    rw [if_neg (by omega)] at this
    split <;> omega
  · have e := h.worth
    rw [val_next l1 k] at e
    rw [val_set o k _ hk, Int.pow_succ, ← e]
    generalize (10000 : Int) ^ k = p
    generalize l1.getD k 0 = y
    generalize o[k] = x
    generalize Go.Alo.val (List.drop (k + 1) l1) = V
    grind

theorem Adds.big {T : Int} {l1 : List Int} {N k : Nat} {o : List Int} (h : Adds T l1 N k o) (hk : k < o.length) (hs : 10000 ≤ o[k] + l1.getD k 0) (hd : Dig l1) (hl1 : l1.length ≤ N) :
    k < N ∧ ∀ hk1 : k + 1 < o.length, Adds T l1 N (k + 1) ((o.set k (o[k] + l1.getD k 0 - 10000)).set (k + 1) (o[k + 1] + 1)) := by
  have hy := hd.getD k
  have hok := h.low k hk
  have hlen := h.len
  have hkN : k < N := by
    rcases Nat.lt_or_ge k N with h1 | h1
    · exact h1
    · have e : k = N := by omega
      subst e
      have := h.top hk (Nat.le_refl _)
      rw [if_pos rfl] at this
      have : l1.getD k 0 = 0 := getD_out _ _ (by omega)
      omega
  refine ⟨hkN, fun hk1 => ⟨by simp [h.len], ?_, ?_, ?_⟩⟩
  · intro i hi
    rw [List.length_set, List.length_set] at hi
    have hi' := h.low i hi
    by_cases hik1 : k + 1 = i
    · subst hik1
      rw [List.getElem_set_self, if_pos rfl]
      rw [if_neg (by omega)] at hi'
      omega
    · rw [List.getElem_set_ne hik1, if_neg (fun e => hik1 e.symm)]
      by_cases hik : k = i
      · subst hik
        rw [List.getElem_set_self]; rw [if_pos rfl] at hok; omega
      · rw [List.getElem_set_ne hik]
        rw [if_neg (fun e => hik e.symm)] at hi'
        exact hi'
  · intro hN hle
    rw [List.length_set, List.length_set] at hN
    have ht := h.top hN (by omega)
    rw [if_neg (by omega)] at ht
    rw [List.getElem_set]
    by_cases hik1 : k + 1 = N
    · rw [if_pos hik1, if_pos hik1]
      have : o[k + 1] = o[N] := by congr 1
      omega
    · rw [if_neg hik1, if_neg hik1, List.getElem_set, if_neg (by omega)]; exact ht
  · have e := h.worth
    rw [val_next l1 k] at e
    rw [val_set _ (k + 1) _ (by simpa using hk1), val_set o k _ hk, List.getElem_set, if_neg (by omega), Int.pow_succ, ← e]
    generalize (10000 : Int) ^ k = p
    generalize Go.Alo.val (List.drop (k + 1) l1) = V
    grind

theorem Adds.done {T : Int} {l1 : List Int} {N : Nat} {o : List Int} (h : Adds T l1 N (N + 1) o) (hl1 : l1.length ≤ N) : Dig o ∧ Go.Alo.val o = T := by
  constructor
  · intro d hd
    obtain ⟨i, hi, rfl⟩ := List.getElem_of_mem hd
    have := h.low i hi
    rw [if_neg (by have := h.len; omega)] at this
    omega
  · have := h.worth
    rw [List.drop_eq_nil_of_le (by omega)] at this
    simpa [Go.Alo.val] using this

end Go.Alo
