/- Plain laws of lists: what hangs on a block, through pushes and pops. -/
import Derived.Test.YthginpedlfocpaaListD
import Derived.Test.YthginpedlfocpaaListE
namespace Go.Proofs.Ythginpedlfocpaa
open Go.RowKit Go.Alo Go.Shelf

theorem stF_len (bs : List Int) (a x : Int) (h0 : 0 ≤ a) : (stF bs a x).length = bs.length := by
  unfold stF
  split
  · unfold splice
    simp [byl_len]
    omega
  · rfl

theorem ldE_st (bs : List Int) (a x b : Int) (h0 : 0 ≤ a) : ldE (stF bs a x) b = ldE bs b := by
  unfold ldE
  rw [stF_len _ _ _ h0]

theorem ldE_ok {bs : List Int} {a : Int} (h : ldE bs a = 0) : a ≤ bs.length ∧ 8 ≤ bs.length - a := by
  unfold ldE at h
  split at h
  · assumption
  · simp at h

theorem ldE_of {bs : List Int} {a : Int} (h : a + 8 ≤ bs.length) : ldE bs a = 0 := by
  unfold ldE
  rw [if_pos (by omega)]

theorem ldF_same (bs : List Int) (a x : Int) (h0 : 0 ≤ a) (h : ldE bs a = 0) (hx0 : 0 ≤ x) (hx1 : x < 18446744073709551616) : ldF (stF bs a x) a = x := by
  have hk := ldE_ok h
  have e : sub8 (stF bs a x) a = byl 8 x := by
    unfold sub8
    rw [stF_len _ _ _ h0, if_pos hk]
    unfold stF splice
    rw [if_pos hk]
    have e1 : (bs.take a.toNat).length = a.toNat := by simp; omega
    rw [List.drop_append_of_le_length (by omega), List.drop_of_length_le (by omega), List.nil_append, List.take_append_of_le_length (by rw [byl_len]; omega), List.take_of_length_le (by rw [byl_len]; omega)]
  unfold ldF
  rw [e]
  exact ldl_byl 8 x hx0 (by rw [show (256 : Int) ^ 8 = 18446744073709551616 from by decide]; exact hx1)

theorem ldF_other (bs : List Int) (a b x : Int) (h0 : 0 ≤ a) (hb0 : 0 ≤ b) (hab : a + 8 ≤ b ∨ b + 8 ≤ a) : ldF (stF bs a x) b = ldF bs b := by
  have e : sub8 (stF bs a x) b = sub8 bs b := by
    unfold sub8
    rw [stF_len _ _ _ h0]
    split
    · rename_i hk
      unfold stF
      split
      · rename_i hka
        unfold splice
        rcases hab with h | h
        · have e1 : (bs.take a.toNat).length = a.toNat := by simp; omega
          rw [List.drop_append, List.drop_of_length_le (by omega), List.nil_append, e1, List.drop_append, List.drop_of_length_le (by rw [byl_len]; omega), List.nil_append, List.drop_drop, byl_len]
          congr 2
          omega
        · rw [List.drop_append_of_le_length (by simp; omega), List.take_append_of_le_length (by simp; omega), List.drop_take, List.take_take]
          congr 1
          omega
      · rfl
    · rfl
  unfold ldF
  rw [e]

/-- What hangs on a block. -/
def OnL (bs : List Int) : Int → List Int → Prop
  | h, [] => h = 0
  | h, a :: l => h = a ∧ a ≠ 0 ∧ 0 ≤ a ∧ ldE bs a = 0 ∧ OnL bs (ldF bs a) l

theorem OnL.other {bs : List Int} {h : Int} {ls : List Int} (b x : Int) (hb0 : 0 ≤ b) (ho : OnL bs h ls) (hap : ∀ a ∈ ls, b + 8 ≤ a ∨ a + 8 ≤ b) : OnL (stF bs b x) h ls := by
  induction ls generalizing h with
  | nil => exact ho
  | cons a l ih =>
    obtain ⟨h1, h2, h3, h4, h5⟩ := ho
    refine ⟨h1, h2, h3, by rw [ldE_st _ _ _ _ hb0]; exact h4, ?_⟩
    rw [ldF_other bs b a x hb0 h3 (hap a (by simp))]
    exact ih h5 (fun y hy => hap y (List.mem_cons_of_mem _ hy))

theorem OnL.hd {bs : List Int} {h : Int} {ls : List Int} (ho : OnL bs h ls) : ∀ k, k ≤ ls.length → OnL bs (Proofs.Ythginpedlfocpaa.hd bs h k) (ls.drop k) := by
  intro k
  induction k with
  | zero => intro _; exact ho
  | succ k ih =>
    intro hk
    have h1 := ih (by omega)
    rw [List.drop_eq_getElem_cons (by omega : k < ls.length)] at h1
    obtain ⟨h2, _, _, _, h5⟩ := h1
    show OnL bs (ldF bs (Proofs.Ythginpedlfocpaa.hd bs h k)) _
    rw [h2]
    exact h5

theorem OnL.list {bs : List Int} {h : Int} {ls : List Int} (ho : OnL bs h ls) : chL bs h ls.length = ls := by
  apply List.ext_getElem?
  intro i
  unfold chL
  rw [List.getElem?_map]
  rcases Nat.lt_or_ge i ls.length with hlt | hge
  · rw [List.getElem?_range hlt, List.getElem?_eq_getElem hlt]
    have h1 := ho.hd i (by omega)
    rw [List.drop_eq_getElem_cons hlt] at h1
    simp only [Option.map_some]
    rw [h1.1]
  · rw [List.getElem?_eq_none (by simpa using hge), List.getElem?_eq_none hge]
    rfl

theorem OnL.chN {bs : List Int} (ls : List Int) : ∀ {h : Int} (r : Nat), OnL bs h ls → chN bs h r = if ls.length ≤ r then some ls.length else none := by
  induction ls with
  | nil =>
    intro h r ho
    obtain rfl : h = 0 := ho
    rw [chN_zero]; simp
  | cons a l ih =>
    intro h r ho
    obtain ⟨rfl, h2, h3, h4, h5⟩ := ho
    cases r with
    | zero => rw [chN_end _ _ h2, if_neg (by simp)]
    | succ r =>
      rw [chN_step _ _ _ h2 (by omega) h4, Nat.add_sub_cancel, ih r h5]
      by_cases hl : l.length ≤ r
      · rw [if_pos hl, if_pos (by simpa using hl)]; rfl
      · rw [if_neg hl, if_neg (by simpa using hl)]; rfl

theorem OnL.chF {bs : List Int} {h : Int} {ls : List Int} (ho : OnL bs h ls) (most : Int) (hb : ls.length ≤ bs.length) : chF bs h most = if (ls.length : Int) ≤ most ∨ ls.length = 0 then some ls.length else none := by
  unfold Proofs.Ythginpedlfocpaa.chF
  rw [ho.chN ls]
  have := mn_eq most bs.length
  by_cases hc : (ls.length : Int) ≤ most ∨ ls.length = 0
  · rw [if_pos hc, if_pos (by omega)]
  · rw [if_neg hc, if_neg (by omega)]

theorem OnL.all {bs : List Int} {h : Int} {ls : List Int} (ho : OnL bs h ls) (hb : ls.length ≤ bs.length) : allF bs h ls.length = some ls := by
  unfold allF
  rw [ho.chF _ hb, if_pos (.inl (Int.le_refl _))]
  simp only [if_pos, ho.list]

theorem OnL.all_not {bs : List Int} {h n : Int} {ls : List Int} (ho : OnL bs h ls) (hb : ls.length ≤ bs.length) (hn : n ≠ ls.length) : allF bs h n = none := by
  unfold allF
  rw [ho.chF _ hb]
  split
  · rename_i k hk
    split at hk
    · obtain rfl := Option.some.inj hk
      rw [if_neg (fun e => hn e.symm)]
    · simp at hk
  · rfl

theorem OnL.pop {bs : List Int} {h : Int} {a : Int} {l : List Int} (ho : OnL bs h (a :: l)) (n : Int) (hn : n ≠ 0) : popF bs h n = (ldF bs a, n - 1, a, 0) ∧ OnL bs (ldF bs a) l := by
  obtain ⟨rfl, h2, h3, h4, h5⟩ := ho
  unfold popF
  rw [if_neg hn, if_pos h4]
  exact ⟨rfl, h5⟩

/-- Blocks that are apart. -/
def Apart (l : List Int) : Prop := l.Pairwise (fun a b => a + 8 ≤ b ∨ b + 8 ≤ a)

/-- Blocks that may be pushed on a memory so long. -/
def Good (len : Nat) (l : List Int) : Prop := ∀ a ∈ l, a ≠ 0 ∧ 0 ≤ a ∧ a + 8 ≤ len ∧ a < 18446744073709551616

theorem push_law (xs : List Int) : ∀ (bs : List Int) (h n : Int) (ls : List Int), OnL bs h ls → 0 ≤ h → h < 18446744073709551616 → Apart (xs.reverse ++ ls) → Good bs.length xs →
    ∃ bs' h', pushF bs h n xs = (bs', h', n + xs.length, 0) ∧ OnL bs' h' (xs.reverse ++ ls) ∧ bs'.length = bs.length ∧ 0 ≤ h' ∧ h' < 18446744073709551616 ∧ (∀ ks k, OnL bs k ks → (∀ a ∈ ks, ∀ b ∈ xs, b + 8 ≤ a ∨ a + 8 ≤ b) → OnL bs' k ks) := by
  induction xs with
  | nil => intro bs h n ls ho h0 h1 _ _; exact ⟨bs, h, by simp [pushF], by simpa using ho, rfl, h0, h1, fun ks k hk _ => hk⟩
  | cons a l ih =>
    intro bs h n ls ho h0 h1 hap hg
    obtain ⟨g1, g2, g3, g4⟩ := hg a (by simp)
    have hE := ldE_of (bs := bs) g3
    rw [List.reverse_cons, List.append_assoc, List.singleton_append] at hap ⊢
    have hap2 : Apart (a :: ls) := (List.pairwise_append.1 hap).2.1
    have hal := List.pairwise_cons.1 hap2
    have ho2 : OnL (stF bs a h) a (a :: ls) := by
      refine ⟨rfl, g1, g2, by rw [ldE_st _ _ _ _ g2]; exact hE, ?_⟩
      rw [ldF_same bs a h g2 hE h0 h1]
      exact ho.other a h g2 (fun y hy => hal.1 y hy)
    obtain ⟨bs', h', e1, e2, e3, e4, e5, e6⟩ := ih (stF bs a h) a (n + 1) (a :: ls) ho2 g2 g4 hap (fun y hy => by rw [stF_len _ _ _ g2]; exact hg y (List.mem_cons_of_mem _ hy))
    refine ⟨bs', h', ?_, e2, by rw [e3, stF_len _ _ _ g2], e4, e5, ?_⟩
    · rw [pushF, if_neg g1, if_pos hE, e1]
      simp
      omega
    · intro ks k hk hka
      refine e6 ks k (hk.other a h g2 (fun y hy => hka y hy a (by simp))) (fun y hy b hb => hka y hy b (List.mem_cons_of_mem _ hb))

/-- The blocks are good, and apart. -/
theorem blk_law (l : List Int) : ∀ f : Int → Bool, (∀ a ∈ blk f l, ∃ y, 0 ≤ y ∧ y < 120 ∧ f y = false ∧ a = 16 + 16 * y) ∧ Apart (blk f l) := by
  induction l with
  | nil => intro f; exact ⟨by simp [blk], by simp [blk, Apart]⟩
  | cons x l ih =>
    intro f
    unfold blk
    split
    · exact ih f
    · rename_i hx
      obtain ⟨i1, i2⟩ := ih (fun y => if y = x % 120 then true else f y)
      constructor
      · intro a ha
        rcases List.mem_cons.1 ha with rfl | ha
        · exact ⟨x % 120, by omega, by omega, by simpa using hx, rfl⟩
        · obtain ⟨y, y0, y1, y2, y3⟩ := i1 a ha
          refine ⟨y, y0, y1, ?_, y3⟩
          by_cases hy : y = x % 120
          · simp [hy] at y2
          · simpa [hy] using y2
      · refine List.pairwise_cons.2 ⟨?_, i2⟩
        intro a ha
        obtain ⟨y, y0, y1, y2, y3⟩ := i1 a ha
        by_cases hy : y = x % 120
        · simp [hy] at y2
        · omega

end Go.Proofs.Ythginpedlfocpaa
