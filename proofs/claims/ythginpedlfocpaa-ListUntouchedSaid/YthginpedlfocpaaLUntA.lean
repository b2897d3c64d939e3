/- ListUntouched: the plain law: but links nothing is written. -/
import Derived.Test.YthginpedlfocpaaFill
namespace Go.Proofs.Ythginpedlfocpaa
open Go.RowKit Go.Alo Go.Shelf

/-- All but the words at some blocks is one byte. -/
def Beside (c : Int) (L : List Int) (bs : List Int) : Prop := ∀ i (hi : i < bs.length), (∀ a ∈ L, ¬ (a ≤ (i : Int) ∧ (i : Int) < a + 8)) → bs[i] = c

theorem beside_all (c : Int) (L : List Int) (n : Nat) : Beside c L (List.replicate n c) := by
  intro i hi _
  simp

theorem stF_get (bs : List Int) (a x : Int) (h0 : 0 ≤ a) (i : Nat) (h : ¬ (a ≤ (i : Int) ∧ (i : Int) < a + 8)) : (stF bs a x)[i]? = bs[i]? := by
  unfold stF
  split
  · rename_i hk
    unfold splice
    have e1 : (bs.take a.toNat).length = a.toNat := by simp; omega
    by_cases hlt : i < a.toNat
    · rw [List.getElem?_append_left (by omega), List.getElem?_take, if_pos hlt]
    · rw [List.getElem?_append_right (by omega), e1, List.getElem?_append_right (by rw [byl_len]; omega), byl_len, List.getElem?_drop]
      congr 1
      omega
  · rfl

theorem beside_st {c : Int} {L bs : List Int} (h : Beside c L bs) (a x : Int) (h0 : 0 ≤ a) (ha : a ∈ L) : Beside c L (stF bs a x) := by
  intro i hi hn
  have hl := stF_len bs a x h0
  have e := stF_get bs a x h0 i (hn a ha)
  rw [List.getElem?_eq_getElem hi, List.getElem?_eq_getElem (by omega)] at e
  rw [Option.some.inj e]
  exact h i (by omega) hn

theorem beside_push {c : Int} {L : List Int} (xs : List Int) : ∀ {bs : List Int} (h n : Int), Beside c L bs → (∀ a ∈ xs, a ∈ L ∧ 0 ≤ a) → Beside c L (pushF bs h n xs).1 := by
  induction xs with
  | nil => intro bs h n hb _; exact hb
  | cons a l ih =>
    intro bs h n hb hx
    rw [pushF]
    split
    · exact hb
    · split
      · exact ih _ _ (beside_st hb a h (hx a (by simp)).2 (hx a (by simp)).1) (fun y hy => hx y (List.mem_cons_of_mem _ hy))
      · exact hb

end Go.Proofs.Ythginpedlfocpaa
