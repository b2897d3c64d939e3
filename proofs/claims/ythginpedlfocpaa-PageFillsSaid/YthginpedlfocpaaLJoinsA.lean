/- ListJoins: the plain law. -/
import Derived.Test.YthginpedlfocpaaLChainsA
import Derived.Test.YthginpedlfocpaaJoin
namespace Go.Proofs.Ythginpedlfocpaa
open Go.RowKit Go.Alo Go.Shelf

/-- Two chains are made one. -/
theorem onl_join {bs : List Int} {h' : Int} {ls' : List Int} (h0 : 0 ≤ h') (h1 : h' < 18446744073709551616) (ho' : OnL bs h' ls') (ls : List Int) :
    ∀ {h a : Int}, OnL bs h ls → ls.getLast? = some a → Apart (ls ++ ls') → 0 ≤ a ∧ OnL (stF bs a h') h (ls ++ ls') := by
  induction ls with
  | nil => intro h a _ hl; simp at hl
  | cons b l ih =>
    intro h a ho hl hap
    obtain ⟨e1, e2, e3, e4, e5⟩ := ho
    obtain ⟨p1, p2⟩ := List.pairwise_cons.1 hap
    cases l with
    | nil =>
      simp only [List.getLast?_singleton, Option.some.injEq] at hl
      subst hl
      refine ⟨e3, e1, e2, e3, by rw [ldE_st _ _ _ _ e3]; exact e4, ?_⟩
      rw [ldF_same _ _ _ e3 e4 h0 h1]
      exact ho'.other b h' e3 (fun y hy => p1 y (by simpa using hy))
    | cons c l =>
      rw [List.getLast?_cons_cons] at hl
      obtain ⟨q1, q2⟩ := ih e5 hl p2
      refine ⟨q1, e1, e2, e3, by rw [ldE_st _ _ _ _ q1]; exact e4, ?_⟩
      have hmem : a ∈ c :: l := List.mem_of_getLast? hl
      have := p1 a (List.mem_append_left _ hmem)
      rw [ldF_other _ _ _ _ q1 e3 this.symm]
      exact q2

theorem joins_law (L : List Int) (hL : Blocks L) (k : Nat) (hk : k ≤ L.length) : ∃ bs1 h1 bs2 h2 bs3 h3,
    pushF (List.replicate 2048 0) 0 0 (L.take k) = (bs1, h1, (k : Int), 0) ∧ pushF bs1 0 0 (L.drop k) = (bs2, h2, ((L.length - k : Nat) : Int), 0) ∧ bs1.length = 2048 ∧ bs2.length = 2048 ∧ bs3.length = 2048 ∧
    allF bs2 h1 k = some (L.take k).reverse ∧ allF bs2 h2 ((L.length - k : Nat) : Int) = some (L.drop k).reverse ∧ joinF bs2 h1 k h2 ((L.length - k : Nat) : Int) = (bs3, (h3, (L.length : Int)), (0, 0), 0) ∧
    allF bs3 h3 (L.length : Int) = some ((L.drop k).reverse ++ (L.take k).reverse) ∧ allF bs3 0 0 = some [] := by
  have hr : (List.replicate 2048 (0 : Int)).length = 2048 := List.length_replicate
  generalize List.replicate 2048 (0 : Int) = z at hr ⊢
  have hlen := hL.len
  have hap : Apart (L.take k ++ L.drop k) := by rw [List.take_append_drop]; exact hL.apart
  obtain ⟨a1, a2, a3⟩ := List.pairwise_append.1 hap
  have t1 : (L.take k).length = k := by simp; omega
  have t2 : (L.drop k).length = L.length - k := by simp
  obtain ⟨bs1, h1, p1, p2, p3, p4, p5, _⟩ := push_law (L.take k) z 0 0 [] rfl (by decide) (by decide) (by rw [List.append_nil]; exact apart_rev a1) (by rw [hr]; intro a ha; exact hL.good a (List.mem_of_mem_take ha))
  rw [hr] at p3
  rw [List.append_nil] at p2
  obtain ⟨bs2, h2, q1, q2, q3, q4, q5, q6⟩ := push_law (L.drop k) bs1 0 0 [] rfl (by decide) (by decide) (by rw [List.append_nil]; exact apart_rev a2) (by rw [p3]; intro a ha; exact hL.good a (List.mem_of_mem_drop ha))
  rw [p3] at q3
  rw [List.append_nil] at q2
  have o1 : OnL bs2 h1 (L.take k).reverse := q6 _ _ p2 (fun a ha b hb => (a3 a (by simpa using ha) b hb).symm)
  have r1 : (L.take k).reverse.length = k := by rw [List.length_reverse, t1]
  have r2 : (L.drop k).reverse.length = L.length - k := by rw [List.length_reverse, t2]
  have A1 := o1.all (by rw [r1, q3]; omega)
  have A2 := q2.all (by rw [r2, q3]; omega)
  rw [r1] at A1
  rw [r2] at A2
  have apr : Apart ((L.drop k).reverse ++ (L.take k).reverse) := by rw [← List.reverse_append]; exact apart_rev hap
  have rl : ((L.drop k).reverse ++ (L.take k).reverse).length = L.length := by rw [List.length_append, r1, r2]; omega
  have fin : ∃ bs3 h3, joinF bs2 h1 k h2 ((L.length - k : Nat) : Int) = (bs3, (h3, (L.length : Int)), (0, 0), 0) ∧ bs3.length = 2048 ∧ OnL bs3 h3 ((L.drop k).reverse ++ (L.take k).reverse) := by
    cases hgl : (L.drop k).reverse.getLast? with
    | none =>
      have hnil : (L.drop k).reverse = [] := List.getLast?_eq_none_iff.1 hgl
      have hk0 : L.length - k = 0 := by rw [← r2, hnil]; rfl
      refine ⟨bs2, h1, ?_, q3, by rw [hnil]; exact o1⟩
      unfold joinF
      rw [A2]
      simp only [hgl]
      rw [show (k : Int) = (L.length : Int) from by omega]
    | some a =>
      obtain ⟨g1, g2⟩ := onl_join p4 p5 o1 _ q2 hgl apr
      refine ⟨stF bs2 a h1, h2, ?_, by rw [stF_len _ _ _ g1, q3], g2⟩
      unfold joinF
      rw [A2]
      simp only [hgl]
      rw [r2, show (k : Int) + ((L.length - k : Nat) : Int) = (L.length : Int) from by omega]
  obtain ⟨bs3, h3, f1, f2, f3⟩ := fin
  have A3 := f3.all (by rw [rl, f2]; omega)
  rw [rl] at A3
  refine ⟨bs1, h1, bs2, h2, bs3, h3, by rw [p1, t1]; simp, by rw [q1, t2]; simp, p3, q3, f2, A1, A2, f1, A3, ?_⟩
  exact OnL.all (bs := bs3) (h := 0) (ls := []) rfl (Nat.zero_le _)

end Go.Proofs.Ythginpedlfocpaa
