/- ListChains: the plain law. -/
import Derived.Test.YthginpedlfocpaaListF
namespace Go.Proofs.Ythginpedlfocpaa
open Go.RowKit Go.Alo Go.Shelf

theorem blk_len (l : List Int) : ∀ f : Int → Bool, (blk f l).length + metN f 120 ≤ 120 := by
  induction l with
  | nil => intro f; have := metN_le f 120; simpa [blk] using this
  | cons x l ih =>
    intro f
    unfold blk
    split
    · exact ih f
    · rename_i hx
      have h1 := ih (fun y => if y = x % 120 then true else f y)
      rw [metN_new f (x % 120) (by omega) (by simpa using hx) 120 (by omega)] at h1
      rw [List.length_cons]; omega

/-- Blocks that a law's own call made of its argument. -/
structure Blocks (L : List Int) : Prop where
  good : Good 2048 L
  apart : Apart L
  len : L.length ≤ 120

theorem blocks_law (l : List Int) : Blocks (blk (fun _ => false) l) := by
  obtain ⟨h1, h2⟩ := blk_law l (fun _ => false)
  refine ⟨?_, h2, by have := blk_len l (fun _ => false); omega⟩
  intro a ha
  obtain ⟨y, y0, y1, _, rfl⟩ := h1 a ha
  omega

theorem apart_rev {l : List Int} (h : Apart l) : Apart l.reverse := by
  unfold Apart at h ⊢
  rw [List.pairwise_reverse]
  exact h.imp (fun h => h.symm)

theorem OnL.link {bs : List Int} {h : Int} {ls : List Int} (ho : OnL bs h ls) (i : Nat) (hi : i + 1 < ls.length) : ldF bs (ls[i]'(by omega)) = ls[i + 1] := by
  have h1 := ho.hd i (by omega)
  rw [List.drop_eq_getElem_cons (by omega : i < ls.length), List.drop_eq_getElem_cons hi] at h1
  exact h1.2.2.2.2.1

theorem OnL.at {bs : List Int} {h : Int} {ls : List Int} (ho : OnL bs h ls) (i : Nat) (hi : i < ls.length) : OnL bs ls[i] (ls.drop i) := by
  have h1 := ho.hd i (by omega)
  rw [List.drop_eq_getElem_cons hi] at h1 ⊢
  obtain ⟨e, h2⟩ := h1
  exact ⟨rfl, h2⟩

/-- A ring never ends. -/
theorem ring (bs : List Int) (S : Int → Prop) (h : ∀ a, S a → a ≠ 0 ∧ ldE bs a = 0 ∧ S (ldF bs a)) (r : Nat) : ∀ a, S a → chN bs a r = none := by
  induction r with
  | zero => intro a ha; exact chN_end _ _ (h a ha).1
  | succ r ih =>
    intro a ha
    obtain ⟨h1, h2, h3⟩ := h a ha
    rw [chN_step _ _ _ h1 (by omega) h2, Nat.add_sub_cancel, ih _ h3]
    rfl

/-- What ListChains' memory says: all pushed; from the k-th on; a ring. -/
theorem chains_law (L : List Int) (hL : Blocks L) : ∃ bs h, pushF (List.replicate 2048 0) 0 0 L = (bs, h, (L.length : Int), 0) ∧ bs.length = 2048 ∧ 0 ≤ h ∧ h < 18446744073709551616 ∧
    (∀ k (hk : k < L.length), chR bs L[k] ((k : Int) + 1) = (L[k], (k : Int) + 1, 0) ∧ chR bs L[k] k = (0, 0, 3) ∧ allF bs L[k] ((k : Int) + 1) = some (L.take (k + 1)).reverse) ∧
    (∀ h0 : 0 < L.length, (∀ most, chR (stF bs L[0] h) h most = (0, 0, 3)) ∧ ∀ n, allF (stF bs L[0] h) h n = none) := by
  have hr : (List.replicate 2048 (0 : Int)).length = 2048 := List.length_replicate
  generalize List.replicate 2048 (0 : Int) = z at hr ⊢
  obtain ⟨bs, h, h1, h2, h3, h4, h5, _⟩ := push_law L z 0 0 [] rfl (by decide) (by decide) (by rw [List.append_nil]; exact apart_rev hL.apart) (by rw [hr]; exact hL.good)
  rw [List.append_nil] at h2
  rw [hr] at h3
  refine ⟨bs, h, by simpa using h1, h3, h4, h5, ?_, ?_⟩
  · intro k hk
    have hrl : L.reverse.length = L.length := List.length_reverse
    have hat := h2.at (L.length - 1 - k) (by omega)
    have e1 : L.reverse[L.length - 1 - k]'(by omega) = L[k] := by
      rw [List.getElem_reverse]
      congr 1
      omega
    have e2 : L.reverse.drop (L.length - 1 - k) = (L.take (k + 1)).reverse := by
      rw [List.reverse_take]
      congr 1
      omega
    rw [e1, e2] at hat
    have e3 : (L.take (k + 1)).reverse.length = k + 1 := by simp; omega
    have hlen := hL.len
    have hb : (L.take (k + 1)).reverse.length ≤ bs.length := by omega
    refine ⟨?_, ?_, ?_⟩
    · unfold chR
      rw [hat.chF _ hb, if_pos (.inl (by rw [e3]; omega)), e3]
      simp
    · unfold chR
      rw [hat.chF _ hb, if_neg (by rw [e3]; omega)]
    · have := hat.all hb
      rw [e3] at this
      simpa using this
  · intro h0
    have hne : L.reverse ≠ [] := by intro e; have := congrArg List.length e; rw [List.length_reverse, List.length_nil] at this; omega
    have hh : h ∈ L := by
      cases hc : L.reverse with
      | nil => exact absurd hc hne
      | cons a l =>
        rw [hc] at h2
        rw [h2.1, ← List.mem_reverse, hc]
        simp
    have hring : ∀ r a, a ∈ L → chN (stF bs L[0] h) a r = none := by
      intro r
      refine ring _ (fun a => a ∈ L) ?_ r
      intro a ha
      obtain ⟨g1, g2, g3, g4⟩ := hL.good a ha
      obtain ⟨q1, q2, q3, q4⟩ := hL.good L[0] (List.getElem_mem h0)
      refine ⟨g1, by rw [ldE_st _ _ _ _ q2]; exact ldE_of (by omega), ?_⟩
      have hE0 : ldE bs L[0] = 0 := ldE_of (by omega)
      obtain ⟨i, hi, rfl⟩ := List.getElem_of_mem ha
      cases i with
      | zero => rw [ldF_same _ _ _ q2 hE0 h4 h5]; exact hh
      | succ i =>
        have hap : L[0] + 8 ≤ L[i + 1] ∨ L[i + 1] + 8 ≤ L[0] := List.pairwise_iff_getElem.1 hL.apart 0 (i + 1) h0 hi (Nat.succ_pos i)
        rw [ldF_other _ _ _ _ q2 g2 hap]
        have hrl : L.reverse.length = L.length := List.length_reverse
        have := h2.link (L.length - 1 - (i + 1)) (by omega)
        rw [List.getElem_reverse, List.getElem_reverse] at this
        have e1 : L.length - 1 - (L.length - 1 - (i + 1)) = i + 1 := by omega
        have e2 : L.length - 1 - (L.length - 1 - (i + 1) + 1) = i := by omega
        simp only [e1, e2] at this
        rw [this]
        exact List.getElem_mem _
    refine ⟨fun most => ?_, fun n => ?_⟩
    · unfold chR Proofs.Ythginpedlfocpaa.chF
      rw [hring _ _ hh]
    · unfold allF Proofs.Ythginpedlfocpaa.chF
      rw [hring _ _ hh]

end Go.Proofs.Ythginpedlfocpaa
