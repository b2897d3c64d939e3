/- ListActs: two lists in one block and their memory, on either side: contracts of one act. -/
import Derived.Test.YthginpedlfocpaaRlistC
namespace Go.Proofs.Ythginpedlfocpaa
open Go.RowKit Go.Alo Go.Shelf
attribute [local go_sem] max_ints min_ints

/-- Two lists in one block, and their memory. -/
structure Side (T : Nat) (W : World) (m g lb lo lo2 : Nat) (bs : List Int) (p q : Int × Int) : Prop where
  mem : IsMem T W m g bs
  len : bs.length = 2048
  l1 : IsList W lb lo p.1 p.2
  l2 : IsList W lb lo2 q.1 q.2
  flat : Flat W lb
  apart : lo + 1 < lo2 ∨ lo2 + 1 < lo
  nm : lb ≠ m
  ng : lb ≠ g

theorem Side.swap {T : Nat} {W : World} {m g lb lo lo2 : Nat} {bs : List Int} {p q : Int × Int} (s : Side T W m g lb lo lo2 bs p q) : Side T W m g lb lo2 lo bs q p :=
  ⟨s.mem, s.len, s.l2, s.l1, s.flat, s.apart.symm, s.nm, s.ng⟩

theorem Side.fr {T : Nat} {S : Nat → Nat → Prop} {W W' : World} {m g lb lo lo2 : Nat} {bs : List Int} {p q : Int × Int} (s : Side T W m g lb lo lo2 bs p q) (f : Fr S W W') (hm : ∀ o, ¬ S m o) (hg : ∀ o, ¬ S g o) (hl : ∀ o, ¬ S lb o) : Side T W' m g lb lo lo2 bs p q :=
  ⟨s.mem.fr f hm hg, s.len, s.l1.fr f (hl _) (hl _), s.l2.fr f (hl _) (hl _), s.flat.fr f, s.apart, s.nm, s.ng⟩
theorem Side.quiet {T : Nat} {W W' : World} {m g lb lo lo2 : Nat} {bs : List Int} {p q : Int × Int} (s : Side T W m g lb lo lo2 bs p q) (f : Fr nil2 W W') : Side T W' m g lb lo lo2 bs p q :=
  s.fr f (fun _ h => h) (fun _ h => h) (fun _ h => h)

/-- What an act of one side may write. -/
def SF (g lb : Nat) (k _o : Nat) : Prop := k = g ∨ k = lb

theorem pushF_len (xs : List Int) : ∀ (bs : List Int) (h n : Int), (∀ a ∈ xs, 0 ≤ a) → (pushF bs h n xs).1.length = bs.length := by
  induction xs with
  | nil => intro bs h n _; rfl
  | cons a l ih =>
    intro bs h n hx
    rw [pushF]
    split
    · rfl
    · split
      · rw [ih _ _ _ (fun y hy => hx y (List.mem_cons_of_mem _ hy)), stF_len _ _ _ (hx a (by simp))]
      · rfl

theorem pushF_n (xs : List Int) : ∀ (bs : List Int) (h n : Int), n ≤ (pushF bs h n xs).2.2.1 ∧ (pushF bs h n xs).2.2.1 ≤ n + xs.length := by
  induction xs with
  | nil => intro bs h n; simp [pushF]
  | cons a l ih =>
    intro bs h n
    rw [pushF]
    split
    · simp; omega
    · split
      · have := ih (stF bs a h) a (n + 1)
        simp only [List.length_cons]; omega
      · simp; omega

theorem popF_n (bs : List Int) (h n : Int) (hn : 0 ≤ n) : 0 ≤ (popF bs h n).2.1 ∧ (popF bs h n).2.1 ≤ n := by
  unfold popF
  split
  · exact ⟨hn, Int.le_refl _⟩
  · split
    · simp only; omega
    · exact ⟨hn, Int.le_refl _⟩

theorem joinF_n (bs : List Int) (h n h2 n2 : Int) (hn : 0 ≤ n) (hn2 : 0 ≤ n2) : 0 ≤ (joinF bs h n h2 n2).2.1.2 ∧ (joinF bs h n h2 n2).2.1.2 ≤ n + bs.length ∧ 0 ≤ (joinF bs h n h2 n2).2.2.1.2 ∧ (joinF bs h n h2 n2).2.2.1.2 ≤ n2 := by
  unfold joinF
  cases ha : allF bs h2 n2 with
  | none => simp only; omega
  | some ls =>
    have := (allF_len ha).2
    simp only
    cases ls.getLast? with
    | none => simp only; omega
    | some a => simp only; omega

theorem joinF_len (bs : List Int) (h n h2 n2 : Int) (h0 : 0 ≤ h2) (h1 : h2 < 18446744073709551616) (hb : ∀ b ∈ bs, 0 ≤ b ∧ b < 256) : (joinF bs h n h2 n2).1.length = bs.length := by
  unfold joinF
  cases ha : allF bs h2 n2 with
  | none => rfl
  | some ls =>
    simp only
    cases hgl : ls.getLast? with
    | none => rfl
    | some a =>
      obtain ⟨i, hi, rfl⟩ := List.getElem_of_mem (List.mem_of_getLast? hgl)
      exact stF_len _ _ _ (allF_last ha h0 h1 hb i hi).2.1

set_option maxHeartbeats 1000000 in
theorem spush_nil (m lb lo cap : Nat) (A : Option Addr) (W : World) : Calls Try.prog 29 #[.pointer (some ⟨lb, lo, none⟩), .pointer (some ⟨m, 0, none⟩), .slice A 0 cap] W fun e w' => e = .returned (.int .i64 0) ∧ W = w' := by
  go_enter Try.func29, Try.ntmps29
  go_wp2
  go_loop [18] (fun i => i = .int .i64 0) (fun _ => 0)
  case atStart => rfl
  case round =>
    obtain rfl := hrel
    go_wp2
    go_ret
    exact ⟨rfl, rfl⟩

set_option maxHeartbeats 1000000 in
theorem srpush_nil (m lb lo cap : Nat) (A : Option Addr) (W : World) : Calls Try.prog 59 #[.pointer (some ⟨lb, lo, none⟩), .pointer (some ⟨m, 0, none⟩), .slice A 0 cap] W fun e w' => e = .returned (.int .i64 0) ∧ W = w' := by
  go_enter Try.func59, Try.ntmps59
  go_wp2
  go_loop [12] (fun i => i = .int .i64 0) (fun _ => 0)
  case atStart => rfl
  case round =>
    obtain rfl := hrel
    go_wp2
    go_ret
    exact ⟨rfl, rfl⟩

section
variable {m g lb lo lo2 : Nat} {bs : List Int} {p q : Int × Int} {W : World}

theorem side_push (s : Side 149 W m g lb lo lo2 bs p q) (A : Option Addr) (cap : Nat) (xs : List Int) (hr : Reads W A (ints .u64 xs)) (hA : 0 < xs.length → ∀ b off, A = some ⟨b, off, none⟩ → b ≠ g ∧ b ≠ lb) (hb : ∀ a ∈ xs, 0 ≤ a ∧ a < 18446744073709551616) (hn0 : 0 ≤ p.2) (hn1 : p.2 + xs.length ≤ 1000000000) :
    Calls Try.prog 29 #[.pointer (some ⟨lb, lo, none⟩), .pointer (some ⟨m, 0, none⟩), .slice A xs.length cap] W fun e w' => e = .returned (.int .i64 (pushF bs p.1 p.2 xs).2.2.2) ∧ Side 149 w' m g lb lo lo2 (pushF bs p.1 p.2 xs).1 ((pushF bs p.1 p.2 xs).2.1, (pushF bs p.1 p.2 xs).2.2.1) q ∧ Fr (SF g lb) W w' := by
  by_cases hx : xs = []
  · subst hx
    refine (spush_nil m lb lo cap A W).mono ?_
    rintro e w' ⟨rfl, rfl⟩
    exact ⟨rfl, s, Fr.refl _ _⟩
  refine (push_any m g lb lo cap A xs bs p.1 p.2 W s.mem s.l1 s.nm s.ng hr (hA (List.length_pos_iff.2 hx)) hb hn0 (by omega)).mono ?_
  rintro e w' ⟨h1, h2, h3, h4⟩
  refine ⟨h1, ⟨h2, by rw [pushF_len _ _ _ _ (fun a ha => (hb a ha).1)]; exact s.len, h3, s.l2.fr h4 ?_ ?_, s.flat.fr h4, s.apart, s.nm, s.ng⟩, h4.mono (fun k o _ h => ?_)⟩
  · have := s.apart; have := s.ng; unfold LS; omega
  · have := s.apart; have := s.ng; unfold LS; omega
  · unfold LS at h; unfold SF; omega

theorem rside_push (s : Side 86 W m g lb lo lo2 bs p q) (A : Option Addr) (cap : Nat) (xs : List Int) (hr : Reads W A (ints .u64 xs)) (hA : 0 < xs.length → ∀ b off, A = some ⟨b, off, none⟩ → b ≠ g ∧ b ≠ lb) (hb : ∀ a ∈ xs, 0 ≤ a ∧ a < 18446744073709551616) (hn0 : 0 ≤ p.2) (hn1 : p.2 + xs.length ≤ 1000000000) :
    Calls Try.prog 59 #[.pointer (some ⟨lb, lo, none⟩), .pointer (some ⟨m, 0, none⟩), .slice A xs.length cap] W fun e w' => e = .returned (.int .i64 (pushF bs p.1 p.2 xs).2.2.2) ∧ Side 86 w' m g lb lo lo2 (pushF bs p.1 p.2 xs).1 ((pushF bs p.1 p.2 xs).2.1, (pushF bs p.1 p.2 xs).2.2.1) q ∧ Fr (SF g lb) W w' := by
  by_cases hx : xs = []
  · subst hx
    refine (srpush_nil m lb lo cap A W).mono ?_
    rintro e w' ⟨rfl, rfl⟩
    exact ⟨rfl, s, Fr.refl _ _⟩
  refine (rpush_any m g lb lo cap A xs bs p.1 p.2 W s.mem s.l1 s.nm s.ng hr (hA (List.length_pos_iff.2 hx)) hb hn0 (by omega)).mono ?_
  rintro e w' ⟨h1, h2, h3, h4⟩
  refine ⟨h1, ⟨h2, by rw [pushF_len _ _ _ _ (fun a ha => (hb a ha).1)]; exact s.len, h3, s.l2.fr h4 ?_ ?_, s.flat.fr h4, s.apart, s.nm, s.ng⟩, h4.mono (fun k o _ h => ?_)⟩
  · have := s.apart; have := s.ng; unfold LS; omega
  · have := s.apart; have := s.ng; unfold LS; omega
  · unfold LS at h; unfold SF; omega

theorem side_pop (s : Side 149 W m g lb lo lo2 bs p q) (hn0 : 0 ≤ p.2) (hn1 : p.2 ≤ 1000000000) :
    Calls Try.prog 33 #[.pointer (some ⟨lb, lo, none⟩), .pointer (some ⟨m, 0, none⟩)] W fun e w' => e = .returned (.tuple #[.int .u64 (popF bs p.1 p.2).2.2.1, .int .i64 (popF bs p.1 p.2).2.2.2]) ∧ Side 149 w' m g lb lo lo2 bs ((popF bs p.1 p.2).1, (popF bs p.1 p.2).2.1) q ∧ Fr (SF g lb) W w' := by
  refine (pop_any m g lb lo bs p.1 p.2 W s.mem s.l1 s.nm s.ng hn0 (by omega)).mono ?_
  rintro e w' ⟨h1, h2, h3, h4⟩
  refine ⟨h1, ⟨h2, s.len, h3, s.l2.fr h4 ?_ ?_, s.flat.fr h4, s.apart, s.nm, s.ng⟩, h4.mono (fun k o _ h => ?_)⟩
  · have := s.apart; unfold LL; omega
  · have := s.apart; unfold LL; omega
  · unfold LL at h; unfold SF; omega

theorem rside_pop (s : Side 86 W m g lb lo lo2 bs p q) (hn0 : 0 ≤ p.2) (hn1 : p.2 ≤ 1000000000) :
    Calls Try.prog 54 #[.pointer (some ⟨lb, lo, none⟩), .pointer (some ⟨m, 0, none⟩)] W fun e w' => e = .returned (.tuple #[.int .u64 (popF bs p.1 p.2).2.2.1, .int .i64 (popF bs p.1 p.2).2.2.2]) ∧ Side 86 w' m g lb lo lo2 bs ((popF bs p.1 p.2).1, (popF bs p.1 p.2).2.1) q ∧ Fr (SF g lb) W w' := by
  refine (rpop_any m g lb lo bs p.1 p.2 W s.mem s.l1 s.nm s.ng hn0 (by omega)).mono ?_
  rintro e w' ⟨h1, h2, h3, h4⟩
  refine ⟨h1, ⟨h2, s.len, h3, s.l2.fr h4 ?_ ?_, s.flat.fr h4, s.apart, s.nm, s.ng⟩, h4.mono (fun k o _ h => ?_)⟩
  · have := s.apart; unfold LL; omega
  · have := s.apart; unfold LL; omega
  · unfold LL at h; unfold SF; omega

theorem side_join (s : Side 149 W m g lb lo lo2 bs p q) (hn0 : 0 ≤ p.2) (hn1 : p.2 ≤ 1000000) :
    Calls Try.prog 34 #[.pointer (some ⟨lb, lo, none⟩), .pointer (some ⟨m, 0, none⟩), .pointer (some ⟨lb, lo2, none⟩)] W fun e w' => e = .returned (.int .i64 (joinF bs p.1 p.2 q.1 q.2).2.2.2) ∧ Side 149 w' m g lb lo lo2 (joinF bs p.1 p.2 q.1 q.2).1 (joinF bs p.1 p.2 q.1 q.2).2.1 (joinF bs p.1 p.2 q.1 q.2).2.2.1 ∧ Fr (SF g lb) W w' := by
  refine (join2_any m g lb lo lo2 bs p.1 p.2 q.1 q.2 W s.mem s.l1 s.l2 s.nm s.ng s.apart s.flat (by rw [s.len]; decide) hn0 (by omega)).mono ?_
  rintro e w' ⟨h1, h2, h3, h4, h5⟩
  refine ⟨h1, ⟨h2, by rw [joinF_len _ _ _ _ _ s.l2.h0 s.l2.h1 s.mem.byt]; exact s.len, h3, h4, s.flat.fr h5, s.apart, s.nm, s.ng⟩, h5.mono (fun k o _ h => ?_)⟩
  unfold JS at h; unfold SF; omega

theorem rside_join (s : Side 86 W m g lb lo lo2 bs p q) (hn0 : 0 ≤ p.2) (hn1 : p.2 ≤ 1000000) (hm0 : 0 ≤ q.2) (hm1 : q.2 ≤ 1000000) :
    Calls Try.prog 56 #[.pointer (some ⟨lb, lo, none⟩), .pointer (some ⟨m, 0, none⟩), .pointer (some ⟨lb, lo2, none⟩)] W fun e w' => e = .returned (.int .i64 (joinF bs p.1 p.2 q.1 q.2).2.2.2) ∧ Side 86 w' m g lb lo lo2 (joinF bs p.1 p.2 q.1 q.2).1 (joinF bs p.1 p.2 q.1 q.2).2.1 (joinF bs p.1 p.2 q.1 q.2).2.2.1 ∧ Fr (SF g lb) W w' := by
  refine (rjoin2_any m g lb lo lo2 bs p.1 p.2 q.1 q.2 W s.mem s.l1 s.l2 s.nm s.ng s.apart (by rw [s.len]; decide) hm0 (by omega) hn0 (by omega)).mono ?_
  rintro e w' ⟨h1, h2, h3, h4, h5⟩
  refine ⟨h1, ⟨h2, by rw [joinF_len _ _ _ _ _ s.l2.h0 s.l2.h1 s.mem.byt]; exact s.len, h3, h4, s.flat.fr h5, s.apart, s.nm, s.ng⟩, h5.mono (fun k o _ h => ?_)⟩
  unfold JS at h; unfold SF; omega

theorem side_store (s : Side 149 W m g lb lo lo2 bs p q) (a x : Int) (h0 : 0 ≤ a) (hx0 : 0 ≤ x) (hx1 : x < 18446744073709551616) :
    Calls Try.prog 32 #[.pointer (some ⟨m, 0, none⟩), .int .u64 a, .int .i64 8, .int .u64 x] W fun e w' => e = .returned (.int .i64 (ldE bs a)) ∧ Side 149 w' m g lb lo lo2 (stF bs a x) p q ∧ Fr (SF g lb) W w' := by
  refine (store_any m g bs a x W s.mem h0 hx0 hx1).mono ?_
  rintro e w' ⟨h1, h2, h3⟩
  exact ⟨h1, ⟨h2, by rw [stF_len _ _ _ h0]; exact s.len, s.l1.fr h3 s.ng s.ng, s.l2.fr h3 s.ng s.ng, s.flat.fr h3, s.apart, s.nm, s.ng⟩, h3.mono (fun k o _ h => .inl h)⟩

theorem rside_store (s : Side 86 W m g lb lo lo2 bs p q) (a x : Int) (h0 : 0 ≤ a) (h1 : a < 18446744073709551616) (hx0 : 0 ≤ x) (hx1 : x < 18446744073709551616) :
    Calls Try.prog 57 #[.pointer (some ⟨m, 0, none⟩), .int .u64 a, .int .i64 8, .int .u64 x] W fun e w' => e = .returned (.int .i64 (ldE bs a)) ∧ Side 86 w' m g lb lo lo2 (stF bs a x) p q ∧ Fr (SF g lb) W w' := by
  refine (rstore_any m g bs a x W s.mem h0 h1 hx0 hx1).mono ?_
  rintro e w' ⟨h1, h2, h3⟩
  exact ⟨h1, ⟨h2, by rw [stF_len _ _ _ h0]; exact s.len, s.l1.fr h3 s.ng s.ng, s.l2.fr h3 s.ng s.ng, s.flat.fr h3, s.apart, s.nm, s.ng⟩, h3.mono (fun k o _ h => .inl h)⟩
end

end Go.Proofs.Ythginpedlfocpaa
