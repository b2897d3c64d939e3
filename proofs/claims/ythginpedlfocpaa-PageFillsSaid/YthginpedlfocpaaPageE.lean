/- Pages: contracts in short; law09's alive, made, in. -/
import Derived.Test.YthginpedlfocpaaPageD
namespace Go.Proofs.Ythginpedlfocpaa
open Go.RowKit Go.Alo Go.Shelf
attribute [local go_sem] max_ints min_ints
attribute [local go_sem ↓] Go.wp_at_zero Go.wp_at_succ

/-- A page, whatever its memory holds. -/
def Pg (W : World) (pb m g : Nat) (f s n made used : Int) (fs ls : List Int) : Prop := ∃ bs hf hl, IsPage W pb m g f s n made used bs hf hl fs ls

section
variable {W W' : World} {pb m g : Nat} {f s n made used : Int} {fs ls : List Int}

theorem Pg.fr {S : Nat → Nat → Prop} (p : Pg W pb m g f s n made used fs ls) (h : Fr S W W') (hp : ∀ o, ¬ S pb o) (hm : ∀ o, ¬ S m o) (hg : ∀ o, ¬ S g o) : Pg W' pb m g f s n made used fs ls := by
  obtain ⟨bs, hf, hl, p⟩ := p
  exact ⟨bs, hf, hl, p.fr h hp hm hg⟩
theorem Pg.quiet (p : Pg W pb m g f s n made used fs ls) (h : Fr nil2 W W') : Pg W' pb m g f s n made used fs ls := p.fr h (fun _ h => h) (fun _ h => h) (fun _ h => h)
theorem Pg.lts (p : Pg W pb m g f s n made used fs ls) : pb < W.heap.size ∧ m < W.heap.size ∧ g < W.heap.size := by
  obtain ⟨bs, hf, hl, p⟩ := p
  exact ⟨p.row.lt, p.mem.obj.lt, p.mem.bytes.lt⟩
theorem Pg.nums (p : Pg W pb m g f s n made used fs ls) : RunOK f s n ∧ 16 ≤ s ∧ 1 ≤ f ∧ 0 ≤ made ∧ made ≤ n ∧ 0 ≤ used ∧ used + fs.length + ls.length = made ∧ (∀ a ∈ fs ++ ls, ∃ i : Int, 0 ≤ i ∧ i < made ∧ a = f + i * s) ∧ (fs ++ ls).Nodup := by
  obtain ⟨bs, hf, hl, p⟩ := p
  exact ⟨p.run, p.s16, p.f1, p.made0, p.made1, p.used0, p.sum, p.blk, p.nodup⟩

theorem pg_free {a : Int} (p : Pg W pb m g f s n made used (a :: fs) ls) : Calls Try.prog 65 #[.pointer (some ⟨pb, 0, none⟩)] W fun e w' => e = .returned (.tuple #[.int .u64 a, .int .i64 0]) ∧ Pg w' pb m g f s n made (used + 1) fs ls ∧ Fr (PF g pb) W w' := by
  obtain ⟨bs, hf, hl, p⟩ := p
  exact alloc_free pb m g f s n made used hf hl a bs fs ls W p
theorem pg_local {a : Int} (p : Pg W pb m g f s n made used [] (a :: ls)) : Calls Try.prog 65 #[.pointer (some ⟨pb, 0, none⟩)] W fun e w' => e = .returned (.tuple #[.int .u64 a, .int .i64 0]) ∧ Pg w' pb m g f s n made (used + 1) ls [] ∧ Fr (PF g pb) W w' := by
  obtain ⟨bs, hf, hl, p⟩ := p
  exact alloc_local pb m g f s n made used hf hl a bs ls W p
theorem pg_more (p : Pg W pb m g f s n made used [] []) (hlt : made < n) : Calls Try.prog 65 #[.pointer (some ⟨pb, 0, none⟩)] W fun e w' => e = .returned (.tuple #[.int .u64 (f + made * s), .int .i64 0]) ∧ (∃ k : Nat, (k : Int) + 1 = mn 4 (n - made) ∧ Pg w' pb m g f s n (made + ((k : Int) + 1)) (used + 1) (runL f s (made + 1) k) []) ∧ Fr (PF g pb) W w' := by
  obtain ⟨bs, hf, hl, p⟩ := p
  refine (alloc_more pb m g f s n made used hf hl bs W p hlt).mono ?_
  rintro e w' ⟨h1, ⟨k, b, x, y, h2, h3⟩, h4⟩
  exact ⟨h1, ⟨k, h2, b, x, y, h3⟩, h4⟩
theorem pg_full (p : Pg W pb m g f s n n used [] []) : Calls Try.prog 65 #[.pointer (some ⟨pb, 0, none⟩)] W fun e w' => e = .returned (.tuple #[.int .u64 0, .int .i64 4]) ∧ Pg w' pb m g f s n n used [] [] ∧ Fr (PF g pb) W w' := by
  obtain ⟨bs, hf, hl, p⟩ := p
  exact alloc_full pb m g f s n used hf hl bs W p
theorem pg_give {A : Option Addr} {cap : Nat} {xs : List Int} (p : Pg W pb m g f s n made used fs ls) (hr : Reads W A (ints .u64 xs)) (hA : ∀ b off, A = some ⟨b, off, none⟩ → b ≠ g ∧ b ≠ pb) (hx : MayFree f s made used (fs ++ ls) xs) :
    Calls Try.prog 66 #[.pointer (some ⟨pb, 0, none⟩), .slice A xs.length cap] W fun e w' => e = .returned (.int .i64 0) ∧ Pg w' pb m g f s n made (used - xs.length) fs (xs.reverse ++ ls) ∧ Fr (PF g pb) W w' := by
  obtain ⟨bs, hf, hl, p⟩ := p
  refine (free_any pb m g cap A f s n made used hf hl bs fs ls xs W p hr hA hx).mono ?_
  rintro e w' ⟨h1, ⟨b, y, h2⟩, h3⟩
  exact ⟨h1, ⟨b, hf, y, h2⟩, h3⟩
theorem pg_used (p : Pg W pb m g f s n made used fs ls) : Calls Try.prog 68 #[.pointer (some ⟨pb, 0, none⟩)] W fun e w' => e = .returned (.int .i64 used) ∧ W = w' := by
  obtain ⟨bs, hf, hl, p⟩ := p
  exact used_any pb m g f s n made used hf hl bs fs ls W p
theorem pg_made (p : Pg W pb m g f s n made used fs ls) : Calls Try.prog 69 #[.pointer (some ⟨pb, 0, none⟩)] W fun e w' => e = .returned (.int .i64 made) ∧ W = w' := by
  obtain ⟨bs, hf, hl, p⟩ := p
  exact made_any pb m g f s n made used hf hl bs fs ls W p

/-- The first k blocks are used, and no other; none was given back. -/
def PgN (W : World) (pb m g : Nat) (f s n : Int) (k : Nat) : Prop := ∃ d : Nat, Pg W pb m g f s n ((k : Int) + d) k (runL f s k d) []

theorem PgN.quiet {k : Nat} (p : PgN W pb m g f s n k) (h : Fr nil2 W W') : PgN W' pb m g f s n k := by
  obtain ⟨d, p⟩ := p
  exact ⟨d, p.quiet h⟩
theorem PgN.lts {k : Nat} (p : PgN W pb m g f s n k) : pb < W.heap.size ∧ m < W.heap.size ∧ g < W.heap.size := by
  obtain ⟨d, p⟩ := p
  exact p.lts

theorem pgn_next {k : Nat} (p : PgN W pb m g f s n k) (hlt : (k : Int) < n) : Calls Try.prog 65 #[.pointer (some ⟨pb, 0, none⟩)] W fun e w' => e = .returned (.tuple #[.int .u64 (f + (k : Int) * s), .int .i64 0]) ∧ PgN w' pb m g f s n (k + 1) ∧ Fr (PF g pb) W w' := by
  obtain ⟨d, p⟩ := p
  cases d with
  | zero =>
    rw [runL, show (k : Int) + ((0 : Nat) : Int) = k from by omega] at p
    refine (pg_more p hlt).mono ?_
    rintro e w' ⟨h1, ⟨j, h2, h3⟩, h4⟩
    refine ⟨h1, ⟨j, ?_⟩, h4⟩
    rw [show (((k + 1 : Nat) : Int) + (j : Int)) = (k : Int) + ((j : Int) + 1) from by omega, show ((k + 1 : Nat) : Int) = (k : Int) + 1 from by omega]
    exact h3
  | succ d =>
    rw [runL] at p
    refine (pg_free p).mono ?_
    rintro e w' ⟨h1, h2, h3⟩
    refine ⟨h1, ⟨d, ?_⟩, h3⟩
    rw [show (((k + 1 : Nat) : Int) + (d : Int)) = (k : Int) + ((d + 1 : Nat) : Int) from by omega, show ((k + 1 : Nat) : Int) = (k : Int) + 1 from by omega]
    exact h2

/-- All are used: none is left. -/
theorem PgN.all {k : Nat} (p : PgN W pb m g f s n k) (h : (k : Int) = n) : Pg W pb m g f s n n n [] [] := by
  obtain ⟨d, p⟩ := p
  have h1 := p.nums.2.2.2.2.1
  have : d = 0 := by omega
  subst this
  rw [runL, h] at p
  rwa [show n + ((0 : Nat) : Int) = n from by omega] at p
end

set_option maxHeartbeats 400000 in
theorem alloc_nil (w : World) : Calls Try.prog 65 #[.pointer none] w fun e w' => e = .returned (.tuple #[.int .u64 0, .int .i64 1]) ∧ w = w' := by
  go_enter Try.func65, Try.ntmps65
  go_wp2
  go_ret2
  exact ⟨rfl, rfl⟩

set_option maxHeartbeats 1000000 in
theorem lin_any (A : Option Addr) (l : List Int) (cap : Nat) (x : Int) (w : World) (hr : Reads w A (ints .u64 l)) (hl : l.length ≤ 9223372036854775807) (hx : x ∈ l) :
    Calls Try.prog 70 #[.slice A l.length cap, .int .u64 x] w fun e w' => e = .returned (.bool true) ∧ w = w' := by
  have HR := Lib.hid hr
  have HX := Lib.hid hx
  clear hr hx
  go_enter Try.func70, Try.ntmps70
  go_wp2
  go_loop [9] (fun i => ∃ k : Nat, k ≤ l.length ∧ i = .int .i64 k ∧ Hid (x ∈ l.drop k)) (fun i => l.length - (intOf i).toNat)
  case atStart => exact ⟨0, Nat.zero_le _, rfl, by rw [List.drop_zero]; exact HX⟩
  case round =>
    obtain ⟨k, hk, rfl, HK⟩ := hrel
    by_cases hlt : k < l.length
    · obtain ⟨b, o, hA, hc⟩ := HR.out.get k (by simpa using hlt)
      rw [ints_get] at hc
      have hd := HK.out
      rw [List.drop_eq_getElem_cons hlt] at hd
      obtain ⟨y, hy⟩ : ∃ y, l[k] = y := ⟨_, rfl⟩
      rw [hy] at hc hd
      subst hA
      clear hy
      by_cases he : x = y
      · have he' : (x == y) = true := by simp [he]
        clear he hd
        go_wp2
        go_ret
        exact ⟨rfl, rfl⟩
      · have he' : (x == y) = false := by simp [he]
        have HD := Lib.hid (List.mem_of_ne_of_mem he hd)
        clear he hd
        go_wp2
        go_round
        case rel => exact ⟨k + 1, by omega, by go_num, HD⟩
        case measure => simp [intOf]; omega
    · have hd := HK.out
      rw [List.drop_of_length_le (by omega)] at hd
      simp at hd

set_option maxRecDepth 100000 in
set_option maxHeartbeats 4000000 in
theorem alive09 (w : World) : Calls Try.prog 63 #[] w fun e w' => e = .returned (.bool true) ∧ Fr nil2 w w' := by
  go_enter Try.func63, Try.ntmps63
  go_wp2_with fail
  refine (new_any 4096 w (by decide) (by decide) (by decide)).mono ?_
  rintro e w1 ⟨rfl, rfl⟩
  have HM := Lib.hid (newMem_is 149 4096 w (by decide))
  have HF := Lib.hid (newMem_fr 149 4096 w nil2)
  obtain ⟨W1, hW1⟩ : ∃ W, newMem 149 4096 w = W := ⟨_, rfl⟩
  rw [hW1] at HM HF ⊢
  clear hW1
  go_wp2_with fail
  refine (pnew_any _ _ 1024 256 4 _ W1 HM.out ⟨by decide, by decide, by decide, by decide, by decide, by decide, by decide⟩ (by decide) (by decide) (by decide) (by rw [List.length_replicate]; decide)).mono ?_
  rintro e w2 ⟨pb, rfl, hpb, hp2, hf2⟩
  have HP2 : Hid (Pg w2 pb (w.heap.size + 1) w.heap.size 1024 256 4 0 0 [] []) := Lib.hid ⟨_, _, _, hp2⟩
  have HF2 := Lib.hid (HF.out.trans' hf2)
  have HB : Hid (w.heap.size ≤ w.heap.size ∧ w.heap.size ≤ pb) := Lib.hid ⟨Nat.le_refl _, Nat.le_trans HF.out.size hpb⟩
  clear hp2 hf2 HF HM hpb
  go_wp2_with fail
  refine (pg_more HP2.out (by decide)).mono ?_
  rintro e w3 ⟨rfl, ⟨k, hk, hp3⟩, hf3⟩
  obtain rfl : k = 3 := by rw [mn_eq] at hk; omega
  have HP3 : Hid (Pg w3 pb (w.heap.size + 1) w.heap.size 1024 256 4 4 1 [1280, 1536, 1792] []) := Lib.hid hp3
  have HF3 := Lib.hid (HF2.out.step hf3 (fun i o hi h => by have := HB.out; unfold PF at h; omega))
  clear hp3 hf3 hk
  go_wp2_with fail
  refine (pg_free HP3.out).mono ?_
  rintro e w4 ⟨rfl, hp4, hf4⟩
  have HP4 : Hid (Pg w4 pb (w.heap.size + 1) w.heap.size 1024 256 4 4 2 [1536, 1792] []) := Lib.hid hp4
  have HF4 := Lib.hid (HF3.out.step hf4 (fun i o hi h => by have := HB.out; unfold PF at h; omega))
  clear hp4 hf4
  go_wp2_with fail
  have HFn5 := Lib.hid ((HF4.out).alloc (.cells #[.int .u64 1024] 22))
  have hfq5 := (Fr.refl nil2 w4).alloc (.cells #[.int .u64 1024] 22)
  have HP5 := Lib.hid (HP4.out.quiet hfq5)
  have HR5 := Lib.hid (cells_one w4 22 (.int .u64 1024))
  have HL5 := Lib.hid (HP4.out.lts)
  clear hfq5
  refine (pg_give (xs := [1024]) HP5.out HR5.out (by intro b off e; injection e with e; injection e with e1 e2; have := HL5.out; omega) ⟨by intro a ha; simp at ha; subst ha; exact ⟨0, by decide, by decide, by decide⟩, by decide, by decide⟩).mono ?_
  rintro e w5 ⟨rfl, hp5, hf5⟩
  have HP6 : Hid (Pg w5 pb (w.heap.size + 1) w.heap.size 1024 256 4 4 1 [1536, 1792] [1024]) := Lib.hid hp5
  have HF6 := Lib.hid (HFn5.out.step hf5 (fun i o hi h => by have := HB.out; unfold PF at h; omega))
  clear hp5 hf5 HP5 HR5 HL5 HFn5
  go_wp2_with fail
  refine (pg_free HP6.out).mono ?_
  rintro e w6 ⟨rfl, hp6, hf6⟩
  have HP7 : Hid (Pg w6 pb (w.heap.size + 1) w.heap.size 1024 256 4 4 2 [1792] [1024]) := Lib.hid hp6
  have HF7 := Lib.hid (HF6.out.step hf6 (fun i o hi h => by have := HB.out; unfold PF at h; omega))
  clear hp6 hf6
  go_wp2_with fail
  refine (pg_free HP7.out).mono ?_
  rintro e w7 ⟨rfl, hp7, hf7⟩
  have HP8 : Hid (Pg w7 pb (w.heap.size + 1) w.heap.size 1024 256 4 4 3 [] [1024]) := Lib.hid hp7
  have HF8 := Lib.hid (HF7.out.step hf7 (fun i o hi h => by have := HB.out; unfold PF at h; omega))
  clear hp7 hf7
  go_wp2_with fail
  refine (pg_local HP8.out).mono ?_
  rintro e w8 ⟨rfl, hp8, hf8⟩
  have HP9 : Hid (Pg w8 pb (w.heap.size + 1) w.heap.size 1024 256 4 4 4 [] []) := Lib.hid hp8
  have HF9 := Lib.hid (HF8.out.step hf8 (fun i o hi h => by have := HB.out; unfold PF at h; omega))
  clear hp8 hf8
  go_wp2_with fail
  refine (alloc_nil _).mono ?_
  rintro e w9 ⟨rfl, rfl⟩
  go_wp2_with fail
  refine (pg_used HP9.out).mono ?_
  rintro e w9 ⟨rfl, rfl⟩
  go_wp2
  go_ret
  exact ⟨rfl, HF9.out⟩

end Go.Proofs.Ythginpedlfocpaa
