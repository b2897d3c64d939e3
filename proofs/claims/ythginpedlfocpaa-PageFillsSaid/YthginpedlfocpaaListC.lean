/- Contracts of lists: push, pop. -/
import Derived.Test.YthginpedlfocpaaListB
namespace Go.Proofs.Ythginpedlfocpaa
open Go.RowKit Go.Alo Go.Shelf
attribute [local go_sem] max_ints min_ints

/-- A list: where the first block is, and how many there are. -/
structure IsList (w : World) (lb lo : Nat) (h n : Int) : Prop where
  head : Cel w lb lo (.int .u64 h)
  num : Cel w lb (lo + 1) (.int .i64 n)
  h0 : 0 ≤ h
  h1 : h < 18446744073709551616

theorem IsList.fr {S : Nat → Nat → Prop} {w w' : World} {lb lo : Nat} {h n : Int} (l : IsList w lb lo h n) (f : Fr S w w') (h1 : ¬ S lb lo) (h2 : ¬ S lb (lo + 1)) : IsList w' lb lo h n :=
  ⟨l.head.fr f h1, l.num.fr f h2, l.h0, l.h1⟩

/-- A list is written: its two cells. -/
theorem IsList.turn {w : World} {lb lo : Nat} {h n : Int} (l : IsList w lb lo h n) (h' n' : Int) (h0 : 0 ≤ h') (h1 : h' < 18446744073709551616) :
    IsList ((w.setCell ⟨lb, lo, none⟩ (.int .u64 h')).setCell ⟨lb, lo + 1, none⟩ (.int .i64 n')) lb lo h' n' :=
  ⟨(l.head.set _).other _ (by omega), (l.num.other _ (by omega)).set _, h0, h1⟩

/-- Blocks are put ahead, one by one. -/
def pushF (bs : List Int) (h n : Int) : List Int → List Int × Int × Int × Int
  | [] => (bs, h, n, 0)
  | a :: l => if a = 0 then (bs, h, n, 2) else if ldE bs a = 0 then pushF (stF bs a h) a (n + 1) l else (bs, h, n, 3)

theorem pushF_drop (bs : List Int) (h n : Int) (l : List Int) (i : Nat) (hi : i < l.length) :
    pushF bs h n (l.drop i) = if l[i] = 0 then (bs, h, n, 2) else if ldE bs l[i] = 0 then pushF (stF bs l[i] h) l[i] (n + 1) (l.drop (i + 1)) else (bs, h, n, 3) := by
  rw [List.drop_eq_getElem_cons hi, pushF]

/-- The cells that a list's own calls may write. -/
def LS (g lb lo : Nat) (k o : Nat) : Prop := k = g ∨ (k = lb ∧ (o = lo ∨ o = lo + 1))

def PushPost (m g lb lo : Nat) (r : List Int × Int × Int × Int) (w : World) (e : Ending) (w' : World) : Prop :=
  e = .returned (.int .i64 r.2.2.2) ∧ IsMem 149 w' m g r.1 ∧ IsList w' lb lo r.2.1 r.2.2.1 ∧ Fr (LS g lb lo) w w'

theorem ldE_or (bs : List Int) (a : Int) : ldE bs a = 0 ∨ ldE bs a = 3 := by unfold ldE; split <;> simp

set_option maxRecDepth 100000 in
set_option maxHeartbeats 2000000 in
theorem push_any (m g lb lo cap : Nat) (A : Option Addr) (xs : List Int) (bs : List Int) (h n : Int) (w : World) (hm : IsMem 149 w m g bs) (hl : IsList w lb lo h n) (hlm : lb ≠ m) (hlg : lb ≠ g)
    (hr : Reads w A (ints .u64 xs)) (hA : ∀ b off, A = some ⟨b, off, none⟩ → b ≠ g ∧ b ≠ lb) (hb : ∀ a ∈ xs, 0 ≤ a ∧ a < 18446744073709551616) (hn0 : 0 ≤ n) (hn1 : n + xs.length ≤ 9223372036854775807) :
    Calls Try.prog 29 #[.pointer (some ⟨lb, lo, none⟩), .pointer (some ⟨m, 0, none⟩), .slice A xs.length cap] w (PushPost m g lb lo (pushF bs h n xs) w) := by
  have HM := Lib.hid hm
  have HL := Lib.hid hl
  have HR := Lib.hid hr
  have HA := Lib.hid hA
  have HB := Lib.hid hb
  have hlen : (xs.length : Int) ≤ 9223372036854775807 := by omega
  clear hm hl hr hA hb
  go_enter Try.func29, Try.ntmps29
  go_wp2
  go_loopw [18] (fun i wr => ∃ (k : Nat) (bk : List Int) (hk nk : Int), k ≤ xs.length ∧ i = .int .i64 k ∧ nk = n + k ∧ Hid (IsMem 149 wr m g bk) ∧ Hid (IsList wr lb lo hk nk) ∧ Hid (Fr (LS g lb lo) w wr) ∧ Hid (pushF bk hk nk (xs.drop k) = pushF bs h n xs)) (fun i _ => xs.length - (intOf i).toNat)
  case atStart => exact ⟨0, bs, h, n, Nat.zero_le _, rfl, by simp, HM, HL, Fr.refl _ _, rfl⟩
  case round =>
    obtain ⟨k, bk, hk, nk, hkl, rfl, rfl, HMk, HLk, HF, HP⟩ := hrel
    by_cases hlt : k < xs.length
    · have hrk : Reads wr A (ints .u64 xs) := HR.out.fr HF.out (fun b off o e _ _ hs => by
        have := HA.out b off e
        unfold LS at hs
        omega)
      obtain ⟨b, off, hAb, hc⟩ := hrk.get k (by simpa using hlt)
      rw [ints_get] at hc
      have hbd := HB.out _ (List.getElem_mem hlt)
      have hstep := pushF_drop bk hk (n + k) xs k hlt
      obtain ⟨a, ha⟩ : ∃ a, xs[k] = a := ⟨_, rfl⟩
      rw [ha] at hc hbd hstep
      obtain ⟨ha0, ha1⟩ := hbd
      subst hAb
      have HS := Lib.hid hstep
      obtain ⟨c1, f1⟩ := HLk.out.head
      obtain ⟨c2, f2⟩ := HLk.out.num
      clear hstep hrk ha
      by_cases hz : a = 0
      · have hz' : (a == 0) = true := by simp [hz]
        have HZ := Lib.hid hz
        clear hz
        go_wp2
        go_ret
        have hres : pushF bs h n xs = (bk, hk, n + k, 2) := by rw [← HP.out, HS.out, if_pos HZ.out]
        rw [hres]
        exact ⟨rfl, HMk.out, HLk.out, HF.out⟩
      · have hz' : (a == 0) = false := by simp [hz]
        have HZ := Lib.hid hz
        clear hz
        go_wp2_with fail
        refine (store_any m g bk a hk _ HMk.out ha0 HLk.out.h0 HLk.out.h1).mono ?_
        rintro e w2 ⟨rfl, hm2, hf2⟩
        have HM2 := Lib.hid hm2
        have HF2 := Lib.hid hf2
        have HL2 := Lib.hid (HLk.out.fr hf2 hlg hlg)
        have c1' := HL2.out.head
        have c2' := HL2.out.num
        obtain ⟨c1', f1'⟩ := c1'
        obtain ⟨c2', f2'⟩ := c2'
        clear hm2 hf2
        rcases ldE_or bk a with he | he
        · have he' : (ldE bk a != 0) = false := by simp [he]
          have HE := Lib.hid he
          clear he
          go_wp2
          go_roundw
          case rel =>
            have hfr : Fr (LS g lb lo) w2 ((w2.setCell ⟨lb, lo, none⟩ (.int .u64 a)).setCell ⟨lb, lo + 1, none⟩ (.int .i64 (n + k + 1))) :=
              ((Fr.refl _ _).setCell lb lo (fun _ => .inr ⟨rfl, .inl rfl⟩) _).setCell lb (lo + 1) (fun _ => .inr ⟨rfl, .inr rfl⟩) _
            have hfr' : Fr (fun k o => k = lb) w2 ((w2.setCell ⟨lb, lo, none⟩ (.int .u64 a)).setCell ⟨lb, lo + 1, none⟩ (.int .i64 (n + k + 1))) :=
              ((Fr.refl _ _).setCell lb lo (fun _ => rfl) _).setCell lb (lo + 1) (fun _ => rfl) _
            refine ⟨k + 1, _, a, n + k + 1, by omega, by go_num, by omega, Lib.hid (HM2.out.fr hfr' (fun _ e => hlm e.symm) (fun _ e => hlg e.symm)), Lib.hid (HL2.out.turn a (n + k + 1) ha0 ha1), Lib.hid ?_, Lib.hid ?_⟩
            · exact (HF.out.step HF2.out (fun i o _ e => .inl e)).step hfr (fun _ _ _ h => h)
            · rw [← HP.out, HS.out, if_neg HZ.out, if_pos HE.out]
          case measure => simp [intOf]; omega
        · have he' : (ldE bk a != 0) = true := by simp [he]
          have HE := Lib.hid he
          clear he
          go_wp2
          go_ret
          have hst : stF bk a hk = bk := by
            have := HE.out
            unfold ldE at this
            unfold stF
            split at this
            · omega
            · rename_i hn; rw [if_neg hn]
          have hres : pushF bs h n xs = (bk, hk, n + k, 3) := by rw [← HP.out, HS.out, if_neg HZ.out, if_neg (by rw [HE.out]; decide)]
          rw [hres]
          refine ⟨?_, by have := HM2.out; rwa [hst] at this, HL2.out, HF.out.step HF2.out (fun i o _ e => .inl e)⟩
          rw [← HE.out]; rfl
    · have hk' : k = xs.length := by omega
      have HK := Lib.hid hk'
      clear hk'
      go_wp2
      go_ret
      have hres : pushF bs h n xs = (bk, hk, n + k, 0) := by rw [← HP.out, HK.out, List.drop_length]; rfl
      rw [hres]
      exact ⟨rfl, HMk.out, HLk.out, HF.out⟩

/-- The cells of a list alone. -/
def LL (lb lo : Nat) (k o : Nat) : Prop := k = lb ∧ (o = lo ∨ o = lo + 1)

/-- The first one is taken out. -/
def popF (bs : List Int) (h n : Int) : Int × Int × Int × Int :=
  if n = 0 then (h, n, 0, 5) else if ldE bs h = 0 then (ldF bs h, n - 1, h, 0) else (h, n, 0, 3)

def PopPost (m g lb lo : Nat) (bs : List Int) (r : Int × Int × Int × Int) (w : World) (e : Ending) (w' : World) : Prop :=
  e = .returned (.tuple #[.int .u64 r.2.2.1, .int .i64 r.2.2.2]) ∧ IsMem 149 w' m g bs ∧ IsList w' lb lo r.1 r.2.1 ∧ Fr (LL lb lo) w w'

set_option maxRecDepth 100000 in
set_option maxHeartbeats 1000000 in
theorem pop_any (m g lb lo : Nat) (bs : List Int) (h n : Int) (w : World) (hm : IsMem 149 w m g bs) (hl : IsList w lb lo h n) (hlm : lb ≠ m) (hlg : lb ≠ g) (hn0 : 0 ≤ n) (hn1 : n ≤ 9223372036854775807) :
    Calls Try.prog 33 #[.pointer (some ⟨lb, lo, none⟩), .pointer (some ⟨m, 0, none⟩)] w (PopPost m g lb lo bs (popF bs h n) w) := by
  have HM := Lib.hid hm
  have HL := Lib.hid hl
  obtain ⟨c1, f1⟩ := hl.head
  obtain ⟨c2, f2⟩ := hl.num
  clear hm hl
  by_cases hz : n = 0
  · have hz' : (n == 0) = true := by simp [hz]
    have hres : popF bs h n = (h, n, 0, 5) := by unfold popF; rw [if_pos hz]
    rw [hres]
    clear hz hres
    go_enter Try.func33, Try.ntmps33
    go_wp2
    go_ret2
    exact ⟨rfl, HM.out, HL.out, Fr.refl _ _⟩
  · have hz' : (n == 0) = false := by simp [hz]
    have HZ := Lib.hid hz
    have hh0 := HL.out.h0
    have hh1 := HL.out.h1
    clear hz
    go_enter Try.func33, Try.ntmps33
    go_wp2_with fail
    refine (load_any m g bs h _ HM.out hh0 hh1).mono ?_
    rintro e w2 ⟨rfl, hf2⟩
    have HF2 := Lib.hid hf2
    have HL2 := Lib.hid (HL.out.fr hf2 (fun h => h) (fun h => h))
    obtain ⟨c1', f1'⟩ := HL2.out.head
    obtain ⟨c2', f2'⟩ := HL2.out.num
    clear hf2
    have hnm : -9223372036854775808 ≤ n - 1 := by omega
    have hnm2 : n - 1 ≤ 9223372036854775807 := by omega
    rcases ldE_or bs h with he | he
    · have he' : (ldE bs h != 0) = false := by simp [he]
      have HE := Lib.hid he
      clear he
      go_wp2
      go_ret2
      have hres : popF bs h n = (ldF bs h, n - 1, h, 0) := by unfold popF; rw [if_neg HZ.out, if_pos HE.out]
      rw [hres]
      have hfr' : Fr (LL lb lo) w2 ((w2.setCell ⟨lb, lo, none⟩ (.int .u64 (ldF bs h))).setCell ⟨lb, lo + 1, none⟩ (.int .i64 (n - 1))) :=
        ((Fr.refl _ _).setCell lb lo (fun _ => ⟨rfl, .inl rfl⟩) _).setCell lb (lo + 1) (fun _ => ⟨rfl, .inr rfl⟩) _
      obtain ⟨b0, b1⟩ := ldF_bd bs h hh0 HM.out.byt
      exact ⟨rfl, (HM.out.fr HF2.out (fun _ h => h) (fun _ h => h)).fr hfr' (fun _ e => hlm e.1.symm) (fun _ e => hlg e.1.symm), HL2.out.turn _ _ b0 b1, (HF2.out.mono (fun _ _ _ h => h.elim)).trans hfr'⟩
    · have he' : (ldE bs h != 0) = true := by simp [he]
      have HE := Lib.hid he
      clear he
      go_wp2
      go_ret2
      have hres : popF bs h n = (h, n, 0, 3) := by unfold popF; rw [if_neg HZ.out, if_neg (by rw [HE.out]; decide)]
      rw [hres]
      refine ⟨?_, HM.out.fr HF2.out (fun _ h => h) (fun _ h => h), HL2.out, HF2.out.mono (fun _ _ _ h => h.elim)⟩
      rw [← HE.out]; rfl

end Go.Proofs.Ythginpedlfocpaa
