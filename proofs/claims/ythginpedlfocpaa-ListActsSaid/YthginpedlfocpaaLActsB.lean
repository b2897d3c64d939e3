/- ListActs: the acts as they come in; the walk's first steps. -/
import Derived.Test.YthginpedlfocpaaSides
import Derived.Test.YthginpedlfocpaaListF
import Derived.Test.YthginpedlfocpaaRsame
import Derived.Deep.DrawnRows
import Derived.Deep.RegionHeld3
import Derived.Deep.CutRange
namespace Go.Proofs.Ythginpedlfocpaa
open Go.RowKit Go.Alo Go.Shelf
attribute [local go_sem] max_ints min_ints
attribute [local go_sem ↓] Go.wp_at_zero Go.wp_at_succ

/-- An act: its kind, which list, how many, addresses, a word. -/
structure LAct where
  kind : Int
  which : Int
  n : Int
  A : Option Addr
  cap : Nat
  L : List Int
  X : Int

def LAct.vals (a : LAct) : List Value := [.int .i64 a.kind, .int .i64 a.which, .int .i64 a.n, .slice a.A a.L.length a.cap, .int .u64 a.X]

/-- What can be said of an act that came in. -/
structure LAct.ok (w : World) (a : LAct) : Prop where
  reads : Reads w a.A (ints .u64 a.L)
  u64 : ∀ x ∈ a.L, 0 ≤ x ∧ x < 18446744073709551616
  x0 : 0 ≤ a.X
  x1 : a.X < 18446744073709551616
  len : a.L.length ≤ 9223372036854775807

theorem LAct.ok.fr {w w' : World} {a : LAct} (h : a.ok w) (f : Fr nil2 w w') : a.ok w' := ⟨h.reads.fr f (fun _ _ _ _ _ _ h => h), h.u64, h.x0, h.x1, h.len⟩

theorem LAct.ok.blk {w : World} {a : LAct} (h : a.ok w) (hp : 0 < a.L.length) (b off : Nat) (e : a.A = some ⟨b, off, none⟩) : b < w.heap.size := by
  obtain ⟨b', off', e', hc⟩ := h.reads.get 0 (by simpa using hp)
  rw [e] at e'
  injection e' with e'
  injection e' with e1 e2
  subst e1 e2
  exact cell_lt hc

def ActsAt (w : World) (A : Option Addr) (l : List LAct) : Prop :=
  l = [] ∨ ∃ b off, A = some ⟨b, off, none⟩ ∧ ∀ i (h : i < l.length), ∀ j v, (l[i]).vals[j]? = some v → w.cell? ⟨b, off + i * 5 + j, none⟩ = some v

theorem ActsAt.get {w : World} {A : Option Addr} {l : List LAct} (h : ActsAt w A l) (i : Nat) (hi : i < l.length) : ∃ b off, A = some ⟨b, off, none⟩ ∧ ∀ j v, (l[i]).vals[j]? = some v → w.cell? ⟨b, off + i * 5 + j, none⟩ = some v := by
  rcases h with h | ⟨b, off, rfl, h⟩
  · subst h; simp at hi
  · exact ⟨b, off, rfl, h i hi⟩

theorem ActsAt.fr {w w' : World} {A : Option Addr} {l : List LAct} (h : ActsAt w A l) (f : Fr nil2 w w') : ActsAt w' A l := by
  rcases h with h | ⟨b, off, rfl, h⟩
  · exact .inl h
  · exact .inr ⟨b, off, rfl, fun i hi j v hv => f.cell (h i hi j v hv) (fun h => h)⟩

theorem i64_and1 (n : Int) : bits .and .i64 n 1 = n % 2 := by
  have h1 : (BitVec.ofInt 64 1).toNat = 2 ^ 1 - 1 := by decide
  have key : (BitVec.ofInt 64 n &&& BitVec.ofInt 64 1).toNat = (n % ((2 ^ 64 : Nat) : Int)).toNat % 2 ^ 1 := by
    rw [BitVec.toNat_and, BitVec.toNat_ofInt, h1, Nat.and_two_pow_sub_one_eq_mod]
  show IntKind.i64.wrap ((BitVec.ofInt 64 n &&& BitVec.ofInt 64 1).toNat : Nat) = n % 2
  rw [key, IntKind.wrap_i64]
  omega

/-- Two lists, empty, and their memory. -/
theorem Side.new {T : Nat} {w : World} {m g : Nat} {bs : List Int} (hm : IsMem T w m g bs) (hl : bs.length = 2048) (e : TypeId) : Side T (w.alloc (.cells #[.int .u64 0, .int .i64 0, .int .u64 0, .int .i64 0] e)) m g w.heap.size 0 2 bs (0, 0) (0, 0) := by
  have r := Row.new w e [.int .u64 0, .int .i64 0, .int .u64 0, .int .i64 0]
  have h1 := hm.obj.lt
  have h2 := hm.bytes.lt
  exact ⟨hm.alloc _, hl, ⟨Cel.of_row r 0 (by simp), Cel.of_row r 1 (by simp), by decide, by decide⟩, ⟨Cel.of_row r 2 (by simp), Cel.of_row r 3 (by simp), by decide, by decide⟩, Flat.new _ _ _, .inl (by decide), by omega, by omega⟩

/-- One of two, the other one. -/
def sel (i : Nat) (p q : Int × Int) : Int × Int := if i = 0 then p else q

theorem side_sel {T : Nat} {W : World} {m g lb : Nat} {bs : List Int} {p q : Int × Int} (s : Side T W m g lb 0 2 bs p q) {i j : Nat} (h : i + j = 1) : Side T W m g lb (i * 2) (j * 2) bs (sel i p q) (sel i q p) := by
  have : (i = 0 ∧ j = 1) ∨ (i = 1 ∧ j = 0) := by omega
  rcases this with ⟨rfl, rfl⟩ | ⟨rfl, rfl⟩
  · exact s
  · exact s.swap
theorem side_back {T : Nat} {W : World} {m g lb : Nat} {bs : List Int} {p q : Int × Int} {i j : Nat} (s : Side T W m g lb (i * 2) (j * 2) bs p q) (h : i + j = 1) : Side T W m g lb 0 2 bs (sel i p q) (sel i q p) := by
  have : (i = 0 ∧ j = 1) ∨ (i = 1 ∧ j = 0) := by omega
  rcases this with ⟨rfl, rfl⟩ | ⟨rfl, rfl⟩
  · exact s
  · exact s.swap
theorem sel_bd {i : Nat} {p q : Int × Int} {B : Int} (h : 0 ≤ p.2 ∧ p.2 ≤ B ∧ 0 ≤ q.2 ∧ q.2 ≤ B) : 0 ≤ (sel i p q).2 ∧ (sel i p q).2 ≤ B ∧ 0 ≤ (sel i q p).2 ∧ (sel i q p).2 ≤ B := by
  unfold sel
  split <;> omega

/-- The other side stays. -/
theorem Side.other {T : Nat} {W W' : World} {m g lb lo lo2 g' lb' : Nat} {bs : List Int} {p q : Int × Int} (s : Side T W m g lb lo lo2 bs p q) (f : Fr (SF g' lb') W W') (h : (m ≠ g' ∧ m ≠ lb') ∧ (g ≠ g' ∧ g ≠ lb') ∧ (lb ≠ g' ∧ lb ≠ lb')) : Side T W' m g lb lo lo2 bs p q :=
  s.fr f (fun _ e => by unfold SF at e; omega) (fun _ e => by unfold SF at e; omega) (fun _ e => by unfold SF at e; omega)

theorem reads_side {g lb B : Nat} {W W' : World} {A : Option Addr} {L : List Int} (h : Reads W A (ints .u64 L)) (f : Fr (SF g lb) W W') (hb : 0 < L.length → ∀ b off, A = some ⟨b, off, none⟩ → b < B) (hg : B ≤ g ∧ B ≤ lb) : Reads W' A (ints .u64 L) :=
  h.fr f (fun b off o e h1 h2 hs => by
    have h3 : (ints .u64 L).length = L.length := by simp
    have := hb (by omega) b off e
    unfold SF at hs
    omega)

theorem fr_side {g lb : Nat} {w W W' : World} (h : Fr nil2 w W) (f : Fr (SF g lb) W W') (hg : w.heap.size ≤ g ∧ w.heap.size ≤ lb) : Fr nil2 w W' :=
  h.step f (fun i o hi e => by unfold SF at e; omega)

set_option maxRecDepth 100000 in
set_option maxHeartbeats 8000000 in
theorem acts_walk (A : Option Addr) (cap : Nat) (l : List LAct) (w : World) (hx : ActsAt w A l) (ho : ∀ a ∈ l, a.ok w) (ll : l.length ≤ 9223372036854775807) :
    Calls Try.prog 9 #[.slice A l.length cap] w fun e w' => e = .returned (.bool true) ∧ Fr nil2 w w' := by
  have HX := Lib.hid hx
  have HOK := Lib.hid ho
  clear hx ho
  go_enter Try.func9, Try.ntmps9
  go_wp2_with fail
  refine (alive_any w).mono ?_
  rintro e wa ⟨rfl, hfa⟩
  have HFA := Lib.hid hfa
  clear hfa
  by_cases h60 : 60 < l.length
  · have h6 : (60 : Int) < (l.length : Int) := by omega
    go_wp2
    go_ret
    exact ⟨rfl, HFA.out⟩
  · have h6 : ¬ (60 : Int) < (l.length : Int) := by omega
    have h60' : l.length ≤ 60 := by omega
    clear h60
    go_wp2_with fail
    refine (new_any 2048 wa (by decide) (by decide) (by decide)).mono ?_
    rintro e w1 ⟨rfl, rfl⟩
    have HM := Lib.hid (newMem_is 149 2048 wa (by decide))
    have HF := Lib.hid (HFA.out.trans' (newMem_fr 149 2048 wa nil2))
    have HS1 := Lib.hid (newMem_is 149 2048 wa (by decide)).obj.lt
    have HSW := Lib.hid HFA.out.size
    obtain ⟨W1, hW1⟩ : ∃ W, newMem 149 2048 wa = W := ⟨_, rfl⟩
    rw [hW1] at HM HF HS1 ⊢
    clear hW1
    go_wp2_with fail
    refine (rnew_any 2048 W1 (by decide) (by decide) (by decide)).mono ?_
    rintro e w2 ⟨rfl, rfl⟩
    have HN := Lib.hid (newMem_is 86 2048 W1 (by decide))
    have HFN := newMem_fr 86 2048 W1 nil2
    have HM2 := Lib.hid (HM.out.fr HFN (fun _ h => h) (fun _ h => h))
    have HF2 := Lib.hid (HF.out.trans' HFN)
    have HS2 := Lib.hid (newMem_is 86 2048 W1 (by decide)).obj.lt
    obtain ⟨W2, hW2⟩ : ∃ W, newMem 86 2048 W1 = W := ⟨_, rfl⟩
    rw [hW2] at HN HM2 HF2 HS2 ⊢
    clear hW2 HM HF HFN
    go_wp2
    have hr : (List.replicate 2048 (0 : Int)).length = 2048 := List.length_replicate
    have hSL := (Side.new HM2.out hr 70)
    have hSR := (Side.new (HN.out.alloc (.cells #[.int .u64 0, .int .i64 0, .int .u64 0, .int .i64 0] 70)) hr 72)
    rw [World.size_alloc] at hSR
    have HSL := Lib.hid (hSL.quiet ((Fr.refl nil2 _).alloc (.cells #[.int .u64 0, .int .i64 0, .int .u64 0, .int .i64 0] 72)))
    have HSR := Lib.hid hSR
    have HF3 := Lib.hid ((HF2.out.alloc (.cells #[.int .u64 0, .int .i64 0, .int .u64 0, .int .i64 0] 70)).alloc (.cells #[.int .u64 0, .int .i64 0, .int .u64 0, .int .i64 0] 72))
    obtain ⟨W3, hW3⟩ : ∃ W, (W2.alloc (.cells #[.int .u64 0, .int .i64 0, .int .u64 0, .int .i64 0] 70)).alloc (.cells #[.int .u64 0, .int .i64 0, .int .u64 0, .int .i64 0] 72) = W := ⟨_, rfl⟩
    rw [hW3] at HSL HSR HF3 ⊢
    clear hW3 hSL hSR hr HM2 HN HF2
    obtain ⟨gl, hgl⟩ : ∃ x, wa.heap.size = x := ⟨_, rfl⟩
    obtain ⟨gr, hgr⟩ : ∃ x, W1.heap.size = x := ⟨_, rfl⟩
    obtain ⟨bl, hbl⟩ : ∃ x, W2.heap.size = x := ⟨_, rfl⟩
    rw [hgl] at HS1 HSW HSL ⊢
    rw [hgr] at HS1 HS2 HSR ⊢
    rw [hbl] at HS2 HSL HSR ⊢
    have HDL : Hid (((gl + 1 ≠ gr ∧ gl + 1 ≠ bl + 1) ∧ (gl ≠ gr ∧ gl ≠ bl + 1) ∧ (bl ≠ gr ∧ bl ≠ bl + 1))) := Lib.hid (by have := HS1.out; have := HS2.out; omega)
    have HDR : Hid (((gr + 1 ≠ gl ∧ gr + 1 ≠ bl) ∧ (gr ≠ gl ∧ gr ≠ bl) ∧ (bl + 1 ≠ gl ∧ bl + 1 ≠ bl))) := Lib.hid (by have := HS1.out; have := HS2.out; omega)
    have HBL : Hid (w.heap.size ≤ gl ∧ w.heap.size ≤ bl) := Lib.hid (by have := HS1.out; have := HS2.out; have := HSW.out; omega)
    have HBR : Hid (w.heap.size ≤ gr ∧ w.heap.size ≤ bl + 1) := Lib.hid (by have := HS1.out; have := HS2.out; have := HSW.out; omega)
    clear hgl hgr hbl HS1 HS2 HSW HFA
    go_loopw [48] (fun i wr => ∃ (k : Nat) (bs : List Int) (p q : Int × Int), k ≤ l.length ∧ i = .int .i64 k ∧ Hid (Side 149 wr (gl + 1) gl bl 0 2 bs p q) ∧ Hid (Side 86 wr (gr + 1) gr (bl + 1) 0 2 bs p q) ∧ Hid (0 ≤ p.2 ∧ p.2 ≤ 3000 * k ∧ 0 ≤ q.2 ∧ q.2 ≤ 3000 * k) ∧ Hid (Fr nil2 w wr)) (fun i _ => l.length - (intOf i).toNat)
    case atStart => exact ⟨0, _, (0, 0), (0, 0), Nat.zero_le _, rfl, HSL, HSR, by unfold Hid; decide, HF3⟩
    case round =>
      clear HSL HSR HF3
      obtain ⟨k, bs, p, q, hk, rfl, HSL, HSR, HPQ, HF⟩ := hrel
      by_cases hkl : k < l.length
      · obtain ⟨ba, oa, hAa, hca⟩ := (HX.out.fr HF.out).get k hkl
        have hok := HOK.out l[k] (List.getElem_mem hkl)
        have hbk : 0 < (l[k]).L.length → ∀ b off, (l[k]).A = some ⟨b, off, none⟩ → b < w.heap.size := fun hp b off e => hok.blk hp b off e
        obtain ⟨a, ha⟩ : ∃ a, l[k] = a := ⟨_, rfl⟩
        rw [ha] at hca hok hbk
        have HBK := Lib.hid hbk
        have HA := Lib.hid (hok.fr HF.out)
        have c0 := hca 0 _ rfl
        have c1 := hca 1 _ rfl
        have c2 := hca 2 _ rfl
        have c3 := hca 3 _ rfl
        have c4 := hca 4 _ rfl
        obtain ⟨kind, which, n, aA, acap, aL, aX⟩ := a
        simp only at c0 c1 c2 c3 c4
        rw [Nat.add_zero] at c0
        subst hAa
        clear hca ha hok hbk
        by_cases h100 : 100 < aL.length
        · have h1 : (100 : Int) < (aL.length : Int) := by omega
          go_wp2
          go_ret
          exact ⟨rfl, HF.out.alloc _⟩
        · have h1 : ¬ (100 : Int) < (aL.length : Int) := by omega
          have HROW := Lib.hid (Row.new wr 74 [.int .i64 kind, .int .i64 which, .int .i64 n, .slice aA aL.length acap, .int .u64 aX])
          have HSL4 := Lib.hid (HSL.out.quiet ((Fr.refl nil2 _).alloc (.cells #[.int .i64 kind, .int .i64 which, .int .i64 n, .slice aA aL.length acap, .int .u64 aX] 74)))
          have HSR4 := Lib.hid (HSR.out.quiet ((Fr.refl nil2 _).alloc (.cells #[.int .i64 kind, .int .i64 which, .int .i64 n, .slice aA aL.length acap, .int .u64 aX] 74)))
          have HF4 := Lib.hid (HF.out.alloc (.cells #[.int .i64 kind, .int .i64 which, .int .i64 n, .slice aA aL.length acap, .int .u64 aX] 74))
          have HA4 := Lib.hid (HA.out.fr ((Fr.refl nil2 _).alloc (.cells #[.int .i64 kind, .int .i64 which, .int .i64 n, .slice aA aL.length acap, .int .u64 aX] 74)))
          have HAB := Lib.hid (show gl + 1 < wr.heap.size ∧ bl < wr.heap.size ∧ gr + 1 < wr.heap.size ∧ bl + 1 < wr.heap.size from ⟨HSL.out.mem.obj.lt, HSL.out.l1.head.lt, HSR.out.mem.obj.lt, HSR.out.l1.head.lt⟩)
          clear HSL HSR HF HA
          have hand := i64_and1 which
          obtain ⟨i, hwi, hi1⟩ : ∃ i : Nat, which % 2 = (i : Int) ∧ i ≤ 1 := ⟨(which % 2).toNat, by omega, by omega⟩
          obtain ⟨j, hij⟩ : ∃ j : Nat, i + j = 1 := ⟨1 - i, by omega⟩
          rw [hwi] at hand
          clear hwi
          go_upto_if 62 with fail
          obtain ⟨W4, hW4⟩ : ∃ W, wr.alloc (.cells #[.int .i64 kind, .int .i64 which, .int .i64 n, .slice aA aL.length acap, .int .u64 aX] 74) = W := ⟨_, rfl⟩
          obtain ⟨ab, hab⟩ : ∃ x, wr.heap.size = x := ⟨_, rfl⟩
          have HROW' := HROW.out
          unfold Row at HROW'
          rw [show ([.int .i64 kind, .int .i64 which, .int .i64 n, .slice aA aL.length acap, .int .u64 aX] : List Value).toArray = #[.int .i64 kind, .int .i64 which, .int .i64 n, .slice aA aL.length acap, .int .u64 aX] from rfl] at HROW'
          rw [hW4, hab] at HROW'
          have HROWa := Lib.hid (show Row W4 ab 74 [.int .i64 kind, .int .i64 which, .int .i64 n, .slice aA aL.length acap, .int .u64 aX] from HROW')
          rw [hW4] at HSL4 HSR4 HF4 HA4 ⊢
          rw [hab] at HAB ⊢
          clear hW4 hab HROW HROW' c0 c1 c2 c3 c4
          have c0 := HROWa.out.cell 0 (by simp)
          have c1 := HROWa.out.cell 1 (by simp)
          have c2 := HROWa.out.cell 2 (by simp)
          have c3 := HROWa.out.cell 3 (by simp)
          have c4 := HROWa.out.cell 4 (by simp)
          simp only [List.getElem_cons_zero, List.getElem_cons_succ] at c0 c1 c2 c3 c4
          go_cut [12, 48] from 48 to 228 (fun s12 s48 wx => s48 = .int .i64 k ∧ wx = W4 ∧ ∃ f : Int, s12 = .int .u64 f ∧ 0 ≤ f ∧ f < 18446744073709551616)
          case first =>
            by_cases hpos : 0 < aL.length
            · have hposI : (0 : Int) < (aL.length : Int) := by omega
              obtain ⟨bf, of, hAf, hcf⟩ := HA4.out.reads.get 0 (by simpa using hpos)
              rw [ints_get, Nat.add_zero] at hcf
              have hfb := HA4.out.u64 _ (List.getElem_mem hpos)
              obtain ⟨fst, hfst⟩ : ∃ x, aL[0] = x := ⟨_, rfl⟩
              rw [hfst] at hcf hfb
              obtain ⟨hf0, hf1⟩ := hfb
              simp only at hAf
              subst hAf
              clear hfst
              go_wp2_with fail
              go_meet
              exact ⟨rfl, rfl, fst, rfl, hf0, hf1⟩
            · have hposI : ¬ (0 : Int) < (aL.length : Int) := by omega
              go_wp2_with fail
              go_meet
              exact ⟨rfl, rfl, 0, rfl, by decide, by decide⟩
          case rest =>
            obtain ⟨rfl, rfl, fst, rfl, hf0, hf1⟩ := hcut
            have HL0 := Lib.hid (side_sel HSL4.out hij)
            have HR0 := Lib.hid (side_sel HSR4.out hij)
            have HPQ1 := Lib.hid (sel_bd (i := i) HPQ.out)
            obtain ⟨p1, hp1⟩ : ∃ x, sel i p q = x := ⟨_, rfl⟩
            obtain ⟨q1, hq1⟩ : ∃ x, sel i q p = x := ⟨_, rfl⟩
            rw [hp1, hq1] at HL0 HR0 HPQ1
            clear hp1 hq1 HSL4 HSR4 HPQ
            have HPQ := HPQ1
            clear HPQ1
            have hiI : (i : Int) < 2 := by omega
            have hi0 : (0 : Int) ≤ (i : Int) := by omega
            have hiN : ((i : Int)).toNat = i := by omega
            have hjN : ((1 : Int) - (i : Int)).toNat = j := by omega
            have hj0 : (0 : Int) ≤ 1 - (i : Int) := by omega
            have hj1 : (1 : Int) - (i : Int) < 2 := by omega
            by_cases hk1 : kind = 1
            · subst hk1
              as_aux_lemma =>
                obtain ⟨h', n', x', e', hpop⟩ : ∃ h' n' x' e', popF bs p1.1 p1.2 = (h', n', x', e') := ⟨_, _, _, _, rfl⟩
                have HNB := Lib.hid (popF_n bs p1.1 p1.2 (by have := HPQ.out; omega))
                rw [hpop] at HNB
                have hc1 := side_pop HL0.out (by have := HPQ.out; omega) (by have := HPQ.out; omega)
                rw [hpop] at hc1
                have HC1 := Lib.hid hc1
                have HPOP := Lib.hid hpop
                clear hc1 hpop
                go_wp2_with fail
                refine HC1.out.mono ?_
                rintro e w5 ⟨rfl, hl5, hf5⟩
                have HL5 := Lib.hid hl5
                have HR5 := Lib.hid (HR0.out.other hf5 HDR.out)
                have HF5 := Lib.hid (fr_side HF4.out hf5 HBL.out)
                clear hl5 hf5 HL0 HR0
                go_wp2_with fail
                have hc2 := rside_pop HR5.out (by have := HPQ.out; omega) (by have := HPQ.out; omega)
                rw [HPOP.out] at hc2
                refine hc2.mono ?_
                rintro e w6 ⟨rfl, hr6, hf6⟩
                clear hc2
                have HR6 := Lib.hid hr6
                have HL6 := Lib.hid (HL5.out.other hf6 HDL.out)
                have HF6 := Lib.hid (fr_side HF5.out hf6 HBR.out)
                clear hr6 hf6 HL5 HR5
                have hxx : (x' != x') = false := by simp
                have hee : (e' != e') = false := by simp
                have hbd : 0 ≤ ((h', n')).2 ∧ ((h', n')).2 ≤ 3000 * ((k : Int) + 1) ∧ 0 ≤ (q1).2 ∧ (q1).2 ≤ 3000 * ((k : Int) + 1) := by have h := HPQ.out; have h2 := HNB.out; simp only at h2 ⊢; omega
                have HBD := Lib.hid (sel_bd (i := i) hbd)
                have HLE := Lib.hid (side_back HL6.out hij)
                have HRE := Lib.hid (side_back HR6.out hij)
                obtain ⟨pe, hpe⟩ : ∃ x, sel i (h', n') q1 = x := ⟨_, rfl⟩
                obtain ⟨qe, hqe⟩ : ∃ x, sel i q1 (h', n') = x := ⟨_, rfl⟩
                rw [hpe, hqe] at HLE HRE HBD
                clear hpe hqe hbd
                obtain ⟨d0, -⟩ := HLE.out.l1.head
                obtain ⟨d1, -⟩ := HLE.out.l1.num
                obtain ⟨d2, -⟩ := HLE.out.l2.head
                obtain ⟨d3, -⟩ := HLE.out.l2.num
                obtain ⟨r0, -⟩ := HRE.out.l1.head
                obtain ⟨r1, -⟩ := HRE.out.l1.num
                obtain ⟨r2, -⟩ := HRE.out.l2.head
                obtain ⟨r3, -⟩ := HRE.out.l2.num
                simp only [Nat.zero_add, Nat.reduceAdd] at d0 d1 d2 d3 r0 r1 r2 r3
                go_wp2
                go_roundw
                case rel => exact ⟨k + 1, bs, pe, qe, by omega, by go_num, HLE, HRE, Lib.hid (by have h := HBD.out; omega), HF6⟩
                case measure => simp [intOf]; omega
            · have hkb1 : (kind == 1) = false := by simp [hk1]
              by_cases hk2 : kind = 2
              · subst hk2
                as_aux_lemma =>
                  have hba := all_any (gl + 1) gl bl (i * 2) bs p1.1 p1.2 _ HL0.out.mem HL0.out.l1 (by rw [HL0.out.len]; decide)
                  have HRA := Lib.hid (fun (W : World) (hm : IsMem 86 W (gr + 1) gr bs) (hl : IsList W (bl + 1) (i * 2) p1.1 p1.2) => rall_any (gr + 1) gr (bl + 1) (i * 2) bs p1.1 p1.2 W hm hl (by have := HPQ.out; omega) (by have := HPQ.out; omega))
                  cases hall : allF bs p1.1 p1.2 with
                  | none =>
                    rw [hall] at hba HRA
                    have HBA := Lib.hid hba
                    clear hba hall
                    go_wp2_with fail
                    refine HBA.out.mono ?_
                    rintro e w5 ⟨rfl, hf5⟩
                    have HL5 := Lib.hid (HL0.out.quiet hf5)
                    have HR5 := Lib.hid (HR0.out.quiet hf5)
                    have HF5 := Lib.hid (HF4.out.trans' hf5)
                    clear hf5 HL0 HR0
                    go_wp2_with fail
                    refine (HRA.out w5 HR5.out.mem HR5.out.l1).mono ?_
                    rintro e w6 ⟨rfl, hf6⟩
                    have HL6 := Lib.hid (HL5.out.quiet hf6)
                    have HR6 := Lib.hid (HR5.out.quiet hf6)
                    have HF6 := Lib.hid (HF5.out.trans' hf6)
                    clear hf6 HL5 HR5
                    go_wp2_with fail
                    refine (same_any none none 0 0 [] [] w6 (.inl rfl) (.inl rfl) (by decide) (by decide)).mono ?_
                    rw [decide_eq_true rfl]
                    rintro e w7 ⟨rfl, hf7⟩
                    have HL7 := Lib.hid (HL6.out.quiet hf7)
                    have HR7 := Lib.hid (HR6.out.quiet hf7)
                    have HF7 := Lib.hid (HF6.out.trans' hf7)
                    clear hf7 HL6 HR6
                    have hbd : 0 ≤ (p1).2 ∧ (p1).2 ≤ 3000 * ((k : Int) + 1) ∧ 0 ≤ (q1).2 ∧ (q1).2 ≤ 3000 * ((k : Int) + 1) := by have h := HPQ.out; omega
                    have HBD := Lib.hid (sel_bd (i := i) hbd)
                    have HLE := Lib.hid (side_back HL7.out hij)
                    have HRE := Lib.hid (side_back HR7.out hij)
                    obtain ⟨pe, hpe⟩ : ∃ x, sel i p1 q1 = x := ⟨_, rfl⟩
                    obtain ⟨qe, hqe⟩ : ∃ x, sel i q1 p1 = x := ⟨_, rfl⟩
                    rw [hpe, hqe] at HLE HRE HBD
                    clear hpe hqe hbd
                    obtain ⟨d0, -⟩ := HLE.out.l1.head
                    obtain ⟨d1, -⟩ := HLE.out.l1.num
                    obtain ⟨d2, -⟩ := HLE.out.l2.head
                    obtain ⟨d3, -⟩ := HLE.out.l2.num
                    obtain ⟨r0, -⟩ := HRE.out.l1.head
                    obtain ⟨r1, -⟩ := HRE.out.l1.num
                    obtain ⟨r2, -⟩ := HRE.out.l2.head
                    obtain ⟨r3, -⟩ := HRE.out.l2.num
                    simp only [Nat.zero_add, Nat.reduceAdd] at d0 d1 d2 d3 r0 r1 r2 r3
                    go_wp2
                    go_roundw
                    case rel => exact ⟨k + 1, bs, pe, qe, by omega, by go_num, HLE, HRE, Lib.hid (by have h := HBD.out; omega), HF7⟩
                    case measure => simp [intOf]; omega
                  | some ls =>
                    rw [hall] at hba HRA
                    have HBA := Lib.hid hba
                    have hln := (allF_len hall).2
                    rw [HL0.out.len] at hln
                    clear hba hall
                    go_wp2_with fail
                    refine HBA.out.mono ?_
                    rintro e w5 ⟨⟨v5, rfl, hown5⟩, hf5⟩
                    have HL5 := Lib.hid (HL0.out.quiet hf5)
                    have HR5 := Lib.hid (HR0.out.quiet hf5)
                    have HF5 := Lib.hid (HF4.out.trans' hf5)
                    obtain ⟨A5, c5, rfl, -, -, hr5, -⟩ := own_reads hown5
                    have HV5 := Lib.hid hr5
                    clear hf5 HL0 HR0 hown5 hr5
                    go_wp2_with fail
                    refine (HRA.out w5 HR5.out.mem HR5.out.l1).mono ?_
                    rintro e w6 ⟨⟨v6, rfl, hown6⟩, hf6⟩
                    have HL6 := Lib.hid (HL5.out.quiet hf6)
                    have HR6 := Lib.hid (HR5.out.quiet hf6)
                    have HF6 := Lib.hid (HF5.out.trans' hf6)
                    have HV5' := Lib.hid (HV5.out.fr hf6 (fun _ _ _ _ _ _ h => h))
                    obtain ⟨A6, c6, rfl, -, -, hr6, -⟩ := own_reads hown6
                    have HV6 := Lib.hid hr6
                    clear hf6 HL5 HR5 hown6 hr6 HV5
                    go_wp2_with fail
                    refine (same_any A5 A6 c5 c6 ls ls w6 HV5'.out HV6.out (by omega) (by omega)).mono ?_
                    rw [decide_eq_true rfl]
                    rintro e w7 ⟨rfl, hf7⟩
                    have HL7 := Lib.hid (HL6.out.quiet hf7)
                    have HR7 := Lib.hid (HR6.out.quiet hf7)
                    have HF7 := Lib.hid (HF6.out.trans' hf7)
                    clear hf7 HL6 HR6 HV5' HV6
                    have hbd : 0 ≤ (p1).2 ∧ (p1).2 ≤ 3000 * ((k : Int) + 1) ∧ 0 ≤ (q1).2 ∧ (q1).2 ≤ 3000 * ((k : Int) + 1) := by have h := HPQ.out; omega
                    have HBD := Lib.hid (sel_bd (i := i) hbd)
                    have HLE := Lib.hid (side_back HL7.out hij)
                    have HRE := Lib.hid (side_back HR7.out hij)
                    obtain ⟨pe, hpe⟩ : ∃ x, sel i p1 q1 = x := ⟨_, rfl⟩
                    obtain ⟨qe, hqe⟩ : ∃ x, sel i q1 p1 = x := ⟨_, rfl⟩
                    rw [hpe, hqe] at HLE HRE HBD
                    clear hpe hqe hbd
                    obtain ⟨d0, -⟩ := HLE.out.l1.head
                    obtain ⟨d1, -⟩ := HLE.out.l1.num
                    obtain ⟨d2, -⟩ := HLE.out.l2.head
                    obtain ⟨d3, -⟩ := HLE.out.l2.num
                    obtain ⟨r0, -⟩ := HRE.out.l1.head
                    obtain ⟨r1, -⟩ := HRE.out.l1.num
                    obtain ⟨r2, -⟩ := HRE.out.l2.head
                    obtain ⟨r3, -⟩ := HRE.out.l2.num
                    simp only [Nat.zero_add, Nat.reduceAdd] at d0 d1 d2 d3 r0 r1 r2 r3
                    go_wp2
                    go_roundw
                    case rel => exact ⟨k + 1, bs, pe, qe, by omega, by go_num, HLE, HRE, Lib.hid (by have h := HBD.out; omega), HF7⟩
                    case measure => simp [intOf]; omega
              · have hkb2 : (kind == 2) = false := by simp [hk2]
                by_cases hk3 : kind = 3
                · subst hk3
                  as_aux_lemma =>
                    rcases (show (i = 0 ∧ j = 1) ∨ (i = 1 ∧ j = 0) from by omega) with ⟨rfl, rfl⟩ | ⟨rfl, rfl⟩
                    · clear hiI hi0 hiN hjN hj0 hj1 hand hi1
                      have HNB := Lib.hid (joinF_n bs p1.1 p1.2 q1.1 q1.2 (by have := HPQ.out; omega) (by have := HPQ.out; omega))
                      have HLEN0 := Lib.hid HL0.out.len
                      have hja := fun (W : World) (s : Side 149 W (gl + 1) gl bl 0 2 bs p1 q1) => side_join s (by have := HPQ.out; omega) (by have := HPQ.out; omega)
                      have hjb := fun (W : World) (s : Side 86 W (gr + 1) gr (bl + 1) 0 2 bs p1 q1) => rside_join s (by have := HPQ.out; omega) (by have := HPQ.out; omega) (by have := HPQ.out; omega) (by have := HPQ.out; omega)
                      obtain ⟨bs', p', q', e', hjf⟩ : ∃ b p2 q2 e2, joinF bs p1.1 p1.2 q1.1 q1.2 = (b, p2, q2, e2) := ⟨_, _, _, _, rfl⟩
                      rw [hjf] at hja hjb HNB
                      have HJA := Lib.hid hja
                      have HJB := Lib.hid hjb
                      have HL0d := Lib.hid (show Side 149 _ (gl + 1) gl bl 0 2 bs p1 q1 from HL0.out.quiet ((Fr.refl nil2 _).drew))
                      have HR0d := Lib.hid (show Side 86 _ (gr + 1) gr (bl + 1) 0 2 bs p1 q1 from HR0.out.quiet ((Fr.refl nil2 _).drew))
                      have HF0d := Lib.hid (HF4.out.drew)
                      clear hja hjb hjf HL0 HR0
                      have hee : (e' != e') = false := by simp
                      go_wp2
                      have hw1 : IntKind.i64.wrap 1 = 1 := by decide
                      have hw0 : IntKind.i64.wrap 0 = 0 := by decide
                      go_region_held3 (fun _ => True) (trivial) (first | (go_at_call_of 34 (Value.pointer (some ⟨bl, 2, none⟩)); refine (HJA.out _ ?_).mono ?_; (first | exact HLn.out | exact HL0d.out); rintro e wn ⟨rfl, hln, hfn⟩; (first | have HRn := Lib.hid (HRn.out.other hfn HDR.out) | have HRn := Lib.hid (HR0d.out.other hfn HDR.out)); (first | have HFn := Lib.hid (fr_side HFn.out hfn HBL.out) | have HFn := Lib.hid (fr_side HF0d.out hfn HBL.out)); have HLn := Lib.hid hln; clear hln hfn) | (go_at_call 56; refine (HJB.out _ ?_).mono ?_; (first | exact HRn.out | exact HR0d.out); rintro e wn ⟨rfl, hrn, hfn⟩; (first | have HLn := Lib.hid (HLn.out.other hfn HDL.out) | have HLn := Lib.hid (HL0d.out.other hfn HDL.out)); (first | have HFn := Lib.hid (fr_side HFn.out hfn HBR.out) | have HFn := Lib.hid (fr_side HF0d.out hfn HBR.out)); have HRn := Lib.hid hrn; clear hrn hfn) | (go_at_call 34; refine (join_self _ _ _ _).mono ?_; rintro e wx ⟨rfl, rfl⟩))
                      all_goals
                        have hbd : 0 ≤ (p').2 ∧ (p').2 ≤ 3000 * ((k : Int) + 1) ∧ 0 ≤ (q').2 ∧ (q').2 ≤ 3000 * ((k : Int) + 1) := by have h := HPQ.out; have h2 := HNB.out; rw [HLEN0.out] at h2; omega
                        have HBD := Lib.hid (sel_bd (i := 0) hbd)
                        have HLE := Lib.hid (side_back (i := 0) (j := 1 - 0) HLn.out (by decide))
                        have HRE := Lib.hid (side_back (i := 0) (j := 1 - 0) HRn.out (by decide))
                        obtain ⟨pe, hpe⟩ : ∃ x, sel 0 p' q' = x := ⟨_, rfl⟩
                        obtain ⟨qe, hqe⟩ : ∃ x, sel 0 q' p' = x := ⟨_, rfl⟩
                        rw [hpe, hqe] at HLE HRE HBD
                        clear hpe hqe hbd
                        obtain ⟨d0, -⟩ := HLE.out.l1.head
                        obtain ⟨d1, -⟩ := HLE.out.l1.num
                        obtain ⟨d2, -⟩ := HLE.out.l2.head
                        obtain ⟨d3, -⟩ := HLE.out.l2.num
                        obtain ⟨r0, -⟩ := HRE.out.l1.head
                        obtain ⟨r1, -⟩ := HRE.out.l1.num
                        obtain ⟨r2, -⟩ := HRE.out.l2.head
                        obtain ⟨r3, -⟩ := HRE.out.l2.num
                        simp only [Nat.zero_add, Nat.reduceAdd] at d0 d1 d2 d3 r0 r1 r2 r3
                        go_wp2
                        go_roundw
                        case rel => exact ⟨k + 1, bs', pe, qe, by omega, by go_num, HLE, HRE, Lib.hid (by have h := HBD.out; omega), HFn⟩
                        case measure => simp [intOf]; omega
                    · clear hiI hi0 hiN hjN hj0 hj1 hand hi1
                      have HNB := Lib.hid (joinF_n bs p1.1 p1.2 q1.1 q1.2 (by have := HPQ.out; omega) (by have := HPQ.out; omega))
                      have HLEN0 := Lib.hid HL0.out.len
                      have hja := fun (W : World) (s : Side 149 W (gl + 1) gl bl 2 0 bs p1 q1) => side_join s (by have := HPQ.out; omega) (by have := HPQ.out; omega)
                      have hjb := fun (W : World) (s : Side 86 W (gr + 1) gr (bl + 1) 2 0 bs p1 q1) => rside_join s (by have := HPQ.out; omega) (by have := HPQ.out; omega) (by have := HPQ.out; omega) (by have := HPQ.out; omega)
                      obtain ⟨bs', p', q', e', hjf⟩ : ∃ b p2 q2 e2, joinF bs p1.1 p1.2 q1.1 q1.2 = (b, p2, q2, e2) := ⟨_, _, _, _, rfl⟩
                      rw [hjf] at hja hjb HNB
                      have HJA := Lib.hid hja
                      have HJB := Lib.hid hjb
                      have HL0d := Lib.hid (show Side 149 _ (gl + 1) gl bl 2 0 bs p1 q1 from HL0.out.quiet ((Fr.refl nil2 _).drew))
                      have HR0d := Lib.hid (show Side 86 _ (gr + 1) gr (bl + 1) 2 0 bs p1 q1 from HR0.out.quiet ((Fr.refl nil2 _).drew))
                      have HF0d := Lib.hid (HF4.out.drew)
                      clear hja hjb hjf HL0 HR0
                      have hee : (e' != e') = false := by simp
                      go_wp2
                      have hw1 : IntKind.i64.wrap 1 = 1 := by decide
                      have hw0 : IntKind.i64.wrap 0 = 0 := by decide
                      go_region_held3 (fun _ => True) (trivial) (first | (go_at_call_of 34 (Value.pointer (some ⟨bl, 0, none⟩)); refine (HJA.out _ ?_).mono ?_; (first | exact HLn.out | exact HL0d.out); rintro e wn ⟨rfl, hln, hfn⟩; (first | have HRn := Lib.hid (HRn.out.other hfn HDR.out) | have HRn := Lib.hid (HR0d.out.other hfn HDR.out)); (first | have HFn := Lib.hid (fr_side HFn.out hfn HBL.out) | have HFn := Lib.hid (fr_side HF0d.out hfn HBL.out)); have HLn := Lib.hid hln; clear hln hfn) | (go_at_call 56; refine (HJB.out _ ?_).mono ?_; (first | exact HRn.out | exact HR0d.out); rintro e wn ⟨rfl, hrn, hfn⟩; (first | have HLn := Lib.hid (HLn.out.other hfn HDL.out) | have HLn := Lib.hid (HL0d.out.other hfn HDL.out)); (first | have HFn := Lib.hid (fr_side HFn.out hfn HBR.out) | have HFn := Lib.hid (fr_side HF0d.out hfn HBR.out)); have HRn := Lib.hid hrn; clear hrn hfn) | (go_at_call 34; refine (join_self _ _ _ _).mono ?_; rintro e wx ⟨rfl, rfl⟩))
                      all_goals
                        have hbd : 0 ≤ (p').2 ∧ (p').2 ≤ 3000 * ((k : Int) + 1) ∧ 0 ≤ (q').2 ∧ (q').2 ≤ 3000 * ((k : Int) + 1) := by have h := HPQ.out; have h2 := HNB.out; rw [HLEN0.out] at h2; omega
                        have HBD := Lib.hid (sel_bd (i := 1) hbd)
                        have HLE := Lib.hid (side_back (i := 1) (j := 1 - 1) HLn.out (by decide))
                        have HRE := Lib.hid (side_back (i := 1) (j := 1 - 1) HRn.out (by decide))
                        obtain ⟨pe, hpe⟩ : ∃ x, sel 1 p' q' = x := ⟨_, rfl⟩
                        obtain ⟨qe, hqe⟩ : ∃ x, sel 1 q' p' = x := ⟨_, rfl⟩
                        rw [hpe, hqe] at HLE HRE HBD
                        clear hpe hqe hbd
                        obtain ⟨d0, -⟩ := HLE.out.l1.head
                        obtain ⟨d1, -⟩ := HLE.out.l1.num
                        obtain ⟨d2, -⟩ := HLE.out.l2.head
                        obtain ⟨d3, -⟩ := HLE.out.l2.num
                        obtain ⟨r0, -⟩ := HRE.out.l1.head
                        obtain ⟨r1, -⟩ := HRE.out.l1.num
                        obtain ⟨r2, -⟩ := HRE.out.l2.head
                        obtain ⟨r3, -⟩ := HRE.out.l2.num
                        simp only [Nat.zero_add, Nat.reduceAdd] at d0 d1 d2 d3 r0 r1 r2 r3
                        go_wp2
                        go_roundw
                        case rel => exact ⟨k + 1, bs', pe, qe, by omega, by go_num, HLE, HRE, Lib.hid (by have h := HBD.out; omega), HFn⟩
                        case measure => simp [intOf]; omega
                · have hkb3 : (kind == 3) = false := by simp [hk3]
                  by_cases hk4 : kind = 4
                  · subst hk4
                    as_aux_lemma =>
                      have HL0d := Lib.hid (HL0.out.quiet ((Fr.refl nil2 _).drew))
                      have HR0d := Lib.hid (HR0.out.quiet ((Fr.refl nil2 _).drew))
                      have HF0d := Lib.hid (HF4.out.drew)
                      have HW0d := Lib.hid HROWa.out.drew
                      obtain ⟨hx0, hx1⟩ : 0 ≤ aX ∧ aX < 18446744073709551616 := ⟨HA4.out.x0, HA4.out.x1⟩
                      have HSA := Lib.hid (fun (W : World) (s : Side 149 W (gl + 1) gl bl (i * 2) (j * 2) bs p1 q1) => side_store s fst aX hf0 hx0 hx1)
                      have HSB := Lib.hid (fun (W : World) (s : Side 86 W (gr + 1) gr (bl + 1) (i * 2) (j * 2) bs p1 q1) => rside_store s fst aX hf0 hf1 hx0 hx1)
                      obtain ⟨er, her⟩ : ∃ x, ldE bs fst = x := ⟨_, rfl⟩
                      rw [her] at HSA HSB
                      clear her HL0 HR0 hx0 hx1
                      have hee : (er != er) = false := by simp
                      go_wp2
                      go_region_held3 (fun w' => w'.cell? ⟨ab, 4, none⟩ = some (.int .u64 aX)) (go_keep) ((first | (go_at_call 32; refine (HSA.out _ ?_).mono ?_; (first | exact HLn.out | exact HL0d.out); rintro e wn ⟨rfl, hxn, hfn⟩; (first | have HRn := Lib.hid (HRn.out.other hfn HDR.out) | have HRn := Lib.hid (HR0d.out.other hfn HDR.out)); (first | have HFn := Lib.hid (fr_side HFn.out hfn HBL.out) | have HFn := Lib.hid (fr_side HF0d.out hfn HBL.out)); (first | have HWn := Lib.hid (HWn.out.fr hfn (fun _ e => by have := HAB.out; unfold SF at e; omega)) | have HWn := Lib.hid (HW0d.out.fr hfn (fun _ e => by have := HAB.out; unfold SF at e; omega))); have HLn := Lib.hid hxn; clear hxn hfn; have hSn := HWn.out.cell 4 (by simp); simp only [List.getElem_cons_zero, List.getElem_cons_succ] at hSn) | (go_at_call 57; refine (HSB.out _ ?_).mono ?_; (first | exact HRn.out | exact HR0d.out); rintro e wn ⟨rfl, hxn, hfn⟩; (first | have HLn := Lib.hid (HLn.out.other hfn HDL.out) | have HLn := Lib.hid (HL0d.out.other hfn HDL.out)); (first | have HFn := Lib.hid (fr_side HFn.out hfn HBR.out) | have HFn := Lib.hid (fr_side HF0d.out hfn HBR.out)); (first | have HWn := Lib.hid (HWn.out.fr hfn (fun _ e => by have := HAB.out; unfold SF at e; omega)) | have HWn := Lib.hid (HW0d.out.fr hfn (fun _ e => by have := HAB.out; unfold SF at e; omega))); have HRn := Lib.hid hxn; clear hxn hfn; have hSn := HWn.out.cell 4 (by simp); simp only [List.getElem_cons_zero, List.getElem_cons_succ] at hSn)))
                      all_goals
                        have hbd : 0 ≤ (p1).2 ∧ (p1).2 ≤ 3000 * ((k : Int) + 1) ∧ 0 ≤ (q1).2 ∧ (q1).2 ≤ 3000 * ((k : Int) + 1) := by have h := HPQ.out; omega
                        have HBD := Lib.hid (sel_bd (i := i) hbd)
                        have HLE := Lib.hid (side_back HLn.out hij)
                        have HRE := Lib.hid (side_back HRn.out hij)
                        obtain ⟨pe, hpe⟩ : ∃ x, sel i p1 q1 = x := ⟨_, rfl⟩
                        obtain ⟨qe, hqe⟩ : ∃ x, sel i q1 p1 = x := ⟨_, rfl⟩
                        rw [hpe, hqe] at HLE HRE HBD
                        clear hpe hqe hbd
                        obtain ⟨d0, -⟩ := HLE.out.l1.head
                        obtain ⟨d1, -⟩ := HLE.out.l1.num
                        obtain ⟨d2, -⟩ := HLE.out.l2.head
                        obtain ⟨d3, -⟩ := HLE.out.l2.num
                        obtain ⟨r0, -⟩ := HRE.out.l1.head
                        obtain ⟨r1, -⟩ := HRE.out.l1.num
                        obtain ⟨r2, -⟩ := HRE.out.l2.head
                        obtain ⟨r3, -⟩ := HRE.out.l2.num
                        simp only [Nat.zero_add, Nat.reduceAdd] at d0 d1 d2 d3 r0 r1 r2 r3
                        go_wp2
                        go_roundw
                        case rel => exact ⟨k + 1, (stF bs fst aX), pe, qe, by omega, by go_num, HLE, HRE, Lib.hid (by have h := HBD.out; omega), HFn⟩
                        case measure => simp [intOf]; omega
                  · have hkb4 : (kind == 4) = false := by simp [hk4]
                    by_cases hk5 : kind = 5
                    · subst hk5
                      as_aux_lemma =>
                        have hcp := chain_any (gl + 1) gl bs fst n _ HL0.out.mem hf0 hf1
                        have hrp := fun (W : World) (hm : IsMem 86 W (gr + 1) gr bs) => rrow_any (gr + 1) gr bs fst n W hm hf0 hf1
                        cases hch : chF bs fst n with
                        | none =>
                          have hcr : chR bs fst n = (0, 0, 3) := by unfold chR; rw [hch]
                          unfold ChainPost at hcp
                          rw [hcr] at hcp
                          unfold RowPost at hrp
                          simp only [hch] at hrp
                          have HCP := Lib.hid hcp
                          have HRP := Lib.hid hrp
                          clear hcp hrp hcr hch
                          go_wp2_with fail
                          refine HCP.out.mono ?_
                          rintro e w5 ⟨rfl, hf5⟩
                          have hY := hf5.alloc (.cells #[.int .u64 0, .int .i64 0] 36)
                          have HL5 := Lib.hid (HL0.out.quiet hY)
                          have HR5 := Lib.hid (HR0.out.quiet hY)
                          have HF5 := Lib.hid (HF4.out.trans' hY)
                          have HROW5 := Lib.hid (HROWa.out.fr hY (fun _ h => h))
                          have HC5 := Lib.hid (Row.new w5 36 [.int .u64 0, .int .i64 0])
                          have hN5 := HROW5.out.cell 2 (by simp)
                          simp only [List.getElem_cons_zero, List.getElem_cons_succ] at hN5
                          clear hf5 hY HL0 HR0 HCP
                          go_wp2_with fail
                          refine (HRP.out _ HR5.out.mem).mono ?_
                          rintro e w6 ⟨rfl, hf6⟩
                          have HL6 := Lib.hid (HL5.out.quiet hf6)
                          have HR6 := Lib.hid (HR5.out.quiet hf6)
                          have HF6 := Lib.hid (HF5.out.trans' hf6)
                          have HC6 := Lib.hid (HC5.out.fr hf6 (fun _ h => h))
                          have e0 := HC6.out.cell 0 (by simp)
                          have e1 := HC6.out.cell 1 (by simp)
                          simp only [List.getElem_cons_zero, List.getElem_cons_succ] at e0 e1
                          clear hf6 HL5 HR5 HROW5 HC5 hN5
                          have hbd : 0 ≤ (p1).2 ∧ (p1).2 ≤ 3000 * ((k : Int) + 1) ∧ 0 ≤ (q1).2 ∧ (q1).2 ≤ 3000 * ((k : Int) + 1) := by have h := HPQ.out; omega
                          have HBD := Lib.hid (sel_bd (i := i) hbd)
                          have HLE := Lib.hid (side_back HL6.out hij)
                          have HRE := Lib.hid (side_back HR6.out hij)
                          obtain ⟨pe, hpe⟩ : ∃ x, sel i p1 q1 = x := ⟨_, rfl⟩
                          obtain ⟨qe, hqe⟩ : ∃ x, sel i q1 p1 = x := ⟨_, rfl⟩
                          rw [hpe, hqe] at HLE HRE HBD
                          clear hpe hqe hbd
                          obtain ⟨d0, -⟩ := HLE.out.l1.head
                          obtain ⟨d1, -⟩ := HLE.out.l1.num
                          obtain ⟨d2, -⟩ := HLE.out.l2.head
                          obtain ⟨d3, -⟩ := HLE.out.l2.num
                          obtain ⟨r0, -⟩ := HRE.out.l1.head
                          obtain ⟨r1, -⟩ := HRE.out.l1.num
                          obtain ⟨r2, -⟩ := HRE.out.l2.head
                          obtain ⟨r3, -⟩ := HRE.out.l2.num
                          simp only [Nat.zero_add, Nat.reduceAdd] at d0 d1 d2 d3 r0 r1 r2 r3
                          go_wp2
                          go_roundw
                          case rel => exact ⟨k + 1, bs, pe, qe, by omega, by go_num, HLE, HRE, Lib.hid (by have h := HBD.out; omega), HF6⟩
                          case measure => simp [intOf]; omega
                        | some kk =>
                          have hcr : chR bs fst n = (fst, (kk : Int), 0) := by unfold chR; rw [hch]
                          unfold ChainPost at hcp
                          rw [hcr] at hcp
                          unfold RowPost at hrp
                          simp only [hch] at hrp
                          have HCP := Lib.hid hcp
                          have HRP := Lib.hid hrp
                          clear hcp hrp hcr hch
                          go_wp2_with fail
                          refine HCP.out.mono ?_
                          rintro e w5 ⟨rfl, hf5⟩
                          have hY := hf5.alloc (.cells #[.int .u64 fst, .int .i64 (kk : Int)] 36)
                          have HL5 := Lib.hid (HL0.out.quiet hY)
                          have HR5 := Lib.hid (HR0.out.quiet hY)
                          have HF5 := Lib.hid (HF4.out.trans' hY)
                          have HROW5 := Lib.hid (HROWa.out.fr hY (fun _ h => h))
                          have HC5 := Lib.hid (Row.new w5 36 [.int .u64 fst, .int .i64 (kk : Int)])
                          have hN5 := HROW5.out.cell 2 (by simp)
                          simp only [List.getElem_cons_zero, List.getElem_cons_succ] at hN5
                          clear hf5 hY HL0 HR0 HCP
                          go_wp2_with fail
                          refine (HRP.out _ HR5.out.mem).mono ?_
                          rintro e w6 ⟨⟨v6, rfl, hown6⟩, hf6⟩
                          obtain ⟨A6, c6, rfl, -, -, -, -⟩ := own_reads hown6
                          have hff : (fst != fst) = false := by simp
                          have hkk : ((kk : Int) != (kk : Int)) = false := by simp
                          clear hown6
                          have HL6 := Lib.hid (HL5.out.quiet hf6)
                          have HR6 := Lib.hid (HR5.out.quiet hf6)
                          have HF6 := Lib.hid (HF5.out.trans' hf6)
                          have HC6 := Lib.hid (HC5.out.fr hf6 (fun _ h => h))
                          have e0 := HC6.out.cell 0 (by simp)
                          have e1 := HC6.out.cell 1 (by simp)
                          simp only [List.getElem_cons_zero, List.getElem_cons_succ] at e0 e1
                          clear hf6 HL5 HR5 HROW5 HC5 hN5
                          have hbd : 0 ≤ (p1).2 ∧ (p1).2 ≤ 3000 * ((k : Int) + 1) ∧ 0 ≤ (q1).2 ∧ (q1).2 ≤ 3000 * ((k : Int) + 1) := by have h := HPQ.out; omega
                          have HBD := Lib.hid (sel_bd (i := i) hbd)
                          have HLE := Lib.hid (side_back HL6.out hij)
                          have HRE := Lib.hid (side_back HR6.out hij)
                          obtain ⟨pe, hpe⟩ : ∃ x, sel i p1 q1 = x := ⟨_, rfl⟩
                          obtain ⟨qe, hqe⟩ : ∃ x, sel i q1 p1 = x := ⟨_, rfl⟩
                          rw [hpe, hqe] at HLE HRE HBD
                          clear hpe hqe hbd
                          obtain ⟨d0, -⟩ := HLE.out.l1.head
                          obtain ⟨d1, -⟩ := HLE.out.l1.num
                          obtain ⟨d2, -⟩ := HLE.out.l2.head
                          obtain ⟨d3, -⟩ := HLE.out.l2.num
                          obtain ⟨r0, -⟩ := HRE.out.l1.head
                          obtain ⟨r1, -⟩ := HRE.out.l1.num
                          obtain ⟨r2, -⟩ := HRE.out.l2.head
                          obtain ⟨r3, -⟩ := HRE.out.l2.num
                          simp only [Nat.zero_add, Nat.reduceAdd] at d0 d1 d2 d3 r0 r1 r2 r3
                          go_wp2
                          go_roundw
                          case rel => exact ⟨k + 1, bs, pe, qe, by omega, by go_num, HLE, HRE, Lib.hid (by have h := HBD.out; omega), HF6⟩
                          case measure => simp [intOf]; omega
                    · have hkb5 : (kind == 5) = false := by simp [hk5]
                      clear hk1 hk2 hk3 hk4 hk5
                      as_aux_lemma =>
                        have HL0d := Lib.hid (HL0.out.quiet ((Fr.refl nil2 _).drew))
                        have HR0d := Lib.hid (HR0.out.quiet ((Fr.refl nil2 _).drew))
                        have HF0d := Lib.hid (HF4.out.drew)
                        have HW0d := Lib.hid HROWa.out.drew
                        have HA0d := Lib.hid (show Reads _ aA (ints .u64 aL) from HA4.out.reads.fr ((Fr.refl nil2 _).drew) (fun _ _ _ _ _ _ h => h))
                        have HU := Lib.hid HA4.out.u64
                        have h100' : aL.length ≤ 100 := by omega
                        have HNB := Lib.hid (pushF_n aL bs p1.1 p1.2)
                        have HPA := Lib.hid (fun (W : World) (s : Side 149 W (gl + 1) gl bl (i * 2) (j * 2) bs p1 q1) (hr : Reads W aA (ints .u64 aL)) => side_push s aA acap aL hr (fun hp b off e => by have := HBK.out hp b off e; have := HBL.out; omega) HU.out (by have := HPQ.out; omega) (by have := HPQ.out; omega))
                        have HPB := Lib.hid (fun (W : World) (s : Side 86 W (gr + 1) gr (bl + 1) (i * 2) (j * 2) bs p1 q1) (hr : Reads W aA (ints .u64 aL)) => rside_push s aA acap aL hr (fun hp b off e => by have := HBK.out hp b off e; have := HBR.out; omega) HU.out (by have := HPQ.out; omega) (by have := HPQ.out; omega))
                        obtain ⟨bs', h', n', er, hpf⟩ : ∃ b h n e, pushF bs p1.1 p1.2 aL = (b, h, n, e) := ⟨_, _, _, _, rfl⟩
                        rw [hpf] at HPA HPB HNB
                        clear hpf HL0 HR0
                        have hee : (er != er) = false := by simp
                        go_wp2
                        go_region_held3 (fun w' => w'.cell? ⟨ab, 3, none⟩ = some (.slice aA aL.length acap)) (go_keep) ((first | (go_at_call 29; refine (HPA.out _ ?_ ?_).mono ?_; (first | exact HLn.out | exact HL0d.out); (first | exact HAn.out | exact HA0d.out); rintro e wn ⟨rfl, hxn, hfn⟩; (first | have HRn := Lib.hid (HRn.out.other hfn HDR.out) | have HRn := Lib.hid (HR0d.out.other hfn HDR.out)); (first | have HFn := Lib.hid (fr_side HFn.out hfn HBL.out) | have HFn := Lib.hid (fr_side HF0d.out hfn HBL.out)); (first | have HWn := Lib.hid (HWn.out.fr hfn (fun _ e => by have := HAB.out; unfold SF at e; omega)) | have HWn := Lib.hid (HW0d.out.fr hfn (fun _ e => by have := HAB.out; unfold SF at e; omega))); (first | have HAn := Lib.hid (reads_side HAn.out hfn HBK.out HBL.out) | have HAn := Lib.hid (reads_side HA0d.out hfn HBK.out HBL.out)); have HLn := Lib.hid hxn; clear hxn hfn; have hSn := HWn.out.cell 3 (by simp); simp only [List.getElem_cons_zero, List.getElem_cons_succ] at hSn) | (go_at_call 59; refine (HPB.out _ ?_ ?_).mono ?_; (first | exact HRn.out | exact HR0d.out); (first | exact HAn.out | exact HA0d.out); rintro e wn ⟨rfl, hxn, hfn⟩; (first | have HLn := Lib.hid (HLn.out.other hfn HDL.out) | have HLn := Lib.hid (HL0d.out.other hfn HDL.out)); (first | have HFn := Lib.hid (fr_side HFn.out hfn HBR.out) | have HFn := Lib.hid (fr_side HF0d.out hfn HBR.out)); (first | have HWn := Lib.hid (HWn.out.fr hfn (fun _ e => by have := HAB.out; unfold SF at e; omega)) | have HWn := Lib.hid (HW0d.out.fr hfn (fun _ e => by have := HAB.out; unfold SF at e; omega))); (first | have HAn := Lib.hid (reads_side HAn.out hfn HBK.out HBR.out) | have HAn := Lib.hid (reads_side HA0d.out hfn HBK.out HBR.out)); have HRn := Lib.hid hxn; clear hxn hfn; have hSn := HWn.out.cell 3 (by simp); simp only [List.getElem_cons_zero, List.getElem_cons_succ] at hSn)))
                        all_goals
                          have hbd : 0 ≤ ((h', n')).2 ∧ ((h', n')).2 ≤ 3000 * ((k : Int) + 1) ∧ 0 ≤ (q1).2 ∧ (q1).2 ≤ 3000 * ((k : Int) + 1) := by have h := HPQ.out; have h2 := HNB.out; simp only at h2 ⊢; omega
                          have HBD := Lib.hid (sel_bd (i := i) hbd)
                          have HLE := Lib.hid (side_back HLn.out hij)
                          have HRE := Lib.hid (side_back HRn.out hij)
                          obtain ⟨pe, hpe⟩ : ∃ x, sel i (h', n') q1 = x := ⟨_, rfl⟩
                          obtain ⟨qe, hqe⟩ : ∃ x, sel i q1 (h', n') = x := ⟨_, rfl⟩
                          rw [hpe, hqe] at HLE HRE HBD
                          clear hpe hqe hbd
                          obtain ⟨d0, -⟩ := HLE.out.l1.head
                          obtain ⟨d1, -⟩ := HLE.out.l1.num
                          obtain ⟨d2, -⟩ := HLE.out.l2.head
                          obtain ⟨d3, -⟩ := HLE.out.l2.num
                          obtain ⟨r0, -⟩ := HRE.out.l1.head
                          obtain ⟨r1, -⟩ := HRE.out.l1.num
                          obtain ⟨r2, -⟩ := HRE.out.l2.head
                          obtain ⟨r3, -⟩ := HRE.out.l2.num
                          simp only [Nat.zero_add, Nat.reduceAdd] at d0 d1 d2 d3 r0 r1 r2 r3
                          go_wp2
                          go_roundw
                          case rel => exact ⟨k + 1, bs', pe, qe, by omega, by go_num, HLE, HRE, Lib.hid (by have h := HBD.out; omega), HFn⟩
                          case measure => simp [intOf]; omega
      · have hkn : ¬ (k : Int) < (l.length : Int) := by omega
        have hgw := get_whole _ _ bs wr HSL.out.mem (by rw [HSL.out.len]; decide)
        rw [HSL.out.len] at hgw
        have HGW := Lib.hid hgw
        clear hgw
        go_wp2_with fail
        refine HGW.out.mono ?_
        rintro e w10 ⟨⟨v, rfl, hown⟩, hf10⟩
        obtain ⟨A25, c25, rfl, hc25, hm25, hr25, -⟩ := own_reads hown
        have HSR10 := Lib.hid (HSR.out.quiet hf10)
        have HF10 := Lib.hid (HF.out.trans' hf10)
        obtain ⟨b25, o25, hA25, -⟩ := hr25.get 0 (by simp [HSL.out.len])
        subst hA25
        have HR25 := Lib.hid hr25
        have hlr := HSR.out.len
        have hobj := HSR10.out.mem.obj.cell 0 (by simp)
        simp only [List.getElem_cons_zero] at hobj
        rw [hlr] at hobj
        have hsm := rsame_any b25 o25 c25 gr 0 2048 bs w10 HR25.out HSR10.out.mem.bytes.reads'
        rw [hlr] at hsm
        have HSM := Lib.hid hsm
        clear hown hf10 hr25 hsm hlr
        go_wp2_with fail
        refine HSM.out.mono ?_
        rintro e w11 ⟨rfl, rfl⟩
        go_wp2
        go_ret
        exact ⟨rfl, HF10.out⟩

end Go.Proofs.Ythginpedlfocpaa
