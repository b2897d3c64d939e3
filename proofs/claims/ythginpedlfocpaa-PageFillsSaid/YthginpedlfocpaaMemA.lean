/- Contracts of mem: sizes, ranges, and slices.Backward. -/
import Derived.Test.YthginpedlfocpaaRange
import Derived.Test.YthginpedlfocpaaProg
import Derived.Test.YthginpedlfocpaaCalcA
namespace Go.Proofs.Ythginpedlfocpaa
open Go.RowKit Go.Alo Go.Shelf
attribute [local go_sem] Oper.semAt_some

/-- A row, each with its place, from the last to the first. -/
def backL (bs : List Int) : List (Int × Int) := (List.range bs.length).reverse.map fun (i : Nat) => ((i : Int), bs.getD i 0)

theorem backL_len (bs : List Int) : (backL bs).length = bs.length := by simp [backL]

theorem backL_get (bs : List Int) (k : Nat) (hk : k < bs.length) : (backL bs)[k]? = some (((bs.length - 1 - k : Nat) : Int), bs.getD (bs.length - 1 - k) 0) := by
  simp only [backL, List.getElem?_map]
  rw [List.getElem?_reverse (by simpa using hk)]
  simp only [List.length_range]
  rw [List.getElem?_range (by omega)]
  rfl

theorem backL_pre {bs : List Int} {pre : List (Int × Int)} {x : Int × Int} (h : pre ++ [x] <+: backL bs) : pre.length < bs.length ∧ x.2 = bs.getD (bs.length - 1 - pre.length) 0 := by
  have hl := h.length_le
  rw [backL_len, List.length_append, List.length_singleton] at hl
  refine ⟨by omega, ?_⟩
  have e := h.getElem (i := pre.length) (by simp)
  rw [List.getElem_append_right (Nat.le_refl _)] at e
  have e2 := backL_get bs pre.length (by omega)
  rw [List.getElem?_eq_getElem (by rw [backL_len]; omega), ← e] at e2
  simp at e2
  rw [e2]
  simp

theorem backL_all (bs : List Int) : (backL bs).length = bs.length := backL_len bs

def encB (x : Int × Int) : Array Value := #[.int .i64 x.1, .int .u8 x.2]

/-- What a round of a range over slices.Backward keeps: the box, and the slice's block. -/
def KpB (sb : Nat) (A : Option Addr) (W W' : World) : Prop := W'.cell? ⟨sb, 0, none⟩ = W.cell? ⟨sb, 0, none⟩ ∧ ∀ b off, A = some ⟨b, off, none⟩ → ∀ o, W'.cell? ⟨b, o, none⟩ = W.cell? ⟨b, o, none⟩

theorem reads_kp {sb : Nat} {A : Option Addr} {W W' : World} {vs : List Value} (h : Reads W A vs) (k : KpB sb A W W') : Reads W' A vs := by
  rcases h with h | ⟨b, off, rfl, h⟩
  · exact .inl h
  · exact .inr ⟨b, off, rfl, fun i v hi => by rw [k.2 b off rfl]; exact h i v hi⟩

set_option maxRecDepth 100000 in
set_option maxHeartbeats 1000000 in
theorem back_iter (n : Nat) (sb cap : Nat) (A : Option Addr) (bs : List Int) (w0 : World) (hb : w0.cell? ⟨sb, 0, none⟩ = some (.slice A bs.length cap)) (hr : Reads w0 A (ints .u8 bs)) (hl : bs.length ≤ 9223372036854775807) :
    IterSays Try.prog n 161 #[.pointer (some ⟨sb, 0, none⟩)] encB (fun pre x => pre ++ [x] <+: backL bs) (KpB sb A) (FineFr nil2) (fun xs => xs = backL bs) (fun pre => pre <+: backL bs) w0 := by
  intro l J Jx W hW hJ hJx hY h0
  have hbW := hW.cell hb (by simp)
  have hrW : Reads W A (ints .u8 bs) := hr.fr hW (fun _ _ _ _ _ _ h => h)
  have HR := Lib.hid hrW
  have HY := Lib.hid hY
  clear hr hb hrW hY hW
  refine callsIn_of_wp Try.func161 rfl trivial ?_ rfl
  simp only [Try.ntmps161, List.size_toArray, List.length_cons, List.length_nil, Nat.reduceAdd, Nat.reduceSub, Array.replicate_succ, Array.replicate_zero, List.push_toArray, List.append_toArray, List.nil_append, List.cons_append]
  gi_wp2
  gi_loopw [3] (fun i wr => ∃ (k : Nat), k ≤ bs.length ∧ i = .int .i64 ((k : Int) - 1) ∧ J ((backL bs).take (bs.length - k)) wr ∧ wr.cell? ⟨sb, 0, none⟩ = some (.slice A bs.length cap) ∧ Hid (Reads wr A (ints .u8 bs))) (fun i _ => (intOf i + 1).toNat)
  case atStart => exact ⟨bs.length, Nat.le_refl _, by rfl, by simpa using h0, hbW, HR⟩
  case round =>
    obtain ⟨k, hk, rfl, hJk, hbk, HRk⟩ := hrel
    by_cases hp : 0 < k
    · obtain ⟨b, off, hA, hc⟩ := HRk.out.get (k - 1) (by simp; omega)
      rw [ints_get] at hc
      have hg := backL_get bs (bs.length - k) (by omega)
      rw [show bs.length - 1 - (bs.length - k) = k - 1 from by omega] at hg
      have hx : bs.getD (k - 1) 0 = bs[k - 1] := by simp [show k - 1 < bs.length from by omega]
      rw [hx] at hg
      obtain ⟨y, hy1⟩ : ∃ y, bs[k - 1] = y := ⟨_, rfl⟩
      rw [hy1] at hg hc
      have hpre : (backL bs).take (bs.length - k) ++ [((k : Int) - 1, y)] = (backL bs).take (bs.length - (k - 1)) := by
        rw [show bs.length - (k - 1) = (bs.length - k) + 1 from by omega, List.take_add_one, hg]
        simp; omega
      obtain ⟨fn, tmps, assign, body, hy, hRd⟩ := HY.out _ ((k : Int) - 1, y) wr hJk (by rw [hpre]; exact List.take_prefix _ _)
      simp only [encB] at hy
      rw [hpre] at hRd
      have HRd := Lib.hid hRd
      have hidx : ((k : Int) - 1).toNat = k - 1 := by omega
      have hi0 : (0 : Int) ≤ (k : Int) - 1 := by omega
      have hi1 : (k : Int) - 1 < (bs.length : Int) := by omega
      have HA := Lib.hid hA
      have HPRE := Lib.hid hpre
      rw [hA] at hbk
      clear hRd hg hx hy1 hpre hJk hA
      gi_wp2
      refine ⟨fun h => (by simp [Fence.wide] at h), HRd.out.mono ?_⟩
      rintro e W3 (⟨rfl, hJ3, hk3⟩ | ⟨rfl, hJx3⟩)
      · have hb3 : W3.cell? ⟨sb, 0, none⟩ = some (.slice A bs.length cap) := by rw [hk3.1, HA.out]; exact hbk
        have HR3 := Lib.hid (reads_kp HRk.out hk3)
        have HJ3 := Lib.hid hJ3
        have HB3 := Lib.hid hb3
        clear hk3 hJ3 hb3
        gi_wp2
        go_roundw
        case rel => exact ⟨k - 1, by omega, by congr 1; omega, HJ3.out, HB3.out, HR3⟩
        case measure => simp [intOf]; omega
      · have HJ3 := Lib.hid hJx3
        clear hJx3
        gi_wp2
        refine bodyPost_ret (results_none rfl _ _ _) rfl ?_
        exact ⟨⟨_, rfl⟩, .inr ⟨_, List.take_prefix _ _, HJ3.out⟩⟩
    · have hk0 : k = 0 := by omega
      subst hk0
      have HJ := Lib.hid hJk
      clear hJk
      gi_wp2
      go_end0
      refine ⟨⟨_, rfl⟩, .inl ⟨_, rfl, ?_⟩⟩
      have := HJ.out
      rw [Nat.sub_zero, ← backL_len, List.take_length] at this
      exact this

set_option maxHeartbeats 400000 in
theorem backward_any (v : Value) (hv : v.oneCell' = true) (w : World) :
    Calls Try.prog 143 #[v] w fun e w' => e = .returned (.func (.func 161) #[] #[.pointer (some ⟨w.heap.size, 0, none⟩)]) ∧ w' = w.alloc (.cells #[v] 29) := by
  cases v <;> simp [Value.oneCell'] at hv
  all_goals
    go_enter Try.func143, Try.ntmps143
    go_wp2
    go_ret
    exact ⟨rfl, rfl⟩

/-- A memory: its object, and its bytes. T: the object's type. -/
structure IsMem (T : Nat) (w : World) (m g : Nat) (bs : List Int) : Prop where
  obj : Row w m T [.slice (some ⟨g, 0, none⟩) bs.length bs.length]
  bytes : Row w g 5 (ints .u8 bs)
  ne : m ≠ g
  byt : ∀ b ∈ bs, 0 ≤ b ∧ b < 256
  len : bs.length ≤ 1048576

theorem IsMem.fr {T : Nat} {S : Nat → Nat → Prop} {w w' : World} {m g : Nat} {bs : List Int} (h : IsMem T w m g bs) (f : Fr S w w') (hm : ∀ o, ¬ S m o) (hg : ∀ o, ¬ S g o) : IsMem T w' m g bs :=
  ⟨h.obj.fr f hm, h.bytes.fr f hg, h.ne, h.byt, h.len⟩
theorem IsMem.alloc {T : Nat} {w : World} {m g : Nat} {bs : List Int} (h : IsMem T w m g bs) (o : Obj) : IsMem T (w.alloc o) m g bs := h.fr (S := nil2) ((Fr.refl _ _).alloc o) (fun _ h => h) (fun _ h => h)

theorem IsMem.drew {T : Nat} {w : World} {m g : Nat} {bs : List Int} (h : IsMem T w m g bs) : IsMem T w.drew m g bs := ⟨h.obj, h.bytes, h.ne, h.byt, h.len⟩
theorem IsMem.drewN {T : Nat} {w : World} {m g : Nat} {bs : List Int} (h : IsMem T w m g bs) (n : Nat) : IsMem T (w.drewN n) m g bs := ⟨h.obj, h.bytes, h.ne, h.byt, h.len⟩

set_option maxHeartbeats 400000 in
theorem size_any (m g : Nat) (bs : List Int) (w : World) (hm : IsMem 149 w m g bs) :
    Calls Try.prog 102 #[.pointer (some ⟨m, 0, none⟩)] w fun e w' => e = .returned (.int .u64 bs.length) ∧ w = w' := by
  have h := hm.obj.cell 0 (by simp)
  have hl := hm.len
  simp only [List.getElem_cons_zero] at h
  clear hm
  go_enter Try.func102, Try.ntmps102
  go_wp2
  go_ret
  exact ⟨rfl, rfl⟩

set_option maxHeartbeats 400000 in
theorem may8 (w : World) : Calls Try.prog 104 #[.int .i64 8] w fun e w' => e = .returned (.bool true) ∧ w = w' := by
  go_enter Try.func104, Try.ntmps104
  go_wp2
  go_ret
  exact ⟨rfl, rfl⟩

/-- A range of a memory, as a slice; none if it isn't in it. -/
def inA (g len : Nat) (addr k : Int) : Option Addr := if addr ≤ len ∧ k ≤ len - addr then some ⟨g, (if addr = len then 0 else addr.toNat), none⟩ else none
def inL (len : Nat) (addr k : Int) : Nat := if addr ≤ len ∧ k ≤ len - addr then k.toNat else 0
def inC (len : Nat) (addr k : Int) : Nat := if addr ≤ len ∧ k ≤ len - addr then len - addr.toNat else 0
def inE (len : Nat) (addr k : Int) : Int := if addr ≤ len ∧ k ≤ len - addr then 0 else 3

set_option maxRecDepth 100000 in
set_option maxHeartbeats 1000000 in
theorem in_any (m g : Nat) (bs : List Int) (addr k : Int) (w : World) (hm : IsMem 149 w m g bs) (h0 : 0 ≤ addr) (hk0 : 0 ≤ k) :
    Calls Try.prog 105 #[.pointer (some ⟨m, 0, none⟩), .int .u64 addr, .int .u64 k] w fun e w' =>
      e = .returned (.tuple #[.slice (inA g bs.length addr k) (inL bs.length addr k) (inC bs.length addr k), .int .i64 (inE bs.length addr k)]) ∧ w = w' := by
  have h := hm.obj.cell 0 (by simp)
  have hl := hm.len
  simp only [List.getElem_cons_zero] at h
  have HM := Lib.hid hm
  clear hm
  by_cases hin : addr ≤ bs.length ∧ k ≤ bs.length - addr
  · obtain ⟨h1, h2⟩ := hin
    have e1 : inL bs.length addr k = k.toNat := if_pos ⟨h1, h2⟩
    have e2 : inC bs.length addr k = bs.length - addr.toNat := if_pos ⟨h1, h2⟩
    have e3 : inE bs.length addr k = 0 := if_pos ⟨h1, h2⟩
    have e4 : inA g bs.length addr k = some ⟨g, (if addr = bs.length then 0 else addr.toNat), none⟩ := if_pos ⟨h1, h2⟩
    rw [e1, e2, e3, e4]
    clear e1 e2 e3 e4
    have hnn : bs.length ≤ bs.length := Nat.le_refl _
    by_cases heq : addr = bs.length
    · subst heq
      have hk : k = 0 := by omega
      subst hk
      go_enter Try.func105, Try.ntmps105
      go_wp2_with (go_at_call 102; refine (size_any _ _ _ _ HM.out).mono ?_; rintro e w' ⟨rfl, rfl⟩)
      go_ret2
      refine ⟨?_, rfl⟩
      simp
    · have HE := Lib.hid heq
      have hne : ¬ bs.length = addr.toNat := by omega
      clear heq
      go_enter Try.func105, Try.ntmps105
      go_wp2_with (go_at_call 102; refine (size_any _ _ _ _ HM.out).mono ?_; rintro e w' ⟨rfl, rfl⟩)
      go_ret2
      refine ⟨?_, rfl⟩
      try rw [if_neg HE.out]
      rw [show (addr + k).toNat - addr.toNat = k.toNat from by omega]
      rfl
  · have e1 : inL bs.length addr k = 0 := if_neg hin
    have e2 : inC bs.length addr k = 0 := if_neg hin
    have e3 : inE bs.length addr k = 3 := if_neg hin
    have e4 : inA g bs.length addr k = none := if_neg hin
    rw [e1, e2, e3, e4]
    clear e1 e2 e3 e4
    by_cases h1 : (bs.length : Int) < addr
    all_goals
      go_enter Try.func105, Try.ntmps105
      go_wp2_with (go_at_call 102; refine (size_any _ _ _ _ HM.out).mono ?_; rintro e w' ⟨rfl, rfl⟩)
      go_ret2
      exact ⟨rfl, rfl⟩

end Go.Proofs.Ythginpedlfocpaa
