/- Contracts of mem.New and of the walk along a chain (list.from). -/
import Derived.Test.YthginpedlfocpaaMemC
import Derived.Sort.LoopGhostIn
namespace Go.Proofs.Ythginpedlfocpaa
open Go.RowKit Go.Alo Go.Shelf
attribute [local go_sem] Oper.semAt_some

theorem info_byte : (Try.prog.info? 5).map (fun i => (i.zero, i.size, i.bytes)) = some (some (.int .u8 0), 1, 1) := by kernel_rfl

theorem madeBytes (n : Nat) : madeCells (Value.int .u8 0).cells n = ((ints .u8 (List.replicate n 0)).toArray : Array Value) := by
  apply Array.ext
  · simp [madeCells]
  · intro i h1 h2
    simp [madeCells, Value.cells, ints, Nat.mod_one]

theorem run_make_bytes (W : World) (n : Nat) (hn : n ≤ 1048576) :
    (Instr.makeSlice 29 (.int .u64 n) (.int .u64 n)).run Try.prog W = .ok (.slice (some ⟨W.heap.size, 0, none⟩) n n) (W.alloc (.cells (ints .u8 (List.replicate n 0)).toArray 5)) := by
  obtain ⟨i0, hi, hz0, hz1, hz2⟩ := info_parts info_byte
  have := run_make (P := Try.prog) W 29 5 i0 (.int .u8 0) Try.underlying29 hi hz0 .u64 .u64 n n (by omega) (by omega) (by rw [hz2]; omega) (by omega)
  rw [hz1, Nat.mul_one, Int.toNat_natCast, madeBytes] at this
  exact this

/-- A new memory, its object behind its bytes. -/
def newMem (T : Nat) (n : Nat) (w : World) : World := (w.alloc (.cells (ints .u8 (List.replicate n 0)).toArray 5)).alloc (.cells #[.slice (some ⟨w.heap.size, 0, none⟩) n n] T)

theorem newMem_is (T n : Nat) (w : World) (hn : n ≤ 1048576) : IsMem T (newMem T n w) (w.heap.size + 1) w.heap.size (List.replicate n 0) := by
  have h1 := (Row.new w 5 (ints .u8 (List.replicate n 0)))
  have h2 := Row.new (w.alloc (.cells (ints .u8 (List.replicate n 0)).toArray 5)) T [.slice (some ⟨w.heap.size, 0, none⟩) n n]
  rw [World.size_alloc] at h2
  refine ⟨by simpa [newMem] using h2, h1.alloc _, by omega, ?_, by simpa using hn⟩
  intro b hb
  rw [List.eq_of_mem_replicate hb]; omega

theorem newMem_fr (T n : Nat) (w : World) (S : Nat → Nat → Prop) : Fr S w (newMem T n w) := ((Fr.refl _ _).alloc _).alloc _

set_option maxHeartbeats 400000 in
theorem new_any (n : Nat) (w : World) (h0 : 0 < n) (h1 : n ≤ 1048576) (h2 : n % 1024 = 0) :
    Calls Try.prog 27 #[.int .u64 n] w fun e w' => e = .returned (.tuple #[.pointer (some ⟨w.heap.size + 1, 0, none⟩), .int .i64 0]) ∧ w' = newMem 149 n w := by
  have hmk := run_make_bytes
  have h2' : ¬ (0 : Int) < (n : Int) % 1024 := by omega
  have h3' : ((n : Int) == 0) = false := by simp; omega
  have h4' : decide ((1048576 : Int) < (n : Int)) = false := by simp; omega
  go_enter Try.func27, Try.ntmps27
  go_wp2
  go_ret2
  refine ⟨rfl, ?_⟩
  simp [newMem, ints]

/-- Where a chain is after k links. -/
def hd (bs : List Int) (h : Int) : Nat → Int
  | 0 => h
  | k + 1 => ldF bs (hd bs h k)

/-- What the walk along a chain hands on. -/
def Sq (bs : List Int) (h : Int) (xs : List (Int × Bool)) : Prop := ∀ k x, xs[k]? = some x → hd bs h k ≠ 0 ∧ x = (hd bs h k, decide (ldE bs (hd bs h k) = 0))

def encF (x : Int × Bool) : Array Value := #[.int .u64 x.1, .bool x.2]

theorem Sq.nil (bs : List Int) (h : Int) : Sq bs h [] := by intro k x hx; simp at hx
theorem Sq.snoc {bs : List Int} {h : Int} {xs : List (Int × Bool)} (hs : Sq bs h xs) (h0 : hd bs h xs.length ≠ 0) : Sq bs h (xs ++ [(hd bs h xs.length, decide (ldE bs (hd bs h xs.length) = 0))]) := by
  intro k x hk
  rw [List.getElem?_append] at hk
  split at hk
  · exact hs k x hk
  · rename_i hlt
    have hk0 : k - xs.length = 0 := by
      rcases Nat.eq_zero_or_pos (k - xs.length) with h | h
      · exact h
      · rw [List.getElem?_eq_none (by rw [List.length_singleton]; omega)] at hk; exact absurd hk (by simp)
    have : k = xs.length := by omega
    subst this
    rw [hk0] at hk
    simp only [List.getElem?_cons_zero, Option.some.injEq] at hk
    exact ⟨h0, hk.symm⟩

theorem pow256_mono {a b : Nat} (h : a ≤ b) : (256 : Int) ^ a ≤ 256 ^ b := by
  obtain ⟨c, rfl⟩ : ∃ c, b = a + c := ⟨b - a, by omega⟩
  induction c with
  | zero => exact Int.le_refl _
  | succ c ih =>
    have := ih (by omega)
    rw [← Nat.add_assoc, Int.pow_succ]
    have h0 : (0 : Int) ≤ 256 ^ (a + c) := Int.le_of_lt (Int.pow_pos (by decide))
    omega

theorem ldF_bd (bs : List Int) (a : Int) (h0 : 0 ≤ a) (hb : ∀ b ∈ bs, 0 ≤ b ∧ b < 256) : 0 ≤ ldF bs a ∧ ldF bs a < 18446744073709551616 := by
  have h := ldl_bd (sub8 bs a) (sub8_byt bs a hb)
  have hl := (sub8_len bs a h0).2
  have : (256 : Int) ^ (sub8 bs a).length ≤ 256 ^ 8 := pow256_mono hl
  have e8 : (256 : Int) ^ 8 = 18446744073709551616 := by decide
  unfold ldF
  omega

theorem hd_bd (bs : List Int) (h : Int) (h0 : 0 ≤ h) (h1 : h < 18446744073709551616) (hb : ∀ b ∈ bs, 0 ≤ b ∧ b < 256) (k : Nat) : 0 ≤ hd bs h k ∧ hd bs h k < 18446744073709551616 := by
  induction k with
  | zero => exact ⟨h0, h1⟩
  | succ k ih => exact ldF_bd bs _ ih.1 hb

/-- What the walk along a chain asks of the rounds' word. -/
def FineF (m g mb hb : Nat) (bs : List Int) (M : Nat) (J : List (Int × Bool) → World → Prop) : Prop :=
  FineFr (fun k _ => k = hb) J ∧ ∀ pre W, J pre W → pre.length ≤ M + 1 ∧ IsMem 149 W m g bs ∧ W.cell? ⟨mb, 0, none⟩ = some (.pointer (some ⟨m, 0, none⟩))

set_option maxRecDepth 100000 in
set_option maxHeartbeats 2000000 in
theorem from_iter (n m g mb hb M : Nat) (bs : List Int) (h : Int) (h0 : 0 ≤ h) (h1 : h < 18446744073709551616) (w0 : World) (hc0 : Cel w0 hb 0 (.int .u64 h)) (hne : mb ≠ hb) (hm0 : m ≠ hb) (hg0 : g ≠ hb) :
    IterSays Try.prog n 144 #[.pointer (some ⟨hb, 0, none⟩), .pointer (some ⟨mb, 0, none⟩)] encF (fun pre x => Sq bs h (pre ++ [x])) (fun W W' => ∀ v, Cel W hb 0 v → Cel W' hb 0 v) (FineF m g mb hb bs M)
      (fun xs => Sq bs h xs ∧ (hd bs h xs.length = 0 ∨ ∃ pre x, xs = pre ++ [x] ∧ x.2 = false)) (fun pre => Sq bs h pre) w0 := by
  intro l J Jx W hW hJ hJx hY hJ0
  have hcW := hc0.fr hW (fun h => h)
  have HY := Lib.hid hY
  have HJ := Lib.hid hJ
  clear hc0 hW hY hJ
  refine callsIn_of_wp Try.func144 rfl trivial ?_ rfl
  simp only [Try.ntmps144, List.size_toArray, List.length_cons, List.length_nil, Nat.reduceAdd, Nat.reduceSub, Array.replicate_succ, Array.replicate_zero, List.push_toArray, List.append_toArray, List.nil_append, List.cons_append]
  gi_wp2
  gi_loopg [] (M + 2) (fun kq wr => ∃ xs, Hid (Sq bs h xs) ∧ Hid (J xs wr) ∧ Hid (Cel wr hb 0 (.int .u64 (hd bs h xs.length))) ∧ kq + xs.length = M + 2)
  case atStart => exact ⟨[], Sq.nil _ _, hJ0, hcW, rfl⟩
  case round =>
    obtain ⟨xs, HS, HJx, HC, hkq⟩ := hrel
    obtain ⟨hlen, hmem, hmb⟩ := HJ.out.2 xs wr HJx.out
    obtain ⟨hd0, hd1⟩ := hd_bd bs h h0 h1 hmem.byt xs.length
    obtain ⟨a, ha⟩ : ∃ a, hd bs h xs.length = a := ⟨_, rfl⟩
    have hcell := HC.out.1
    rw [ha] at hcell hd0 hd1
    have HMEM := Lib.hid hmem
    have HA := Lib.hid ha
    clear hmem ha
    by_cases hz : a = 0
    · have hz' : (a != 0) = false := by simp [hz]
      have HZ := Lib.hid hz
      clear hz
      gi_wp2
      go_end0
      exact ⟨⟨_, rfl⟩, .inl ⟨xs, ⟨HS.out, .inl (by rw [HA.out, HZ.out])⟩, HJx.out⟩⟩
    · have hz' : (a != 0) = true := by simp [hz]
      have HZ := Lib.hid hz
      clear hz
      gi_wp2_with fail
      refine ⟨trivial, fun h => (by simp [Fence.wide] at h), (callsIn_wide.2 (load_any m g bs a _ HMEM.out hd0 hd1)).mono ?_⟩
      rintro e W2 ⟨rfl, hf2⟩
      have hcell2 : W2.cell? ⟨hb, 0, none⟩ = some (.int .u64 a) := hf2.cell hcell (fun h => h)
      have HJ2 := Lib.hid (HJ.out.1 xs wr W2 HJx.out (hf2.mono (fun _ _ _ h => h.elim)))
      have HC2 := Lib.hid (HC.out.fr hf2 (fun h => h))
      clear hf2
      have hsn := HS.out.snoc (by rw [HA.out]; exact HZ.out)
      rw [HA.out] at hsn
      obtain ⟨fn, tmps, assign, body, hy, hRd⟩ := HY.out xs (a, decide (ldE bs a = 0)) W2 HJ2.out hsn
      simp only [encF] at hy
      have HRd := Lib.hid hRd
      have HSN := Lib.hid hsn
      clear hRd hsn
      by_cases hok : ldE bs a = 0
      · have hok1 : (ldE bs a == 0) = true := by simp [hok]
        have hok2 : decide (ldE bs a = 0) = true := by simp [hok]
        rw [hok2] at hy
        have HOK := Lib.hid hok
        clear hok
        gi_wp2
        refine ⟨fun h => (by simp [Fence.wide] at h), HRd.out.mono ?_⟩
        rintro e W3 (⟨rfl, hJ3, hk3⟩ | ⟨rfl, hJx3⟩)
        · have hc3 := hk3 _ HC2.out
          have HJ3 := Lib.hid hJ3
          have HC3 := Lib.hid hc3
          obtain ⟨hw1, hw2⟩ := hc3
          rw [HA.out] at hw1
          clear hk3 hJ3
          obtain ⟨hlen3, -, -⟩ := HJ.out.2 _ W3 HJ3.out
          rw [List.length_append, List.length_singleton] at hlen3
          gi_wp2
          gi_roundg (M + 2 - (xs.length + 1))
          case measure => omega
          case rel =>
            refine ⟨xs ++ [(a, decide (ldE bs a = 0))], HSN, Lib.hid (HJ.out.1 _ W3 _ HJ3.out ((Fr.refl _ _).setCell hb 0 (fun _ => rfl) _)), ?_, by rw [List.length_append, List.length_singleton]; omega⟩
            rw [List.length_append, List.length_singleton]
            show Hid (Cel _ hb 0 (.int .u64 (ldF bs (hd bs h xs.length))))
            rw [HA.out]
            exact Lib.hid (HC3.out.set _)
        · have HJ3 := Lib.hid hJx3
          clear hJx3
          gi_wp2
          refine bodyPost_ret (results_none rfl _ _ _) rfl ?_
          exact ⟨⟨_, rfl⟩, .inr ⟨_, HSN.out, HJ3.out⟩⟩
      · have hok1 : (ldE bs a == 0) = false := by simp [hok]
        have hok2 : decide (ldE bs a = 0) = false := by simp [hok]
        have hok3 : (ldE bs a != 0) = true := by simp [hok]
        rw [hok2] at hy
        have HOK := Lib.hid hok2
        clear hok
        gi_wp2
        refine ⟨fun h => (by simp [Fence.wide] at h), HRd.out.mono ?_⟩
        rintro e W3 (⟨rfl, hJ3, hk3⟩ | ⟨rfl, hJx3⟩)
        · have HJ3 := Lib.hid hJ3
          clear hk3 hJ3
          gi_wp2
          refine bodyPost_ret (results_none rfl _ _ _) rfl ?_
          exact ⟨⟨_, rfl⟩, .inl ⟨_, ⟨HSN.out, .inr ⟨xs, _, rfl, HOK.out⟩⟩, HJ3.out⟩⟩
        · have HJ3 := Lib.hid hJx3
          clear hJx3
          gi_wp2
          refine bodyPost_ret (results_none rfl _ _ _) rfl ?_
          exact ⟨⟨_, rfl⟩, .inr ⟨_, HSN.out, HJ3.out⟩⟩

end Go.Proofs.Ythginpedlfocpaa
