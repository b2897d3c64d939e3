/- Contracts of class: sizes, Size, Slices, Blocks. -/
import Derived.Test.YthginpedlfocpaaCalcB
import Derived.BigQuiet
namespace Go.Proofs.Ythginpedlfocpaa
open Go.RowKit Go.Alo
attribute [local go_sem] max_ints min_ints

/-- The classes' sizes. -/
def SZ : List Int := [16, 32, 48, 64, 96, 128, 192, 256, 384, 512, 768, 1024]

abbrev SZv : Array Value := #[.int .u64 16, .int .u64 32, .int .u64 48, .int .u64 64, .int .u64 96, .int .u64 128, .int .u64 192, .int .u64 256, .int .u64 384, .int .u64 512, .int .u64 768, .int .u64 1024]
theorem SZ_eq : (ints .u64 SZ).toArray = SZv := rfl

set_option maxRecDepth 100000 in
set_option maxHeartbeats 1000000 in
theorem sizes_any (w : World) : Calls Try.prog 113 #[] w fun e w' => e = .returned (.agg #[.int .u64 16, .int .u64 32, .int .u64 48, .int .u64 64, .int .u64 96, .int .u64 128, .int .u64 192, .int .u64 256, .int .u64 384, .int .u64 512, .int .u64 768, .int .u64 1024]) ∧ Below w.heap.size w w' := by
  go_enter Try.func113, Try.ntmps113
  go_wp2
  exact bodyPost_ret (v := .agg #[.int .u64 16, .int .u64 32, .int .u64 48, .int .u64 64, .int .u64 96, .int .u64 128, .int .u64 192, .int .u64 256, .int .u64 384, .int .u64 512, .int .u64 768, .int .u64 1024]) (by simp [results, Try.results113, go_sem]) rfl ⟨rfl, (Below.refl _ _).alloc (Nat.le_refl _) _⟩

set_option maxRecDepth 100000 in
set_option maxHeartbeats 1000000 in
theorem rsizes_any (w : World) : Calls Try.prog 49 #[] w fun e w' => e = .returned (.slice (some ⟨w.heap.size, 0, none⟩) 12 12) ∧ w' = w.alloc (.cells (ints .u64 SZ).toArray 22) := by
  go_enter Try.func49, Try.ntmps49
  go_wp2
  go_ret
  exact ⟨rfl, rfl⟩

/-- A class's size. -/
def csizeF (c : Int) : Int × Int := if 0 ≤ c ∧ c < 12 then (SZ.getD c.toNat 0, 0) else (0, 2)

set_option maxRecDepth 100000 in
set_option maxHeartbeats 1000000 in
theorem csize_any (c : Int) (w : World) : Calls Try.prog 44 #[.int .i64 c] w fun e w' => e = .returned (.tuple #[.int .u64 (csizeF c).1, .int .i64 (csizeF c).2]) ∧ Below w.heap.size w w' := by
  go_enter Try.func44, Try.ntmps44
  go_wp2_with fail
  refine (sizes_any w).mono ?_
  rintro e w1 ⟨rfl, hb1⟩
  have HB := Lib.hid hb1
  clear hb1
  by_cases h : 0 ≤ c ∧ c < 12
  · obtain ⟨h0, h1⟩ := h
    obtain ⟨k, rfl⟩ : ∃ k : Nat, c = k := ⟨c.toNat, by omega⟩
    have hk : k < 12 := by omega
    have hrow := Row.new w1 163 (ints .u64 SZ)
    have hc := hrow.cell k (by simpa [SZ] using hk)
    rw [ints_get] at hc
    rw [SZ_eq] at hc
    have hs : csizeF k = (SZ[k]'(by simpa [SZ] using hk), 0) := by unfold csizeF; rw [if_pos ⟨h0, h1⟩]; simp [SZ, hk]
    obtain ⟨z, hz⟩ : ∃ z, SZ[k]'(by simpa [SZ] using hk) = z := ⟨_, rfl⟩
    rw [hz] at hc hs
    have HS := Lib.hid hs
    clear hs hz hrow
    go_wp2
    go_ret2
    exact ⟨by rw [HS.out]; rfl, (HB.out).trans ((((Below.refl _ _).alloc (Nat.le_refl _) _)).mono HB.out.size)⟩
  · have hs : csizeF c = (0, 2) := if_neg h
    have HS := Lib.hid hs
    by_cases h0 : c < 0
    all_goals
      have h1 : c < 0 ∨ 12 ≤ c := by omega
      clear hs h
      go_wp2
      go_ret2
      exact ⟨by rw [HS.out]; rfl, (HB.out).trans ((((Below.refl _ _).alloc (Nat.le_refl _) _)).mono HB.out.size)⟩

/-- How many slices a page of blocks of so many bytes has. -/
def slN (n : Int) : Int := if n ≤ 256 then 1 else if n ≤ 512 then 2 else 4
def cslF (c : Int) : Int × Int := if 0 ≤ c ∧ c < 12 then (slN (SZ.getD c.toNat 0), 0) else (0, 2)
def cblF (c : Int) : Int × Int := if 0 ≤ c ∧ c < 12 then (slN (SZ.getD c.toNat 0) * 1024 / SZ.getD c.toNat 0, 0) else (0, 2)

theorem SZ_bd (k : Nat) (h : k < 12) : 16 ≤ SZ.getD k 0 ∧ SZ.getD k 0 ≤ 1024 := by
  have : ∀ i : Fin 12, 16 ≤ SZ.getD i.val 0 ∧ SZ.getD i.val 0 ≤ 1024 := by decide
  exact this ⟨k, h⟩

theorem slN_bd (z : Int) : slN z = 1 ∨ slN z = 2 ∨ slN z = 4 := by unfold slN; split; exact .inl rfl; split; exact .inr (.inl rfl); exact .inr (.inr rfl)

/-- A class that there is: its size, and all that follows. -/
theorem class_in {c : Int} (h0 : 0 ≤ c) (h1 : c < 12) : ∃ z : Int, 16 ≤ z ∧ z ≤ 1024 ∧ SZ.getD c.toNat 0 = z ∧ csizeF c = (z, 0) ∧ cslF c = (slN z, 0) ∧ cblF c = (slN z * 1024 / z, 0) := by
  have := SZ_bd c.toNat (by omega)
  refine ⟨_, this.1, this.2, rfl, ?_, ?_, ?_⟩
  · unfold csizeF; rw [if_pos ⟨h0, h1⟩]
  · unfold cslF; rw [if_pos ⟨h0, h1⟩]
  · unfold cblF; rw [if_pos ⟨h0, h1⟩]
theorem class_out {c : Int} (h : ¬ (0 ≤ c ∧ c < 12)) : csizeF c = (0, 2) ∧ cslF c = (0, 2) ∧ cblF c = (0, 2) := by
  refine ⟨?_, ?_, ?_⟩
  · unfold csizeF; rw [if_neg h]
  · unfold cslF; rw [if_neg h]
  · unfold cblF; rw [if_neg h]

set_option maxRecDepth 100000 in
set_option maxHeartbeats 1000000 in
theorem cslices_any (c : Int) (w : World) : Calls Try.prog 45 #[.int .i64 c] w fun e w' => e = .returned (.tuple #[.int .i64 (cslF c).1, .int .i64 (cslF c).2]) ∧ Below w.heap.size w w' := by
  have hcs := csize_any c w
  by_cases h : 0 ≤ c ∧ c < 12
  · obtain ⟨z, hz0, hz1, -, hs1, hs2, -⟩ := class_in h.1 h.2
    rw [hs1] at hcs
    rw [hs2]
    have HCS := Lib.hid hcs
    clear hcs hs1 hs2
    have hsl : Hid (slN z = if z ≤ 256 then 1 else if z ≤ 512 then 2 else 4) := Lib.hid rfl
    obtain ⟨sl, hsl'⟩ : ∃ sl, slN z = sl := ⟨_, rfl⟩
    rw [hsl'] at hsl ⊢
    clear hsl'
    by_cases h1 : z ≤ 256
    · go_enter Try.func45, Try.ntmps45
      go_wp2_with fail
      refine HCS.out.mono ?_
      rintro e w1 ⟨rfl, hb1⟩
      have HB := Lib.hid hb1
      clear hb1
      go_wp2
      go_ret2
      exact ⟨by rw [hsl.out, if_pos h1]; rfl, HB.out⟩
    · by_cases h2 : z ≤ 512
      all_goals
        go_enter Try.func45, Try.ntmps45
        go_wp2_with fail
        refine HCS.out.mono ?_
        rintro e w1 ⟨rfl, hb1⟩
        have HB := Lib.hid hb1
        clear hb1
        go_wp2
        go_ret2
        exact ⟨by rw [hsl.out, if_neg (by omega)]; first | (rw [if_pos h2]; rfl) | (rw [if_neg (by omega)]; rfl), HB.out⟩
  · obtain ⟨hs1, hs2, -⟩ := class_out h
    rw [hs1] at hcs
    rw [hs2]
    have HCS := Lib.hid hcs
    clear hcs hs1 hs2 h
    go_enter Try.func45, Try.ntmps45
    go_wp2_with fail
    refine HCS.out.mono ?_
    rintro e w1 ⟨rfl, hb1⟩
    have HB := Lib.hid hb1
    clear hb1
    go_wp2
    go_ret2
    exact ⟨rfl, HB.out⟩

set_option maxRecDepth 100000 in
set_option maxHeartbeats 1000000 in
theorem cblocks_any (c : Int) (w : World) : Calls Try.prog 46 #[.int .i64 c] w fun e w' => e = .returned (.tuple #[.int .i64 (cblF c).1, .int .i64 (cblF c).2]) ∧ Below w.heap.size w w' := by
  have hcs := csize_any c w
  have hcl := fun W => cslices_any c W
  by_cases h : 0 ≤ c ∧ c < 12
  · obtain ⟨z, hz0, hz1, -, hs1, hs2, hs3⟩ := class_in h.1 h.2
    rw [hs1] at hcs
    simp only [hs2] at hcl
    rw [hs3]
    have HCS := Lib.hid hcs
    have HCL := Lib.hid hcl
    have hsb := slN_bd z
    obtain ⟨sl, hsl'⟩ : ∃ sl, slN z = sl := ⟨_, rfl⟩
    rw [hsl'] at hsb HCL ⊢
    have hsb0 : 1 ≤ sl := by omega
    have hsb1 : sl ≤ 4 := by omega
    clear hcs hs1 hs2 hs3 hcl hsl' hsb
    have hz' : (z == 0) = false := by simp; omega
    go_enter Try.func46, Try.ntmps46
    go_wp2_with fail
    refine HCS.out.mono ?_
    rintro e w1 ⟨rfl, hb1⟩
    have HB := Lib.hid hb1
    clear hb1
    go_wp2_with fail
    refine (HCL.out w1).mono ?_
    rintro e w2 ⟨rfl, hb2⟩
    have HB2 := Lib.hid (HB.out.trans (hb2.mono HB.out.size))
    clear hb2 HB
    go_wp2
    go_ret2
    exact ⟨rfl, HB2.out⟩
  · obtain ⟨hs1, hs2, hs3⟩ := class_out h
    rw [hs1] at hcs
    rw [hs3]
    have HCS := Lib.hid hcs
    clear hcs hs1 hs2 hs3 h hcl
    go_enter Try.func46, Try.ntmps46
    go_wp2_with fail
    refine HCS.out.mono ?_
    rintro e w1 ⟨rfl, hb1⟩
    have HB := Lib.hid hb1
    clear hb1
    go_wp2
    go_ret2
    exact ⟨rfl, HB.out⟩

end Go.Proofs.Ythginpedlfocpaa
