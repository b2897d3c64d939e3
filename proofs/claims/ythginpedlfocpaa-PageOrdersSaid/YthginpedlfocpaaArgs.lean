/- What comes in: slices as the claims open them. -/
import Derived.Test.YthginpedlfocpaaGround
import Derived.Below
import Derived.OwnWalk
namespace Go.Alo
open Go.RowKit

theorem cell_none {w : World} {x : Addr} {v : Value} (h : w.cell? x = some v) : x = ⟨x.block, x.off, none⟩ := by
  obtain ⟨b, o, t⟩ := x
  cases t with
  | none => rfl
  | some t =>
    unfold World.cell? at h
    split at h <;> simp at h

theorem reads_row {k : IntKind} {w : World} {a : Option Addr} {len cap : Nat} {zs : List Int}
    (h : (a = none ∧ len = 0 ∧ cap = 0 ∧ zs = []) ∨ ∃ x, a = some x ∧ len ≤ cap ∧ cap ≤ maxLen ∧ zs.length = cap ∧ (∀ i, i < zs.length → w.cell? (x.add i) = some (.int k (zs.getD i 0))) ∧ ∀ n ∈ zs, (Lit.int k n).wf = true) :
    Reads w a (ints k (zs.take len)) ∧ (zs.take len).length = len ∧ (∀ n ∈ zs.take len, (Lit.int k n).wf = true) ∧ len ≤ maxLen := by
  rcases h with ⟨rfl, rfl, rfl, rfl⟩ | ⟨x, rfl, h1, h2, h3, h4, h5⟩
  · exact ⟨.inl rfl, rfl, by simp, by decide⟩
  · have hl : (zs.take len).length = len := by simp; omega
    refine ⟨?_, hl, fun n hn => h5 n (List.mem_of_mem_take hn), by omega⟩
    by_cases h0 : zs.length = 0
    · have : zs = [] := List.eq_nil_of_length_eq_zero h0
      subst this
      exact .inl (by simp [ints])
    · have hx : x = ⟨x.block, x.off, none⟩ := by
        have h6 := h4 0 (by omega)
        rw [show x.add 0 = x from rfl] at h6
        exact cell_none h6
      obtain ⟨b, o, t⟩ := x
      obtain rfl : t = none := by simpa using hx
      refine .inr ⟨b, o, rfl, fun i v hi => ?_⟩
      have hlt := (List.getElem?_eq_some_iff.1 hi).1
      have hil : i < len := by rw [← hl]; simpa [ints] using hlt
      have := h4 i (by omega)
      rw [Addr.add_lit] at this
      rw [this]
      simp only [ints, List.getElem?_map, List.getElem?_take, if_pos hil] at hi
      rw [List.getElem?_eq_getElem (by omega : i < zs.length)] at hi
      simp only [Option.map_some, Option.some.injEq] at hi
      rw [← hi, List.getD_eq_getElem?_getD, List.getElem?_eq_getElem (by omega : i < zs.length)]
      rfl

theorem reads_bools {w : World} {a : Option Addr} {len cap : Nat}
    (h : (a = none ∧ len = 0 ∧ cap = 0) ∨ ∃ (x : Addr) (B : Nat → Bool), a = some x ∧ len ≤ cap ∧ cap ≤ maxLen ∧ ∀ i, i < cap → w.cell? (x.add i) = some (.bool (B i))) :
    ∃ bl : List Bool, Reads w a (bl.map Value.bool) ∧ bl.length = len ∧ len ≤ maxLen := by
  rcases h with ⟨rfl, rfl, rfl⟩ | ⟨x, B, rfl, h1, h2, h4⟩
  · exact ⟨[], .inl rfl, rfl, by decide⟩
  · refine ⟨(List.range len).map B, ?_, by simp, by omega⟩
    by_cases h0 : len = 0
    · subst h0
      exact .inl rfl
    · have hx : x = ⟨x.block, x.off, none⟩ := by
        have h6 := h4 0 (by omega)
        rw [show x.add 0 = x from rfl] at h6
        exact cell_none h6
      obtain ⟨b, o, t⟩ := x
      obtain rfl : t = none := by simpa using hx
      refine .inr ⟨b, o, rfl, fun i v hi => ?_⟩
      have hil : i < len := by have := (List.getElem?_eq_some_iff.1 hi).1; simpa using this
      have := h4 i (by omega)
      rw [Addr.add_lit] at this
      rw [this]
      simp only [List.getElem?_map, List.getElem?_range hil, Option.map_some, Option.some.injEq] at hi
      rw [← hi]

end Go.Alo
