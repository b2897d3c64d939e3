/- Contracts of mem: slices.Clone of bytes, Get of the whole memory. -/
import Derived.Test.YthginpedlfocpaaLJoinsB
import Derived.Lib.LazyBuf
namespace Go.Proofs.Ythginpedlfocpaa
open Go.RowKit Go.Alo Go.Shelf
attribute [local go_sem] max_ints min_ints

theorem info_u8 : ∃ i0, Try.prog.info? 5 = some i0 ∧ i0.zero = some (.int .u8 0) ∧ i0.size = 1 ∧ i0.bytes = 1 := by
  have := info_byte
  cases hq : Try.prog.info? 5 with
  | none => rw [hq] at this; simp at this
  | some i0 => rw [hq] at this; simp at this; exact ⟨i0, rfl, this.1, this.2.1, this.2.2⟩

set_option maxRecDepth 100000 in
set_option maxHeartbeats 1000000 in
theorem clone_any (b off cap : Nat) (xs : List Int) (w : World) (hr : Reads w (some ⟨b, off, none⟩) (ints .u8 xs)) (hp : 0 < xs.length) (hl : xs.length ≤ 1048576) (hc : xs.length ≤ cap) :
    Calls Try.prog 118 #[.slice (some ⟨b, off, none⟩) xs.length cap] w fun e w' => (∃ v, e = .returned v ∧ w'.ownsRow w.heap.size 5 1 v xs.length (ints .u8 xs)) ∧ Fr nil2 w w' := by
  have HR := Lib.hid (hr.fr ((Fr.refl nil2 w).alloc (.cells #[] 5)) (fun _ _ _ _ _ _ h => h))
  have HE0 := Lib.hid (own_empty w 5)
  have hl1 : (ints .u8 xs).length = xs.length := by simp [ints]
  have HL1 := Lib.hid hl1
  obtain ⟨i0, hi, hz0, hz1, hz2⟩ := info_u8
  have b1 : 0 + xs.length ≤ maxLen := by rw [show maxLen = 9223372036854775807 from rfl]; omega
  have b2 : (0 + xs.length) * 1 ≤ 140737488355328 := by omega
  have b3 : w.heap.size ≤ (w.alloc (.cells #[] 5)).heap.size := by rw [World.size_alloc]; omega
  clear hr hl1
  have heq := Go.run_eql_slice_nil (P := Try.prog) w 29 5 (some ⟨b, off, none⟩) xs.length cap Try.underlying29
  go_enter Try.func118, Try.ntmps118
  go_wp2_with ((with_reducible refine gate (N := 7) rfl ?_); refine wpList_append_want _ rfl _ _ 29 rfl w.heap.size 5 i0 (.int .u8 0) 1 Try.underlying29 hi hz0 hz1 hz2 rfl _ 0 [] rfl HE0.out (some ⟨b, off, none⟩) xs.length cap (ints .u8 xs) rfl (fun h => by simp at h) HL1.out HR.out (ints_one _ _) hc b1 b2 b3 ?_; intro v7 w1 ho hg; have HO := Lib.hid ho; have HF := Lib.hid (((Fr.refl nil2 w).alloc (.cells #[] 5)).grown hg (by intro q hq; injection hq with hq; exact Nat.le_of_eq hq)); clear ho hg)
  go_ret
  have := HO.out
  rw [Nat.zero_add, List.nil_append] at this
  exact ⟨⟨_, rfl, this⟩, HF.out⟩

set_option maxRecDepth 100000 in
set_option maxHeartbeats 1000000 in
theorem get_whole (m g : Nat) (bs : List Int) (w : World) (hm : IsMem 149 w m g bs) (hp : 0 < bs.length) :
    Calls Try.prog 60 #[.pointer (some ⟨m, 0, none⟩), .int .u64 0, .int .u64 bs.length] w fun e w' => (∃ v, e = .returned (.tuple #[v, .int .i64 0]) ∧ w'.ownsRow w.heap.size 5 1 v bs.length (ints .u8 bs)) ∧ Fr nil2 w w' := by
  have HM := Lib.hid hm
  have hl := hm.len
  have hbs : Reads w (some ⟨g, 0, none⟩) (ints .u8 bs) := hm.bytes.reads'
  have HB := Lib.hid hbs
  clear hm hbs
  have hin := in_any m g bs 0 bs.length w HM.out (by omega) (by omega)
  have e1 : inL bs.length 0 bs.length = bs.length := by unfold inL; rw [if_pos (by omega)]; omega
  have e2 : inC bs.length 0 bs.length = bs.length := by unfold inC; rw [if_pos (by omega)]; rfl
  have e3 : inE bs.length 0 bs.length = 0 := by unfold inE; rw [if_pos (by omega)]
  have e4 : inA g bs.length 0 bs.length = some ⟨g, 0, none⟩ := by unfold inA; rw [if_pos (by omega), if_neg (by omega)]; rfl
  rw [e1, e2, e3, e4] at hin
  have HIN := Lib.hid hin
  clear hin e1 e2 e3 e4
  go_enter Try.func60, Try.ntmps60
  go_wp2_with fail
  refine HIN.out.mono ?_
  rintro e w1 ⟨rfl, rfl⟩
  go_wp2_with fail
  refine (clone_any g 0 bs.length bs w HB.out hp hl (Nat.le_refl _)).mono ?_
  rintro e w2 ⟨⟨v, rfl, ho⟩, hf⟩
  have HO := Lib.hid ho
  have HF := Lib.hid hf
  clear ho hf
  go_wp2
  go_ret2
  exact ⟨⟨_, rfl, HO.out⟩, HF.out⟩

end Go.Proofs.Ythginpedlfocpaa
