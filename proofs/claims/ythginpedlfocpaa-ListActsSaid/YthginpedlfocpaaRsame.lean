/- Contract of the reference's Same: the same bytes. -/
import Derived.Test.YthginpedlfocpaaRmemA
import Derived.Laws.BytesArg
namespace Go.Proofs.Ythginpedlfocpaa
open Go.RowKit Go.Alo Go.Shelf
attribute [local go_sem] max_ints min_ints

theorem reads_cells {w : World} {b off : Nat} {k : IntKind} {xs : List Int} (h : Reads w (some ⟨b, off, none⟩) (ints k xs)) (i : Nat) (hi : i < xs.length) : w.cell? ⟨b, off + i, none⟩ = some (.int k (xs.getD i 0)) := by
  obtain ⟨b', off', e, hc⟩ := h.get i (by simpa using hi)
  injection e with e
  injection e with e1 e2
  subst e1 e2
  rw [hc, ints_get]
  simp [hi]

set_option maxHeartbeats 1000000 in
theorem rsame_any (b1 o1 c1 b2 o2 c2 : Nat) (xs : List Int) (w : World) (h1 : Reads w (some ⟨b1, o1, none⟩) (ints .u8 xs)) (h2 : Reads w (some ⟨b2, o2, none⟩) (ints .u8 xs)) :
    Calls Try.prog 61 #[.slice (some ⟨b1, o1, none⟩) xs.length c1, .slice (some ⟨b2, o2, none⟩) xs.length c2] w fun e w' => e = .returned (.bool true) ∧ w = w' := by
  have e1 := run_convert_bytes_arg (P := Try.prog) w 29 5 Try.underlying29 Try.underlying5 b1 o1 xs.length c1 xs rfl (fun i hi => reads_cells h1 i hi) 9 Try.underlying9
  have e2 := run_convert_bytes_arg (P := Try.prog) w 29 5 Try.underlying29 Try.underlying5 b2 o2 xs.length c2 xs rfl (fun i hi => reads_cells h2 i hi) 9 Try.underlying9
  obtain ⟨s, hs⟩ : ∃ s, strOfNums xs = s := ⟨_, rfl⟩
  obtain ⟨n, hn⟩ : ∃ n, xs.length = n := ⟨_, rfl⟩
  rw [hs, hn] at e1 e2
  rw [hn]
  clear h1 h2 hs hn
  go_enter Try.func61, Try.ntmps61
  go_wp2
  go_ret
  exact ⟨rfl, rfl⟩

end Go.Proofs.Ythginpedlfocpaa
