/- ListActs: what comes in, opened. -/
import Derived.Test.YthginpedlfocpaaLActsB
import Derived.Test.YthginpedlfocpaaArgs
import Derived.Deep.Slices
import Derived.Deep.Fields
import Derived.ChangeSame
import Derived.OpenShut
namespace Go.Proofs.Ythginpedlfocpaa
open Go.RowKit Go.Alo Go.ChangeShapes Go.WideShapes Go.Deep

section
variable {H : Type} {enc : TypeId × Value → H} {W : World} {spare : Nat → Bool} {held : Bool}

theorem cells_act : Try.prog.cellsOf 74 = 5 := by kernel_rfl
theorem cells_u64 : Try.prog.cellsOf 22 = 1 := by kernel_rfl
theorem cells_u64s : Try.prog.cellsOf 33 = 1 := by kernel_rfl
theorem cells_int : Try.prog.cellsOf 3 = 1 := by kernel_rfl

set_option maxRecDepth 100000 in
theorem open_act {fuel : Nat} {cs : List Value} {x : DataW H × List MemPlace} (hl : cs.length = 5) (h : DataW.trod enc Try.prog W 0 spare held fuel 74 cs = some x) (hsp : ∀ b, spare b = true) :
    ∃ a : LAct, cs = a.vals ∧ a.ok W := by
  obtain ⟨ys, n, hn, hy, hlen, hyl, hf⟩ := DataW.trod_struct Try.underlying74 h
  match cs, hl with
  | [c0, c1, c2, c3, c4], _ =>
    have h0 := hf 0 _ rfl
    have h1 := hf 1 _ rfl
    have h2 := hf 2 _ rfl
    have h3 := hf 3 _ rfl
    have h4 := hf 4 _ rfl
    have hys : ys.length = 5 := hyl
    match ys, hys with
    | [y0, y1, y2, y3, y4], _ =>
      obtain ⟨k0, e0, -, w0⟩ := DataW.trod_int Try.underlying3 h0
      obtain ⟨k1, e1, -, w1⟩ := DataW.trod_int Try.underlying3 h1
      obtain ⟨k2, e2, -, w2⟩ := DataW.trod_int Try.underlying3 h2
      obtain ⟨k4, e4, -, w4⟩ := DataW.trod_int Try.underlying22 h4
      injection e0 with e0
      injection e1 with e1
      injection e2 with e2
      injection e4 with e4
      subst e0 e1 e2 e4
      have b4 := Go.bounds_u64 w4
      rcases open_ints Try.underlying33 Try.underlying22 cells_u64 h3 with ⟨hcs, _⟩ | ⟨a, l, c, zs, hcs, _, hlc, hm, hz, _, hcell, hwz⟩
      · injection hcs with hcs
        subst hcs
        exact ⟨⟨k0, k1, k2, none, 0, [], k4⟩, rfl, ⟨.inl rfl, by simp, b4.1, by show k4 < _; omega, by simp⟩⟩
      · injection hcs with hcs
        subst hcs
        rw [if_pos (hsp _)] at hz
        obtain ⟨r1, r2, r3, r4⟩ := reads_row (k := .u64) (w := W) (a := some a) (len := l) (cap := c) (zs := zs) (.inr ⟨a, rfl, hlc, hm, hz, hcell, hwz⟩)
        rw [show maxLen = 9223372036854775807 from rfl] at r4
        exact ⟨⟨k0, k1, k2, some a, c, zs.take l, k4⟩, by simp only [LAct.vals, r2], ⟨r1, fun x hx => by have := Go.bounds_u64 (r3 x hx); omega, b4.1, by show k4 < _; omega, by simp only [r2]; exact r4⟩⟩

theorem open_acts {fuel : Nat} {a : Option Addr} {len cap : Nat} {x : DataW H × List MemPlace} (h : DataW.trod enc Try.prog W 0 spare held fuel 66 [.slice a len cap] = some x) (hsp : ∀ b, spare b = true) :
    ∃ l : List LAct, l.length = len ∧ ActsAt W a l ∧ (∀ c ∈ l, c.ok W) ∧ len ≤ maxLen := by
  rcases open_slice Try.underlying66 h with ⟨h0, -⟩ | ⟨ad, len', cap', m, n, D, Pl, hcs, hb, hl, hm, hmm, hx, hi⟩
  · injection h0 with h0
    injection h0 with e1 e2 e3
    subst e1 e2 e3
    exact ⟨[], rfl, .inl rfl, by simp, Nat.zero_le _⟩
  · injection hcs with hcs
    injection hcs with e1 e2 e3
    subst e1 e2 e3
    rw [if_pos (hsp _)] at hmm
    have hex : ∀ i : Fin len, ∃ c : LAct, (∀ j v, c.vals[j]? = some v → W.cell? ((ad.add (i.val * 5)).add j) = some v) ∧ c.ok W := by
      intro i
      obtain ⟨cs', hc, ht⟩ := hi i.val (by have := i.isLt; omega)
      rw [cells_act] at hc
      obtain ⟨-, hcl, hat⟩ := World.cells?_some hc
      obtain ⟨c, hcv, hok⟩ := open_act hcl ht hsp
      refine ⟨c, fun j v hv => ?_, hok⟩
      rw [← hcv] at hv
      have hj := (List.getElem?_eq_some_iff.1 hv).1
      rw [hat j (by omega)]
      exact hv
    obtain ⟨F, hF⟩ := Classical.axiomOfChoice hex
    refine ⟨List.ofFn F, by simp, ?_, ?_, by omega⟩
    · by_cases h0 : len = 0
      · subst h0; exact .inl (by simp)
      · have hx : ad = ⟨ad.block, ad.off, none⟩ := by
          have h1 := (hF ⟨0, by omega⟩).1 0 _ rfl
          have e : (ad.add (0 * 5)).add 0 = ad := rfl
          rw [e] at h1
          exact cell_none h1
        obtain ⟨b, o, t⟩ := ad
        obtain rfl : t = none := by simpa using hx
        refine .inr ⟨b, o, rfl, fun i hi' j v hv => ?_⟩
        have hil : i < len := by simpa using hi'
        have h1 := (hF ⟨i, hil⟩).1 j v (by simpa using hv)
        rw [Addr.add_lit, Addr.add_lit] at h1
        exact h1
    · intro c hc
      obtain ⟨i, hi', rfl⟩ := List.getElem_of_mem hc
      rw [List.getElem_ofFn]
      exact (hF _).2
end

end Go.Proofs.Ythginpedlfocpaa
