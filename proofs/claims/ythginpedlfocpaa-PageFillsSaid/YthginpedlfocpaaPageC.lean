/- Pages: Alloc. -/
import Derived.Test.YthginpedlfocpaaPageB
namespace Go.Proofs.Ythginpedlfocpaa
open Go.RowKit Go.Alo Go.Shelf
attribute [local go_sem] max_ints min_ints
attribute [local go_sem ↓] Go.wp_at_zero Go.wp_at_succ

section
variable {W W' : World} {pb m g : Nat} {f s n made used hf hl : Int} {bs fs ls : List Int}

/-- The row at 8 becomes the one at 6; none is at 8 then. -/
theorem swap_page (p : IsPage W pb m g f s n made used bs hf hl [] ls) : IsPage ((((W.setCell ⟨pb, 6, none⟩ (.int .u64 hl)).setCell ⟨pb, 7, none⟩ (.int .i64 ls.length)).setCell ⟨pb, 8, none⟩ (.int .u64 0)).setCell ⟨pb, 9, none⟩ (.int .i64 0)) pb m g f s n made used bs hl 0 ls [] ∧
    Fr (PF g pb) W ((((W.setCell ⟨pb, 6, none⟩ (.int .u64 hl)).setCell ⟨pb, 7, none⟩ (.int .i64 ls.length)).setCell ⟨pb, 8, none⟩ (.int .u64 0)).setCell ⟨pb, 9, none⟩ (.int .i64 0)) := by
  have hf1 : Fr (fun k _ => k = pb) W ((((W.setCell ⟨pb, 6, none⟩ (.int .u64 hl)).setCell ⟨pb, 7, none⟩ (.int .i64 ls.length)).setCell ⟨pb, 8, none⟩ (.int .u64 0)).setCell ⟨pb, 9, none⟩ (.int .i64 0)) :=
    ((((Fr.refl _ _).setCell pb 6 (fun _ => rfl) _).setCell pb 7 (fun _ => rfl) _).setCell pb 8 (fun _ => rfl) _).setCell pb 9 (fun _ => rfl) _
  have hr := (((p.row.set 6 (.int .u64 hl)).set 7 (.int .i64 ls.length)).set 8 (.int .u64 0)).set 9 (.int .i64 0)
  refine ⟨⟨by simpa [pageVs] using hr, p.mem.fr hf1 (fun _ e => p.nm e.symm) (fun _ e => p.ng e.symm), p.nm, p.ng, p.run, p.s16, p.f1, p.n1, p.fits, p.hl0, p.hl1, by decide, by decide, p.onl, rfl, p.made0, p.made1, p.used0, ?_, ?_, ?_⟩, hf1.mono (fun k o _ h => .inr h)⟩
  · have := p.sum
    simp only [List.length_nil] at this ⊢
    omega
  · intro a ha
    exact p.blk a (by simpa using ha)
  · simpa using p.nodup

/-- The first one is taken out, by the page's own hand. -/
theorem popped {a : Int} {l : List Int} {e : Ending} (p : IsPage W pb m g f s n made used bs hf hl (a :: l) ls) (hp : PopPost m g pb 6 bs (ldF bs a, (((a :: l).length : Nat) : Int) - 1, a, 0) W e W') :
    IsPage (W'.setCell ⟨pb, 4, none⟩ (.int .i64 (used + 1))) pb m g f s n made (used + 1) bs (ldF bs a) hl l ls ∧ Fr (PF g pb) W (W'.setCell ⟨pb, 4, none⟩ (.int .i64 (used + 1))) ∧ Row W' pb 175 (pageVs f s n made used m (ldF bs a) l.length hl ls.length) := by
  obtain ⟨-, h2, h3, h4⟩ := hp
  obtain ⟨o1, o2, o3, o4, o5⟩ := p.onf
  have hb := ldF_bd bs a o3 p.mem.byt
  have hr0 := row_step p.row h4 (fun o ho => by unfold LL at ho; omega) h3.head.1 h3.num.1 (by simp [pageVs])
  have hr : Row W' pb 175 (pageVs f s n made used m (ldF bs a) l.length hl ls.length) := by
    have e : (((a :: l).length : Nat) : Int) - 1 = (l.length : Int) := by simp
    rw [e] at hr0
    simpa [pageVs] using hr0
  have hf1 : Fr (fun k _ => k = pb) W' (W'.setCell ⟨pb, 4, none⟩ (.int .i64 (used + 1))) := (Fr.refl _ _).setCell pb 4 (fun _ => rfl) _
  have hr2 := hr.set 4 (.int .i64 (used + 1))
  refine ⟨⟨by simpa [pageVs] using hr2, h2.fr hf1 (fun _ e => p.nm e.symm) (fun _ e => p.ng e.symm), p.nm, p.ng, p.run, p.s16, p.f1, p.n1, p.fits, hb.1, hb.2, p.hl0, p.hl1, o5, p.onl, p.made0, p.made1, by have := p.used0; omega, ?_, ?_, ?_⟩, (h4.mono (fun k o _ h => by unfold LL at h; exact .inr h.1)).trans (hf1.mono (fun k o _ h => .inr h)), hr⟩
  · have := p.sum
    simp only [List.length_cons] at this
    omega
  · intro b hb
    exact p.blk b (by simp only [List.cons_append, List.mem_cons]; exact .inr hb)
  · have := p.nodup
    simp only [List.cons_append, List.nodup_cons] at this
    exact this.2
/-- None is taken out. -/
theorem popped_none {e : Ending} (p : IsPage W pb m g f s n made used bs hf hl [] ls) (hp : PopPost m g pb 6 bs (hf, 0, 0, 5) W e W') : IsPage W' pb m g f s n made used bs hf hl [] ls ∧ Fr (PF g pb) W W' := by
  obtain ⟨-, h2, h3, h4⟩ := hp
  have hr0 := row_step p.row h4 (fun o ho => by unfold LL at ho; omega) h3.head.1 h3.num.1 (by simp [pageVs])
  exact ⟨⟨by simpa [pageVs] using hr0, h2, p.nm, p.ng, p.run, p.s16, p.f1, p.n1, p.fits, p.hf0, p.hf1, p.hl0, p.hl1, p.onf, p.onl, p.made0, p.made1, p.used0, p.sum, p.blk, p.nodup⟩, h4.mono (fun k o _ h => by unfold LL at h; exact .inr h.1)⟩
end

set_option maxRecDepth 100000 in
set_option maxHeartbeats 4000000 in
theorem alloc_free (pb m g : Nat) (f s n made used hf hl a : Int) (bs fs ls : List Int) (w : World) (hp : IsPage w pb m g f s n made used bs hf hl (a :: fs) ls) :
    Calls Try.prog 65 #[.pointer (some ⟨pb, 0, none⟩)] w fun e w' => e = .returned (.tuple #[.int .u64 a, .int .i64 0]) ∧ (∃ bs' hf' hl', IsPage w' pb m g f s n made (used + 1) bs' hf' hl' fs ls) ∧ Fr (PF g pb) w w' := by
  have HP := Lib.hid hp
  have HF := Lib.hid (Fr.refl (PF g pb) w)
  clear hp
  go_enter Try.func65, Try.ntmps65
  obtain ⟨q0, q1, q2, q3, q4, q5, q6, q7, q8, q9, qz⟩ := row_cells HP.out.row
  have hpo := HP.out.onf.pop (((a :: fs).length : Nat) : Int) (by simp; omega)
  have hpp := pop_any m g pb 6 bs hf (((a :: fs).length : Nat) : Int) w.drew HP.out.mem.drew (HP.out.free.fr ((Fr.refl nil2 _).drew) (fun h => h) (fun h => h)) HP.out.nm HP.out.ng (by omega) (by have h1 := HP.out.sum; have h2 := HP.out.used0; have h3 := HP.out.made1; have h4 := HP.out.run.n1; simp only [List.length_cons] at h1 ⊢; omega)
  rw [hpo.1] at hpp
  have HPP := Lib.hid hpp
  have hu1 : used ≤ 1024 := by have h1 := HP.out.sum; have h3 := HP.out.made1; have h4 := HP.out.run.n1; omega
  have hu0 : 0 ≤ used := HP.out.used0
  have hne : ((((a :: fs).length : Nat) : Int) == 0) = false := by simp; omega
  obtain ⟨nn, hnn⟩ : ∃ x : Nat, (a :: fs).length = x := ⟨_, rfl⟩
  have HNN := Lib.hid hnn
  rw [hnn] at q7 hne
  clear hpp hpo hnn
  go_wp2
  go_region_held3 (fun w' => w'.cell? ⟨pb, 5, none⟩ = some (.pointer (some ⟨m, 0, none⟩))) (go_keep) ((go_at_call 33; refine HPP.out.mono ?_; rintro e w7 hpq; have hpd := popped (HP.out.quiet ((Fr.refl nil2 _).drew)) hpq; obtain ⟨rfl, -, -, -⟩ := hpq; obtain ⟨-, -, -, -, g4, g5, -, -, -, -, gz⟩ := row_cells hpd.2.2; have g4z := gz 4; have HPD := Lib.hid hpd; clear hpd gz))
  go_wp2
  go_ret2
  obtain ⟨r1, r2, -⟩ := HPD.out
  exact ⟨rfl, ⟨_, _, _, r1⟩, (HF.out.trans ((Fr.refl _ _).drew)).trans r2⟩

set_option maxRecDepth 100000 in
set_option maxHeartbeats 4000000 in
theorem alloc_local (pb m g : Nat) (f s n made used hf hl a : Int) (bs ls : List Int) (w : World) (hp : IsPage w pb m g f s n made used bs hf hl [] (a :: ls)) :
    Calls Try.prog 65 #[.pointer (some ⟨pb, 0, none⟩)] w fun e w' => e = .returned (.tuple #[.int .u64 a, .int .i64 0]) ∧ (∃ bs' hf' hl', IsPage w' pb m g f s n made (used + 1) bs' hf' hl' ls []) ∧ Fr (PF g pb) w w' := by
  have HP := Lib.hid hp
  obtain ⟨c0, c1, c2, c3, c4, c5, c6, c7, c8, c9, cz⟩ := row_cells hp.row
  have hsw := swap_page hp
  have z6 := cz 6
  have z7 := cz 7
  have z8 := cz 8
  have z9 := cz 9
  obtain ⟨nl, hnl⟩ : ∃ x : Int, (((a :: ls).length : Nat) : Int) = x := ⟨_, rfl⟩
  have HNL := Lib.hid hnl
  rw [hnl] at c9 hsw
  have HSW := Lib.hid hsw
  clear hp hsw hnl cz
  go_enter Try.func65, Try.ntmps65
  go_upto_region 5 with fail
  obtain ⟨W4, hW4⟩ : ∃ W, ((((w.setCell ⟨pb, 6, none⟩ (.int .u64 hl)).setCell ⟨pb, 7, none⟩ (.int .i64 nl)).setCell ⟨pb, 8, none⟩ (.int .u64 0)).setCell ⟨pb, 9, none⟩ (.int .i64 0)) = W := ⟨_, rfl⟩
  rw [hW4] at HSW ⊢
  clear hW4 c0 c1 c2 c3 c4 c5 c6 c7 c8 c9 z6 z7 z8 z9
  have HP4 := Lib.hid HSW.out.1
  have HF4 := Lib.hid HSW.out.2
  clear HSW
  obtain ⟨q0, q1, q2, q3, q4, q5, q6, q7, q8, q9, qz⟩ := row_cells HP4.out.row
  have hpo := HP4.out.onf.pop (((a :: ls).length : Nat) : Int) (by simp; omega)
  have hpp := pop_any m g pb 6 bs hl (((a :: ls).length : Nat) : Int) W4.drew HP4.out.mem.drew (HP4.out.free.fr ((Fr.refl nil2 _).drew) (fun h => h) (fun h => h)) HP4.out.nm HP4.out.ng (by omega) (by have h1 := HP4.out.sum; have h2 := HP4.out.used0; have h3 := HP4.out.made1; have h4 := HP4.out.run.n1; simp only [List.length_cons] at h1 ⊢; omega)
  rw [hpo.1] at hpp
  have HPP := Lib.hid hpp
  have hu1 : used ≤ 1024 := by have h1 := HP4.out.sum; have h3 := HP4.out.made1; have h4 := HP4.out.run.n1; omega
  have hu0 : 0 ≤ used := HP4.out.used0
  have hne : ((((a :: ls).length : Nat) : Int) == 0) = false := by simp; omega
  obtain ⟨nn, hnn⟩ : ∃ x : Nat, (a :: ls).length = x := ⟨_, rfl⟩
  have HNN := Lib.hid hnn
  rw [hnn] at q7 hne
  clear hpp hpo hnn
  go_wp2
  go_region_held3 (fun w' => w'.cell? ⟨pb, 5, none⟩ = some (.pointer (some ⟨m, 0, none⟩))) (go_keep) ((go_at_call 33; refine HPP.out.mono ?_; rintro e w7 hpq; have hpd := popped (HP4.out.quiet ((Fr.refl nil2 _).drew)) hpq; obtain ⟨rfl, -, -, -⟩ := hpq; obtain ⟨-, -, -, -, g4, g5, -, -, -, -, gz⟩ := row_cells hpd.2.2; have g4z := gz 4; have HPD := Lib.hid hpd; clear hpd gz))
  go_wp2
  go_ret2
  obtain ⟨r1, r2, -⟩ := HPD.out
  exact ⟨rfl, ⟨_, _, _, r1⟩, (HF4.out.trans ((Fr.refl _ _).drew)).trans r2⟩

set_option maxRecDepth 100000 in
set_option maxHeartbeats 4000000 in
theorem alloc_more (pb m g : Nat) (f s n made used hf hl : Int) (bs : List Int) (w : World) (hp : IsPage w pb m g f s n made used bs hf hl [] []) (hlt : made < n) :
    Calls Try.prog 65 #[.pointer (some ⟨pb, 0, none⟩)] w fun e w' => e = .returned (.tuple #[.int .u64 (f + made * s), .int .i64 0]) ∧ (∃ (k : Nat) (bs' : List Int) (hf' hl' : Int), (k : Int) + 1 = mn 4 (n - made) ∧ IsPage w' pb m g f s n (made + ((k : Int) + 1)) (used + 1) bs' hf' hl' (runL f s (made + 1) k) []) ∧ Fr (PF g pb) w w' := by
  have HP := Lib.hid hp
  obtain ⟨c0, c1, c2, c3, c4, c5, c6, c7, c8, c9, cz⟩ := row_cells hp.row
  have hsw := swap_page hp
  have z6 := cz 6
  have z7 := cz 7
  have z8 := cz 8
  have z9 := cz 9
  obtain ⟨nl, hnl⟩ : ∃ x : Int, ((([] : List Int).length : Nat) : Int) = x := ⟨_, rfl⟩
  have HNL := Lib.hid hnl
  rw [hnl] at c9 hsw
  have HSW := Lib.hid hsw
  clear hp hsw hnl cz
  go_enter Try.func65, Try.ntmps65
  go_upto_region 5 with fail
  obtain ⟨W4, hW4⟩ : ∃ W, ((((w.setCell ⟨pb, 6, none⟩ (.int .u64 hl)).setCell ⟨pb, 7, none⟩ (.int .i64 nl)).setCell ⟨pb, 8, none⟩ (.int .u64 0)).setCell ⟨pb, 9, none⟩ (.int .i64 0)) = W := ⟨_, rfl⟩
  rw [hW4] at HSW ⊢
  clear hW4 c0 c1 c2 c3 c4 c5 c6 c7 c8 c9 z6 z7 z8 z9
  have HP4 := Lib.hid HSW.out.1
  have HF4 := Lib.hid HSW.out.2
  clear HSW
  obtain ⟨k, hk⟩ : ∃ k : Nat, (k : Int) = mn 4 (n - made) := ⟨(mn 4 (n - made)).toNat, by rw [mn_eq]; have := HP.out.made1; omega⟩
  have hl0 : hl = 0 := HP.out.onl
  subst hl0
  have hmo := more_any pb m g f s n made used 0 bs [] W4 HP4.out k hk
  have HMO := Lib.hid hmo
  have HK := Lib.hid hk
  obtain ⟨q0, q1, q2, q3, q4, q5, q6, q7, q8, q9, qz⟩ := row_cells HP4.out.row
  clear hmo hk
  go_wp2_with fail
  refine HMO.out.mono ?_
  rintro e w5 ⟨rfl, ⟨bs5, hf5, hp5⟩, hfr5⟩
  have HP5 := Lib.hid hp5
  have HF5 := Lib.hid (HF4.out.trans hfr5)
  clear hp5 hfr5 q0 q1 q2 q3 q4 q5 q6 q7 q8 q9 qz HP4 HF4
  obtain ⟨j, rfl⟩ : ∃ j, k = j + 1 := ⟨k - 1, by have h := HK.out; rw [mn_eq] at h; omega⟩
  rw [runL] at HP5
  obtain ⟨a, ha⟩ : ∃ a, f + made * s = a := ⟨_, rfl⟩
  rw [ha] at HP5
  have HA0 := Lib.hid ha
  clear ha
  obtain ⟨q0, q1, q2, q3, q4, q5, q6, q7, q8, q9, qz⟩ := row_cells HP5.out.row
  have hpo := HP5.out.onf.pop (((a :: (runL f s (made + 1) j)).length : Nat) : Int) (by simp; omega)
  have hpp := pop_any m g pb 6 bs5 hf5 (((a :: (runL f s (made + 1) j)).length : Nat) : Int) w5.drew HP5.out.mem.drew (HP5.out.free.fr ((Fr.refl nil2 _).drew) (fun h => h) (fun h => h)) HP5.out.nm HP5.out.ng (by omega) (by have h1 := HP5.out.sum; have h2 := HP5.out.used0; have h3 := HP5.out.made1; have h4 := HP5.out.run.n1; simp only [List.length_cons] at h1 ⊢; omega)
  rw [hpo.1] at hpp
  have HPP := Lib.hid hpp
  have hu1 : used ≤ 1024 := by have h1 := HP5.out.sum; have h3 := HP5.out.made1; have h4 := HP5.out.run.n1; omega
  have hu0 : 0 ≤ used := HP5.out.used0
  have hne : ((((a :: (runL f s (made + 1) j)).length : Nat) : Int) == 0) = false := by simp; omega
  obtain ⟨nn, hnn⟩ : ∃ x : Nat, (a :: (runL f s (made + 1) j)).length = x := ⟨_, rfl⟩
  have HNN := Lib.hid hnn
  rw [hnn] at q7 hne
  clear hpp hpo hnn
  go_wp2
  go_region_held3 (fun w' => w'.cell? ⟨pb, 5, none⟩ = some (.pointer (some ⟨m, 0, none⟩))) (go_keep) ((go_at_call 33; refine HPP.out.mono ?_; rintro e w7 hpq; have hpd := popped (HP5.out.quiet ((Fr.refl nil2 _).drew)) hpq; obtain ⟨rfl, -, -, -⟩ := hpq; obtain ⟨-, -, -, -, g4, g5, -, -, -, -, gz⟩ := row_cells hpd.2.2; have g4z := gz 4; have HPD := Lib.hid hpd; clear hpd gz))
  go_wp2
  go_ret2
  obtain ⟨r1, r2, -⟩ := HPD.out
  rw [show ((j + 1 : Nat) : Int) = (j : Int) + 1 from by omega] at r1
  exact ⟨by rw [HA0.out]; rfl, ⟨j, _, _, _, by have := HK.out; omega, r1⟩, (HF5.out.trans ((Fr.refl _ _).drew)).trans r2⟩

set_option maxRecDepth 100000 in
set_option maxHeartbeats 4000000 in
theorem alloc_full (pb m g : Nat) (f s n used hf hl : Int) (bs : List Int) (w : World) (hp : IsPage w pb m g f s n n used bs hf hl [] []) :
    Calls Try.prog 65 #[.pointer (some ⟨pb, 0, none⟩)] w fun e w' => e = .returned (.tuple #[.int .u64 0, .int .i64 4]) ∧ (∃ bs' hf' hl', IsPage w' pb m g f s n n used bs' hf' hl' [] []) ∧ Fr (PF g pb) w w' := by
  have HP := Lib.hid hp
  obtain ⟨c0, c1, c2, c3, c4, c5, c6, c7, c8, c9, cz⟩ := row_cells hp.row
  have hsw := swap_page hp
  have z6 := cz 6
  have z7 := cz 7
  have z8 := cz 8
  have z9 := cz 9
  obtain ⟨nl, hnl⟩ : ∃ x : Int, ((([] : List Int).length : Nat) : Int) = x := ⟨_, rfl⟩
  have HNL := Lib.hid hnl
  rw [hnl] at c9 hsw
  have HSW := Lib.hid hsw
  clear hp hsw hnl cz
  go_enter Try.func65, Try.ntmps65
  go_upto_region 5 with fail
  obtain ⟨W4, hW4⟩ : ∃ W, ((((w.setCell ⟨pb, 6, none⟩ (.int .u64 hl)).setCell ⟨pb, 7, none⟩ (.int .i64 nl)).setCell ⟨pb, 8, none⟩ (.int .u64 0)).setCell ⟨pb, 9, none⟩ (.int .i64 0)) = W := ⟨_, rfl⟩
  rw [hW4] at HSW ⊢
  clear hW4 c0 c1 c2 c3 c4 c5 c6 c7 c8 c9 z6 z7 z8 z9
  have HP4 := Lib.hid HSW.out.1
  have HF4 := Lib.hid HSW.out.2
  clear HSW
  obtain ⟨k, hk⟩ : ∃ k : Nat, (k : Int) = mn 4 (n - n) := ⟨(mn 4 (n - n)).toNat, by rw [mn_eq]; have := HP.out.made1; omega⟩
  have hl0 : hl = 0 := HP.out.onl
  subst hl0
  have hmo := more_any pb m g f s n n used 0 bs [] W4 HP4.out k hk
  have HMO := Lib.hid hmo
  have HK := Lib.hid hk
  obtain ⟨q0, q1, q2, q3, q4, q5, q6, q7, q8, q9, qz⟩ := row_cells HP4.out.row
  clear hmo hk
  go_wp2_with fail
  refine HMO.out.mono ?_
  rintro e w5 ⟨rfl, ⟨bs5, hf5, hp5⟩, hfr5⟩
  have HP5 := Lib.hid hp5
  have HF5 := Lib.hid (HF4.out.trans hfr5)
  clear hp5 hfr5 q0 q1 q2 q3 q4 q5 q6 q7 q8 q9 qz HP4 HF4
  have hk0 : k = 0 := by have h := HK.out; rw [mn_eq] at h; omega
  subst hk0
  rw [runL, show n + ((0 : Nat) : Int) = n from by omega] at HP5
  obtain ⟨q0, q1, q2, q3, q4, q5, q6, q7, q8, q9, qz⟩ := row_cells HP5.out.row
  have hpp := pop_any m g pb 6 bs5 hf5 0 w5.drew HP5.out.mem.drew (HP5.out.free.fr ((Fr.refl nil2 _).drew) (fun h => h) (fun h => h)) HP5.out.nm HP5.out.ng (by omega) (by omega)
  rw [show popF bs5 hf5 0 = (hf5, 0, 0, 5) from by unfold popF; rw [if_pos rfl]] at hpp
  have HPP := Lib.hid hpp
  simp only [List.length_nil] at q7
  clear hpp
  go_wp2
  go_region_held3 (fun w' => w'.cell? ⟨pb, 5, none⟩ = some (.pointer (some ⟨m, 0, none⟩))) (go_keep) ((go_at_call 33; refine HPP.out.mono ?_; rintro e w7 hpq; have hpd := popped_none (HP5.out.quiet ((Fr.refl nil2 _).drew)) hpq; obtain ⟨rfl, -, -, -⟩ := hpq; obtain ⟨-, -, -, -, g4, g5, -, -, -, -, gz⟩ := row_cells hpd.1.row; have HPD := Lib.hid hpd; clear hpd gz))
  go_wp2
  go_ret2
  obtain ⟨r1, r2⟩ := HPD.out
  exact ⟨rfl, ⟨_, _, _, r1⟩, (HF5.out.trans ((Fr.refl _ _).drew)).trans r2⟩

end Go.Proofs.Ythginpedlfocpaa
