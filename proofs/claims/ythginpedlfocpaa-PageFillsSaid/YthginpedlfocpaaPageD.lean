/- Pages: Free, Used, Made. -/
import Derived.Test.YthginpedlfocpaaPageC
namespace Go.Proofs.Ythginpedlfocpaa
open Go.RowKit Go.Alo Go.Shelf
attribute [local go_sem] max_ints min_ints
attribute [local go_sem ↓] Go.wp_at_zero Go.wp_at_succ

section
variable {W W' : World} {pb m g : Nat} {f s n made used hf hl : Int} {bs fs ls : List Int}

/-- A block put ahead of the row at 8, by the page's own hand; one less is used then. -/
theorem pushed8 {a : Int} {e : Ending} (p : IsPage W pb m g f s n made used bs hf hl fs ls) (hp : PushPost m g pb 8 (stF bs a hl, a, (ls.length : Int) + 1, 0) W e W') (i : Int) (h0 : 0 ≤ i) (h1 : i < made) (ha : a = f + i * s) (hn : a ∉ fs ++ ls) (hu : 1 ≤ used) :
    IsPage (W'.setCell ⟨pb, 4, none⟩ (.int .i64 (used - 1))) pb m g f s n made (used - 1) (stF bs a hl) hf a fs (a :: ls) ∧ Fr (PF g pb) W (W'.setCell ⟨pb, 4, none⟩ (.int .i64 (used - 1))) ∧ Row W' pb 175 (pageVs f s n made used m hf fs.length a (a :: ls).length) := by
  obtain ⟨-, h2, h3, h4⟩ := hp
  have hgd := p.good i h0 (by have := p.made1; omega)
  rw [← ha] at hgd
  have hr0 := row_step p.row h4 (fun o ho => by have := p.ng; unfold LS at ho; omega) h3.head.1 h3.num.1 (by simp [pageVs])
  have hr : Row W' pb 175 (pageVs f s n made used m hf fs.length a (a :: ls).length) := by
    simpa [pageVs] using hr0
  have hf1 : Fr (fun k _ => k = pb) W' (W'.setCell ⟨pb, 4, none⟩ (.int .i64 (used - 1))) := (Fr.refl _ _).setCell pb 4 (fun _ => rfl) _
  have hr2 := hr.set 4 (.int .i64 (used - 1))
  have hap : ∀ b ∈ ls ++ fs, a + 8 ≤ b ∨ b + 8 ≤ a := by
    intro b hb
    have hb' : b ∈ fs ++ ls := by
      rcases List.mem_append.1 hb with h | h
      · exact List.mem_append_right _ h
      · exact List.mem_append_left _ h
    obtain ⟨j, j0, j1, rfl⟩ := p.blk b hb'
    rw [ha]
    refine run_apart p.s16 f i j (fun e => hn ?_)
    rw [ha, e]; exact hb'
  have hlk := link_one (a := a) (h := hl) (xs := ls) (ys := fs) (hy := hf) (bs := bs) (by omega) (by omega) (by omega) p.hl0 p.hl1 p.onl p.onf hap
  refine ⟨⟨by simpa [pageVs] using hr2, h2.fr hf1 (fun _ e => p.nm e.symm) (fun _ e => p.ng e.symm), p.nm, p.ng, p.run, p.s16, p.f1, p.n1, by rw [stF_len _ _ _ (by omega)]; exact p.fits, p.hf0, p.hf1, by omega, hgd.2.2, hlk.2, hlk.1, p.made0, p.made1, by omega, ?_, ?_, ?_⟩, (h4.mono (fun k o _ h => by unfold LS at h; unfold PF; omega)).trans (hf1.mono (fun k o _ h => .inr h)), hr⟩
  · have := p.sum
    simp only [List.length_cons]
    omega
  · intro b hb
    rcases List.mem_append.1 hb with h | h
    · exact p.blk b (List.mem_append_left _ h)
    · rcases List.mem_cons.1 h with rfl | h
      · exact ⟨i, h0, h1, ha⟩
      · exact p.blk b (List.mem_append_right _ h)
  · have h5 := p.nodup
    rw [List.nodup_append] at h5 ⊢
    obtain ⟨n1, n2, n3⟩ := h5
    refine ⟨n1, List.nodup_cons.2 ⟨fun h => hn (List.mem_append_right _ h), n2⟩, ?_⟩
    intro x hx y hy
    rcases List.mem_cons.1 hy with rfl | hy
    · intro e; subst e; exact hn (List.mem_append_left _ hx)
    · exact n3 x hx y hy
end

set_option maxRecDepth 100000 in
set_option maxHeartbeats 1000000 in
theorem given_any (pb m g : Nat) (f s n made used hf hl i : Int) (bs fs ls : List Int) (w : World) (hp : IsPage w pb m g f s n made used bs hf hl fs ls) (h0 : 0 ≤ i) (h1 : i < made) :
    Calls Try.prog 121 #[.pointer (some ⟨pb, 0, none⟩), .int .u64 (f + i * s)] w fun e w' => e = .returned (.int .i64 0) ∧ Fr nil2 w w' := by
  have HP := Lib.hid hp
  obtain ⟨c0, c1, c2, c3, c4, c5, c6, c7, c8, c9, cz⟩ := row_cells hp.row
  have hm1 := hp.made1
  have HI := Lib.hid (index_any f s n i hp.run h0 (by omega))
  obtain ⟨a, ha⟩ : ∃ a, f + i * s = a := ⟨_, rfl⟩
  rw [ha] at HI ⊢
  clear ha hp cz
  go_enter Try.func121, Try.ntmps121
  go_wp2_with fail
  refine (HI.out _).mono ?_
  rintro e w1 ⟨rfl, hf1⟩
  have HF := Lib.hid hf1
  obtain ⟨-, -, -, d3, -⟩ := row_cells (HP.out.row.fr hf1 (fun _ h => h))
  clear hf1 c0 c1 c2 c3 c4 c5 c6 c7 c8 c9
  go_wp2
  go_ret
  exact ⟨rfl, HF.out⟩

set_option maxHeartbeats 400000 in
theorem used_any (pb m g : Nat) (f s n made used hf hl : Int) (bs fs ls : List Int) (w : World) (hp : IsPage w pb m g f s n made used bs hf hl fs ls) :
    Calls Try.prog 68 #[.pointer (some ⟨pb, 0, none⟩)] w fun e w' => e = .returned (.int .i64 used) ∧ w = w' := by
  obtain ⟨c0, c1, c2, c3, c4, c5, c6, c7, c8, c9, cz⟩ := row_cells hp.row
  clear hp cz
  go_enter Try.func68, Try.ntmps68
  go_wp2
  go_ret
  exact ⟨rfl, rfl⟩

set_option maxHeartbeats 400000 in
theorem made_any (pb m g : Nat) (f s n made used hf hl : Int) (bs fs ls : List Int) (w : World) (hp : IsPage w pb m g f s n made used bs hf hl fs ls) :
    Calls Try.prog 69 #[.pointer (some ⟨pb, 0, none⟩)] w fun e w' => e = .returned (.int .i64 made) ∧ w = w' := by
  obtain ⟨c0, c1, c2, c3, c4, c5, c6, c7, c8, c9, cz⟩ := row_cells hp.row
  clear hp cz
  go_enter Try.func69, Try.ntmps69
  go_wp2
  go_ret
  exact ⟨rfl, rfl⟩

/-- Blocks that may be given back: each one of those that are used. -/
structure MayFree (f s made used : Int) (rest xs : List Int) : Prop where
  blk : ∀ a ∈ xs, ∃ i : Int, 0 ≤ i ∧ i < made ∧ a = f + i * s
  nodup : (xs ++ rest).Nodup
  few : (xs.length : Int) ≤ used

set_option maxRecDepth 100000 in
set_option maxHeartbeats 4000000 in
theorem free_any (pb m g cap : Nat) (A : Option Addr) (f s n made used hf hl : Int) (bs fs ls xs : List Int) (w : World) (hp : IsPage w pb m g f s n made used bs hf hl fs ls) (hr : Reads w A (ints .u64 xs)) (hA : ∀ b off, A = some ⟨b, off, none⟩ → b ≠ g ∧ b ≠ pb) (hx : MayFree f s made used (fs ++ ls) xs) :
    Calls Try.prog 66 #[.pointer (some ⟨pb, 0, none⟩), .slice A xs.length cap] w fun e w' => e = .returned (.int .i64 0) ∧ (∃ bs' hl', IsPage w' pb m g f s n made (used - xs.length) bs' hf hl' fs (xs.reverse ++ ls)) ∧ Fr (PF g pb) w w' := by
  have HP := Lib.hid hp
  have HR := Lib.hid hr
  have HA := Lib.hid hA
  have HX := Lib.hid hx
  have hxl : (xs.length : Int) ≤ 1024 := by have h1 := hx.few; have h2 := hp.sum; have h3 := hp.made1; have h4 := hp.run.n1; omega
  have hu0 : used ≤ 1024 := by have h2 := hp.sum; have h3 := hp.made1; have h4 := hp.run.n1; omega
  have hux := hx.few
  clear hp hr hA hx
  go_enter Try.func66, Try.ntmps66
  go_wp2
  go_loopw [13] (fun i wr => ∃ (t : Nat) (bs' : List Int) (hl' : Int), t ≤ xs.length ∧ i = .int .i64 t ∧ Hid (IsPage wr pb m g f s n made (used - t) bs' hf hl' fs ((xs.take t).reverse ++ ls)) ∧ Hid (Fr (PF g pb) w wr)) (fun i _ => xs.length - (intOf i).toNat)
  case atStart => exact ⟨0, bs, hl, Nat.zero_le _, rfl, by have h := HP.out; unfold Hid; simpa using h, Fr.refl _ _⟩
  case round =>
    obtain ⟨t, bs', hl', ht, rfl, HPr, HF⟩ := hrel
    by_cases hlt : t < xs.length
    · have hrk : Reads wr A (ints .u64 xs) := HR.out.fr HF.out (fun b off o e _ _ hs => by
        have := HA.out b off e
        unfold PF at hs
        omega)
      obtain ⟨b, off, hAb, hc⟩ := hrk.get t (by simpa using hlt)
      rw [ints_get] at hc
      have hbk := HX.out.blk xs[t] (List.getElem_mem hlt)
      have htk : (xs.take (t + 1)).reverse = xs[t] :: (xs.take t).reverse := by
        rw [List.take_succ_eq_append_getElem hlt, List.reverse_append]; rfl
      have hnin : xs[t] ∉ fs ++ ((xs.take t).reverse ++ ls) := by
        intro hmem
        have hnd := HX.out.nodup
        rw [← List.take_append_drop t xs, List.append_assoc] at hnd
        obtain ⟨-, n2, n3⟩ := List.nodup_append.1 hnd
        rw [List.drop_eq_getElem_cons hlt, List.cons_append] at n2 n3
        have n4 := (List.nodup_cons.1 n2).1
        rcases List.mem_append.1 hmem with h | h
        · exact n4 (List.mem_append_right _ (List.mem_append_left _ h))
        · rcases List.mem_append.1 h with h | h
          · exact n3 _ (List.mem_reverse.1 h) _ (List.mem_cons_self ..) rfl
          · exact n4 (List.mem_append_right _ (List.mem_append_right _ h))
      obtain ⟨x, hxx⟩ : ∃ x, xs[t] = x := ⟨_, rfl⟩
      rw [hxx] at hc hbk htk hnin
      obtain ⟨i, i0, i1, hxi⟩ := hbk
      have hgd := HPr.out.good i i0 (by have := HPr.out.made1; omega)
      rw [← hxi] at hgd
      obtain ⟨g1, g2, g3⟩ := hgd
      have hgv := given_any pb m g f s n made (used - t) hf hl' i bs' fs _ wr HPr.out i0 i1
      rw [← hxi] at hgv
      have HGV := Lib.hid hgv
      have HTK := Lib.hid htk
      have HNIN := Lib.hid hnin
      have HXI := Lib.hid hxi
      have HBLT := Lib.hid (cell_lt hc)
      subst hAb
      clear hrk hgv htk hnin hxi hxx
      go_wp2_with fail
      refine HGV.out.mono ?_
      rintro e w5 ⟨rfl, hf5⟩
      have HP5 := Lib.hid (HPr.out.quiet hf5)
      have HF5 := Lib.hid (HF.out.step hf5 (fun _ _ _ h => h.elim))
      obtain ⟨q0, q1, q2, q3, q4, q5, q6, q7, q8, q9, qz⟩ := row_cells HP5.out.row
      have hun : ((used - (t : Int)) == 0) = false := by simp; omega
      clear hf5 hc
      go_wp2
      have HM6 := Lib.hid (HP5.out.mem.drew.alloc (.cells #[.int .u64 x] 22))
      have HP6 := Lib.hid (HP5.out.quiet (((Fr.refl nil2 _).drew).alloc (.cells #[.int .u64 x] 22)))
      have HC6 := Lib.hid (cells_one w5.drew 22 (.int .u64 x))
      have HF6 := Lib.hid (HF5.out.drew.alloc (.cells #[.int .u64 x] 22))
      have HSZ := Lib.hid (show pb < w5.drew.heap.size ∧ g < w5.drew.heap.size from ⟨HP5.out.row.lt, HP5.out.mem.bytes.lt⟩)
      have hps := push_any m g pb 8 1 (some ⟨w5.drew.heap.size, 0, none⟩) [x] bs' hl' (((xs.take t).reverse ++ ls).length : Nat) _ HM6.out HP6.out.loc HP.out.nm HP.out.ng HC6.out (by intro b off e; injection e with e; injection e with e1 e2; have := HSZ.out; omega) (by intro y hy; rw [List.mem_singleton.1 hy]; omega) (by omega) (by have h1 := HP6.out.sum; have h2 := HP6.out.used0; have h3 := HP6.out.made1; have h4 := HP6.out.run.n1; simp only [List.length_singleton]; omega)
      have hpf : pushF bs' hl' (((xs.take t).reverse ++ ls).length : Nat) [x] = (stF bs' x hl', x, ((((xs.take t).reverse ++ ls).length : Nat) : Int) + 1, 0) := by
        rw [pushF, if_neg (by omega), if_pos (ldE_of (by omega))]
        rfl
      rw [hpf] at hps
      have HPS := Lib.hid hps
      clear hps hpf
      go_region_held3 (fun w' => w'.cell? ⟨pb, 5, none⟩ = some (.pointer (some ⟨m, 0, none⟩))) (go_keep) ((go_at_call 29; refine HPS.out.mono ?_; rintro e w7 hpp; have hpd := pushed8 HP6.out hpp i i0 i1 HXI.out HNIN.out (by omega); obtain ⟨rfl, -, -, -⟩ := hpp; obtain ⟨-, -, -, -, g4, g5, -, -, -, -, gz⟩ := row_cells hpd.2.2; have g4z := gz 4; have HPD := Lib.hid hpd; clear hpd gz))
      clear q0 q1 q2 q3 q4 q5 q6 q7 q8 q9 qz
      go_wp2
      go_roundw
      case rel =>
        obtain ⟨r1, r2, -⟩ := HPD.out
        refine ⟨t + 1, stF bs' x hl', x, by omega, by go_num, Lib.hid ?_, Lib.hid (HF6.out.trans r2)⟩
        rw [HTK.out, List.cons_append, show used - ((t + 1 : Nat) : Int) = used - (t : Int) - 1 from by omega]
        exact r1
      case measure => simp [intOf]; omega
    · have htl : t = xs.length := by omega
      have h := HPr.out
      rw [htl, List.take_length] at h
      have HPE := Lib.hid h
      clear htl h
      go_wp2
      go_ret
      exact ⟨rfl, ⟨_, _, HPE.out⟩, HF.out⟩

end Go.Proofs.Ythginpedlfocpaa
