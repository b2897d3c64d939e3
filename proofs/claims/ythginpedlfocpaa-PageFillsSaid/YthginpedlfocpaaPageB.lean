/- Pages: more, and what blocks it lays free. -/
import Derived.Test.YthginpedlfocpaaPageA
import Derived.Test.YthginpedlfocpaaLCounts
namespace Go.Proofs.Ythginpedlfocpaa
open Go.RowKit Go.Alo Go.Shelf
attribute [local go_sem] max_ints min_ints
attribute [local go_sem ↓] Go.wp_at_zero Go.wp_at_succ

/-- What a page's own calls may write. -/
def PF (g pb : Nat) (k _o : Nat) : Prop := k = g ∨ k = pb

/-- Blocks in a row: so many from the i-th on. -/
def runL (f s i : Int) : Nat → List Int
  | 0 => []
  | k + 1 => (f + i * s) :: runL f s (i + 1) k

theorem runL_len (f s i : Int) (k : Nat) : (runL f s i k).length = k := by
  induction k generalizing i with
  | zero => rfl
  | succ k ih => simp [runL, ih]

theorem runL_mem {f s : Int} (k : Nat) : ∀ {i a : Int}, a ∈ runL f s i k → ∃ j : Int, i ≤ j ∧ j < i + k ∧ a = f + j * s := by
  induction k with
  | zero => intro i a h; simp [runL] at h
  | succ k ih =>
    intro i a h
    simp only [runL, List.mem_cons] at h
    rcases h with rfl | h
    · exact ⟨i, Int.le_refl _, by omega, rfl⟩
    · obtain ⟨j, h1, h2, h3⟩ := ih h
      exact ⟨j, by omega, by omega, h3⟩

theorem runL_inj {f s i j : Int} (hs : 16 ≤ s) (h : f + i * s = f + j * s) : i = j := by
  have h1 : i * s = j * s := by omega
  exact Int.eq_of_mul_eq_mul_right (by omega) h1

theorem runL_nodup {f s : Int} (hs : 16 ≤ s) (k : Nat) : ∀ i : Int, (runL f s i k).Nodup := by
  induction k with
  | zero => intro i; simp [runL]
  | succ k ih =>
    intro i
    simp only [runL, List.nodup_cons]
    refine ⟨fun h => ?_, ih _⟩
    obtain ⟨j, h1, _, h3⟩ := runL_mem k h
    have := runL_inj hs h3
    omega

section
variable {W W' : World} {pb m g : Nat} {f s n made used hf hl : Int} {bs fs ls : List Int}

/-- Memory, when a block is linked ahead of a row: the row, and the other one. -/
theorem link_one {a h : Int} {xs ys : List Int} {hy : Int} (hl : a + 8 ≤ bs.length) (h0 : a ≠ 0) (h1 : 0 ≤ a) (hh0 : 0 ≤ h) (hh1 : h < 18446744073709551616) (hx : OnL bs h xs) (hyo : OnL bs hy ys) (hap : ∀ b ∈ xs ++ ys, a + 8 ≤ b ∨ b + 8 ≤ a) :
    OnL (stF bs a h) a (a :: xs) ∧ OnL (stF bs a h) hy ys := by
  refine ⟨⟨rfl, h0, h1, by rw [ldE_st _ _ _ _ h1]; exact ldE_of hl, ?_⟩, hyo.other a h h1 (fun b hb => hap b (List.mem_append_right _ hb))⟩
  rw [ldF_same bs a h h1 (ldE_of hl) hh0 hh1]
  exact hx.other a h h1 (fun b hb => hap b (List.mem_append_left _ hb))

/-- Between two rounds of more: t blocks are linked. -/
structure MoreJ (bs0 : List Int) (W : World) (pb m g : Nat) (f s n made used : Int) (hl : Int) (ls : List Int) (k t : Nat) (w : World) (bs : List Int) (h : Int) : Prop where
  row : Row W pb 175 (pageVs f s n made used m h (t : Nat) hl ls.length)
  mem : IsMem 149 W m g bs
  h0 : 0 ≤ h
  h1 : h < 18446744073709551616
  onf : OnL bs h (runL f s (made + ((k : Int) - t)) t)
  onl : OnL bs hl ls
  fr : Fr (LS g pb 6) w W
  len : f + n * s ≤ bs.length
  lens : bs.length = bs0.length
end

theorem row_cells {W : World} {pb m : Nat} {f s n made used hf nf hl nl : Int} (h : Row W pb 175 (pageVs f s n made used m hf nf hl nl)) :
    W.cell? ⟨pb, 0, none⟩ = some (.int .u64 f) ∧ W.cell? ⟨pb, 1, none⟩ = some (.int .u64 s) ∧ W.cell? ⟨pb, 2, none⟩ = some (.int .i64 n) ∧ W.cell? ⟨pb, 3, none⟩ = some (.int .i64 made) ∧ W.cell? ⟨pb, 4, none⟩ = some (.int .i64 used) ∧ W.cell? ⟨pb, 5, none⟩ = some (.pointer (some ⟨m, 0, none⟩)) ∧
    W.cell? ⟨pb, 6, none⟩ = some (.int .u64 hf) ∧ W.cell? ⟨pb, 7, none⟩ = some (.int .i64 nf) ∧ W.cell? ⟨pb, 8, none⟩ = some (.int .u64 hl) ∧ W.cell? ⟨pb, 9, none⟩ = some (.int .i64 nl) ∧ ∀ o, W.frozen? ⟨pb, o, none⟩ = false :=
  ⟨h.cell 0 (by simp [pageVs]), h.cell 1 (by simp [pageVs]), h.cell 2 (by simp [pageVs]), h.cell 3 (by simp [pageVs]), h.cell 4 (by simp [pageVs]), h.cell 5 (by simp [pageVs]), h.cell 6 (by simp [pageVs]), h.cell 7 (by simp [pageVs]), h.cell 8 (by simp [pageVs]), h.cell 9 (by simp [pageVs]), fun o => h.frozen o⟩

/-- A block pushed onto the row at 6, by the page's own hand: what it leaves. -/
theorem pushed {W W' : World} {pb m g : Nat} {f s n made used h hl a nl : Int} {t : Nat} {bs : List Int} (hr : Row W pb 175 (pageVs f s n made used m h (t : Nat) hl nl)) {e : Ending} (hp : PushPost m g pb 6 (stF bs a h, a, (t : Int) + 1, 0) W e W') (hg : pb ≠ g) :
    Row W' pb 175 (pageVs f s n made used m a ((t + 1 : Nat)) hl nl) := by
  obtain ⟨-, -, h3, h4⟩ := hp
  have := row_step hr h4 (fun o ho => by unfold LS at ho; omega) h3.head.1 h3.num.1 (by simp [pageVs])
  simpa [pageVs] using this

set_option maxRecDepth 100000 in
set_option maxHeartbeats 4000000 in
theorem more_any (pb m g : Nat) (f s n made used hl : Int) (bs ls : List Int) (w : World) (hp : IsPage w pb m g f s n made used bs 0 hl [] ls) (k : Nat) (hk : (k : Int) = mn 4 (n - made)) :
    Calls Try.prog 120 #[.pointer (some ⟨pb, 0, none⟩)] w fun e w' => e = .returned (.int .i64 0) ∧ (∃ bs' hf', IsPage w' pb m g f s n (made + k) used bs' hf' hl (runL f s made k) ls) ∧ Fr (PF g pb) w w' := by
  have HP := Lib.hid hp
  have hk4 := hk
  rw [mn_eq] at hk4
  have hk0 : (k : Int) ≤ n - made := by omega
  have hk5 : k ≤ 4 := by omega
  have hm0 := hp.made0
  have hm1 := hp.made1
  have hn1 := hp.run.n1
  obtain ⟨c0, c1, c2, c3, c4, c5, c6, c7, c8, c9, fz⟩ := row_cells hp.row
  have hw0 : IntKind.i64.wrap (n - made) = n - made := IntWalk.i64_in _ (by omega)
  have hmn : mn 4 (n - made) = (k : Int) := hk.symm
  clear hp hk4 hk
  go_enter Try.func120, Try.ntmps120
  go_wp2
  go_quiet (fail)
  go_wp2
  have HJ0 : Hid (MoreJ bs (w.drewN nq) pb m g f s n made used hl ls k 0 w bs 0) := Lib.hid
    ⟨HP.out.row.drewN nq, HP.out.mem.drewN nq, by decide, by decide, rfl, HP.out.onl, (Fr.refl _ _).drewN nq, HP.out.fits, rfl⟩
  clear c0 c1 c2 c3 c4 c5 c6 c7 c8 c9 fz hw0 hmn
  obtain ⟨W0, hW0⟩ : ∃ W, w.drewN nq = W := ⟨_, rfl⟩
  rw [hW0] at HJ0 ⊢
  clear hW0
  go_loopw [4] (fun i wr => ∃ (t : Nat) (bs' : List Int) (h : Int), t ≤ k ∧ i = .int .i64 ((k : Int) - 1 - t) ∧ Hid (MoreJ bs wr pb m g f s n made used hl ls k t w bs' h)) (fun i _ => (intOf i + 1).toNat)
  case atStart => exact ⟨0, bs, 0, Nat.zero_le _, by simp, HJ0⟩
  case round =>
    clear HJ0
    obtain ⟨t, bs', h, ht, rfl, HJ⟩ := hrel
    obtain ⟨c0, c1, c2, c3, c4, c5, c6, c7, c8, c9, fz⟩ := row_cells HJ.out.row
    by_cases hlt : t < k
    · have hi0 : (0 : Int) ≤ (k : Int) - 1 - t := by omega
      have hb := HP.out.good (made + ((k : Int) - 1 - t)) (by omega) (by omega)
      have HBK := fun W => block_any f s n (made + ((k : Int) - 1 - t)) HP.out.run (by omega) (by omega) W
      obtain ⟨ix, hix⟩ : ∃ x, made + ((k : Int) - 1 - t) = x := ⟨_, rfl⟩
      rw [hix] at hb
      simp only [hix] at HBK
      obtain ⟨a, ha⟩ : ∃ x, f + ix * s = x := ⟨_, rfl⟩
      rw [ha] at hb
      simp only [ha] at HBK
      obtain ⟨hb1, hb2, hb3⟩ := hb
      have HB := Lib.hid HBK
      have HIX := Lib.hid hix
      have HA := Lib.hid ha
      have hwx : IntKind.i64.wrap (made + ((k : Int) - 1 - t)) = ix := by rw [hix]; exact IntWalk.i64_in _ (by omega)
      clear HBK hix ha
      go_wp2
      go_region_held3 (fun w' => w'.cell? ⟨pb, 0, none⟩ = some (.int .u64 f) ∧ w'.cell? ⟨pb, 1, none⟩ = some (.int .u64 s) ∧ w'.cell? ⟨pb, 2, none⟩ = some (.int .i64 n) ∧ w'.cell? ⟨pb, 3, none⟩ = some (.int .i64 made)) (go_keep) ((go_at_call 150; refine (HB.out _).mono ?_; rintro e w5 ⟨rfl, hf5⟩; have HF5 := Lib.hid hf5; have hrow5 := HJ.out.row.drew.fr hf5 (fun _ h => h); obtain ⟨d0, d1, d2, d3, -, d5, -⟩ := row_cells hrow5; have hfz5 := hrow5.frozen; have HROW5 := Lib.hid hrow5; clear hf5 hrow5))
      clear hwx
      have hm5 := HJ.out.mem.drew.fr HF5.out (fun _ h => h) (fun _ h => h)
      have honl5 := HJ.out.onl
      have HM5 := Lib.hid hm5
      clear hm5 honl5
      go_wp2
      have HM6 := Lib.hid (HM5.out.drew.alloc (.cells #[.int .u64 a] 22))
      have HROW6 := Lib.hid (HROW5.out.drew.alloc (.cells #[.int .u64 a] 22))
      have HC6 := Lib.hid (cells_one w5.drew 22 (.int .u64 a))
      have HF6 := Lib.hid ((HJ.out.fr.drew.step HF5.out (fun _ _ _ h => h.elim)).drew.alloc (.cells #[.int .u64 a] 22))
      have HSZ := Lib.hid (show pb < w5.drew.heap.size ∧ g < w5.drew.heap.size from ⟨HROW5.out.lt, HM5.out.bytes.lt⟩)
      clear c0 c1 c2 c3 c4 c5 c6 c7 c8 c9 fz HM5 HF5
      have hl6 : IsList (w5.drew.alloc (.cells #[.int .u64 a] 22)) pb 6 h (t : Nat) := ⟨Cel.of_row HROW6.out 6 (by simp [pageVs]), Cel.of_row HROW6.out 7 (by simp [pageVs]), HJ.out.h0, HJ.out.h1⟩
      have hps := push_any m g pb 6 1 (some ⟨w5.drew.heap.size, 0, none⟩) [a] bs' h (t : Nat) _ HM6.out hl6 HP.out.nm HP.out.ng HC6.out (by intro b off e; injection e with e; injection e with e1 e2; have := HSZ.out; omega) (by intro y hy; rw [List.mem_singleton.1 hy]; omega) (by omega) (by simp; omega)
      have hlen' : bs'.length = bs.length := HJ.out.lens
      have hpf : pushF bs' h (t : Nat) [a] = (stF bs' a h, a, ((t : Nat) : Int) + 1, 0) := by
        rw [pushF, if_neg (by omega), if_pos (ldE_of (by omega))]
        rfl
      rw [hpf] at hps
      have HPS := Lib.hid hps
      have HLEN := Lib.hid hlen'
      clear hps hlen' hpf hl6
      go_region_held3 (fun w' => w'.cell? ⟨pb, 5, none⟩ = some (.pointer (some ⟨m, 0, none⟩))) (go_keep) ((go_at_call 29; refine HPS.out.mono ?_; rintro e w7 hpp; have hrow7 := pushed HROW6.out hpp HP.out.ng; obtain ⟨rfl, hm7, -, hf7⟩ := hpp; obtain ⟨-, -, -, -, -, g5, -⟩ := row_cells hrow7; have HROW7 := Lib.hid hrow7; have HM7 := Lib.hid hm7; have HF7 := Lib.hid hf7; clear hrow7 hm7 hf7))
      have hlen' := HLEN.out
      have hrow7 := HROW7.out
      have hm7 := HM7.out
      have hf7 := HF7.out
      have HJ7 : Hid (MoreJ bs w7 pb m g f s n made used hl ls k (t + 1) w (stF bs' a h) a) := by
        have hlk := link_one (a := a) (h := h) (xs := runL f s (made + ((k : Int) - t)) t) (ys := ls) (hy := hl) (bs := bs') (by omega) (by omega) (by omega) HJ.out.h0 HJ.out.h1 HJ.out.onf HJ.out.onl (by
          intro b hb
          rcases List.mem_append.1 hb with hb | hb
          · obtain ⟨j, j1, j2, rfl⟩ := runL_mem t hb
            rw [← HA.out]
            exact run_apart HP.out.s16 f ix j (by have := HIX.out; omega)
          · obtain ⟨j, j1, j2, rfl⟩ := HP.out.blk b (by simpa using hb)
            rw [← HA.out]
            exact run_apart HP.out.s16 f ix j (by have := HIX.out; omega))
        refine Lib.hid ⟨hrow7, hm7, by omega, hb3, ?_, hlk.2, HF6.out.step hf7 (fun _ _ _ h => h), by rw [stF_len _ _ _ (by omega)]; exact HJ.out.len, by rw [stF_len _ _ _ (by omega)]; exact hlen'⟩
        have e1 : made + ((k : Int) - ((t + 1 : Nat) : Int)) = ix := by have := HIX.out; omega
        have e2 : ix + 1 = made + ((k : Int) - t) := by have := HIX.out; omega
        rw [e1, runL, HA.out, e2]
        exact hlk.1
      clear hrow7 hm7 hf7 hlen' g5 d0 d1 d2 d3 d5 hfz5
      go_wp2
      go_roundw
      case rel => exact ⟨t + 1, _, a, by omega, by congr 1; omega, HJ7⟩
      case measure => simp [intOf]; omega
    · have htk : t = k := by omega
      subst htk
      have hi0 : ¬ (0 : Int) ≤ (t : Int) - 1 - t := by omega
      have hwm : made + (t : Int) ≤ 1024 := by omega
      have HJ2 := HJ
      have HRS := Lib.hid (HJ.out.row.set 3 (.int .i64 (made + t)))
      go_wp2
      go_ret
      have hj := HJ.out
      have hpp := HP.out
      have hrow := hj.row.set 3 (.int .i64 (made + t))
      have hF1 : Fr (PF g pb) wr (wr.setCell ⟨pb, 3, none⟩ (.int .i64 (made + t))) := (Fr.refl _ _).setCell pb 3 (fun _ => .inr rfl) _
      have hF2 : Fr (PF g pb) w (wr.setCell ⟨pb, 3, none⟩ (.int .i64 (made + t))) := (hj.fr.mono (fun k o _ h => by unfold LS at h; unfold PF; omega)).trans hF1
      have hm2 : IsMem 149 (wr.setCell ⟨pb, 3, none⟩ (.int .i64 (made + t))) m g bs' := hj.mem.fr ((Fr.refl (fun k _ => k = pb) wr).setCell pb 3 (fun _ => rfl) _) (fun _ e => hpp.nm e.symm) (fun _ e => hpp.ng e.symm)
      refine ⟨rfl, ⟨bs', h, ⟨?_, hm2, hpp.nm, hpp.ng, hpp.run, hpp.s16, hpp.f1, hpp.n1, hj.len, hj.h0, hj.h1, hpp.hl0, hpp.hl1, ?_, hj.onl, by omega, by omega, hpp.used0, ?_, ?_, ?_⟩⟩, hF2⟩
      · rw [runL_len]
        simpa [pageVs] using hrow
      · have := hj.onf
        rwa [show made + ((t : Int) - t) = made from by omega] at this
      · rw [runL_len]
        have := hpp.sum
        simp only [List.length_nil] at this
        omega
      · intro a ha
        rcases List.mem_append.1 ha with ha | ha
        · obtain ⟨j, j1, j2, rfl⟩ := runL_mem t ha
          exact ⟨j, by omega, by omega, rfl⟩
        · obtain ⟨j, j1, j2, rfl⟩ := hpp.blk a (by simpa using ha)
          exact ⟨j, j1, by omega, rfl⟩
      · refine List.nodup_append.2 ⟨runL_nodup hpp.s16 t made, by simpa using hpp.nodup, ?_⟩
        intro x hx y hy e
        subst e
        obtain ⟨j, j1, j2, rfl⟩ := runL_mem t hx
        obtain ⟨i, i1, i2, e⟩ := hpp.blk _ (by simpa using hy)
        have := runL_inj hpp.s16 e
        omega

end Go.Proofs.Ythginpedlfocpaa
