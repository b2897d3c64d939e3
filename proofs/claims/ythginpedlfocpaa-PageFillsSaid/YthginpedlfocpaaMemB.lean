/- Contracts of mem: words are loaded. -/
import Derived.Test.YthginpedlfocpaaMemA
import Derived.Laws.BitsAllLaws
namespace Go.Proofs.Ythginpedlfocpaa
open Go.RowKit Go.Alo Go.Shelf
attribute [local go_sem] Oper.semAt_some max_ints min_ints

/-- What bytes are worth, the lowest first. -/
def ldl : List Int → Int
  | [] => 0
  | b :: l => b + 256 * ldl l

theorem ldl_bd (l : List Int) (h : ∀ b ∈ l, 0 ≤ b ∧ b < 256) : 0 ≤ ldl l ∧ ldl l < 256 ^ l.length := by
  induction l with
  | nil => simp [ldl]
  | cons b l ih =>
    have h1 := h b (by simp)
    have h2 := ih (fun x hx => h x (by simp [hx]))
    simp only [ldl, List.length_cons, Int.pow_succ]
    omega

theorem or_join (x c : Int) (h0 : 0 ≤ x) (h1 : x < 72057594037927936) (c0 : 0 ≤ c) (c1 : c < 256) : bits .or .u64 (x * 256) c = x * 256 + c := by
  rw [u64_or _ _ (by omega) (by omega) (by omega) (by omega), nat_join 8 _ _ (by omega) (by omega)]
  omega

/-- The bytes of a word at an address; none if it isn't in the memory. -/
def sub8 (bs : List Int) (addr : Int) : List Int := if addr ≤ bs.length ∧ 8 ≤ bs.length - addr then (bs.drop addr.toNat).take 8 else []
def ldF (bs : List Int) (addr : Int) : Int := ldl (sub8 bs addr)
def ldE (bs : List Int) (addr : Int) : Int := if addr ≤ bs.length ∧ 8 ≤ bs.length - addr then 0 else 3

theorem sub8_len (bs : List Int) (addr : Int) (h0 : 0 ≤ addr) : (sub8 bs addr).length = inL bs.length addr 8 ∧ (sub8 bs addr).length ≤ 8 := by
  unfold sub8 inL
  split
  · simp; omega
  · simp

theorem sub8_byt (bs : List Int) (addr : Int) (hb : ∀ b ∈ bs, 0 ≤ b ∧ b < 256) : ∀ b ∈ sub8 bs addr, 0 ≤ b ∧ b < 256 := by
  unfold sub8
  split
  · intro b h; exact hb b (List.mem_of_mem_drop (List.mem_of_mem_take h))
  · intro b h; simp at h

theorem sub8_reads {w : World} {m g : Nat} {bs : List Int} {addr : Int} {T : Nat} (h0 : 0 ≤ addr) (hm : IsMem T w m g bs) : Reads w (inA g bs.length addr 8) (ints .u8 (sub8 bs addr)) := by
  unfold sub8 inA
  split
  · rename_i h
    rw [if_neg (by omega)]
    refine .inr ⟨g, addr.toNat, rfl, fun i v hi => ?_⟩
    rw [hm.bytes.get]
    simp only [ints, List.getElem?_map, List.getElem?_take, List.getElem?_drop] at hi ⊢
    split at hi
    · exact hi
    · simp at hi
  · exact .inl rfl

set_option maxRecDepth 100000 in
set_option maxHeartbeats 2000000 in
theorem load_any (m g : Nat) (bs : List Int) (addr : Int) (w : World) (hm : IsMem 149 w m g bs) (h0 : 0 ≤ addr) (h1 : addr < 18446744073709551616) :
    Calls Try.prog 101 #[.pointer (some ⟨m, 0, none⟩), .int .u64 addr, .int .i64 8] w fun e w' =>
      e = .returned (.tuple #[.int .u64 (ldF bs addr), .int .i64 (ldE bs addr)]) ∧ Fr nil2 w w' := by
  have HM := Lib.hid hm
  obtain ⟨hs1, hs2⟩ := sub8_len bs addr h0
  have hbyt := sub8_byt bs addr hm.byt
  have hrd : ∀ W, Fr nil2 w W → Reads W (inA g bs.length addr 8) (ints .u8 (sub8 bs addr)) := fun W hW => (sub8_reads h0 hm).fr hW (fun _ _ _ _ _ _ h => h)
  have HRD := Lib.hid hrd
  have HS1 := Lib.hid hs1
  have HBYT := Lib.hid hbyt
  clear hm hrd hs1 hbyt
  have h88 : mx 8 0 = 8 := by decide
  refine (callsIn_wide (n := 3)).1 ?_
  refine callsIn_of_wp_marks Try.func101 rfl trivial ?_ rfl
  simp only [Try.ntmps101, List.size_toArray, List.length_cons, List.length_nil, Nat.reduceAdd, Nat.reduceSub, Array.replicate_succ, Array.replicate_zero, List.push_toArray, List.append_toArray, List.nil_append, List.cons_append]
  gi_wp2_with fail
  refine ⟨trivial, (callsIn_wide.2 (may8 _)).mono ?_⟩
  rintro e w' ⟨rfl, rfl⟩
  gi_wp2_with fail
  refine ⟨trivial, (callsIn_wide.2 (in_any m g bs addr 8 _ ?_ h0 (by omega))).mono ?_⟩
  · exact HM.out.alloc _
  rintro e w' ⟨rfl, rfl⟩
  gi_wp2_with fail
  refine ⟨trivial, (callsIn_wide.2 (backward_any _ rfl _)).mono ?_⟩
  rintro e w' ⟨rfl, rfl⟩
  gi_wp2_with fail
  have hW : Fr nil2 w ((w.alloc (.cells #[.int .u64 0] 22)).alloc (.cells #[.slice (inA g bs.length addr 8) (inL bs.length addr 8) (inC bs.length addr 8)] 29)) := ((Fr.refl _ _).alloc _).alloc _
  have hX : Cel ((w.alloc (.cells #[.int .u64 0] 22)).alloc (.cells #[.slice (inA g bs.length addr 8) (inL bs.length addr 8) (inC bs.length addr 8)] 29)) w.heap.size 0 (.int .u64 0) := (Cel.new w _ _).alloc _
  have hS : Cel ((w.alloc (.cells #[.int .u64 0] 22)).alloc (.cells #[.slice (inA g bs.length addr 8) (inL bs.length addr 8) (inC bs.length addr 8)] 29)) (w.heap.size + 1) 0 (.slice (inA g bs.length addr 8) (inL bs.length addr 8) (inC bs.length addr 8)) := by
    have := Cel.new (w.alloc (.cells #[.int .u64 0] 22)) 29 (.slice (inA g bs.length addr 8) (inL bs.length addr 8) (inC bs.length addr 8))
    rwa [World.size_alloc] at this
  generalize hW0 : (w.alloc (.cells #[.int .u64 0] 22)).alloc (.cells #[.slice (inA g bs.length addr 8) (inL bs.length addr 8) (inC bs.length addr 8)] 29) = W0 at *
  have hsz : w.heap.size + 1 < W0.heap.size := hS.lt
  have hSr : W0.cell? ⟨w.heap.size + 1, 0, none⟩ = some (.slice (inA g bs.length addr 8) (sub8 bs addr).length (inC bs.length addr 8)) := by rw [HS1.out]; exact hS.1
  have hgA : ∀ b off, inA g bs.length addr 8 = some ⟨b, off, none⟩ → b = g := by
    intro b off h
    unfold inA at h
    split at h
    · simp only [Option.some.injEq, Addr.mk.injEq] at h; exact h.1.symm
    · simp at h
  have hgX : g ≠ w.heap.size := by have := HM.out.bytes.lt; omega
  refine range_law (gf := 161) (lb := #[.pointer (some ⟨w.heap.size + 1, 0, none⟩)]) rfl (enters_of Try.func161 (by kernel_rfl) rfl)
    (back_iter _ (w.heap.size + 1) (inC bs.length addr 8) (inA g bs.length addr 8) (sub8 bs addr) W0 hSr (HRD.out W0 hW) (by omega))
    (fun h k => ⟨k.1.trans h.1, fun b off e o => (k.2 b off e o).trans (h.2 b off e o)⟩) ?kb (fun x => rfl)
    (fun pre W => Fr nil2 w W ∧ W0.heap.size ≤ W.heap.size ∧ Cel W w.heap.size 0 (.int .u64 (ldl ((sub8 bs addr).drop ((sub8 bs addr).length - pre.length)))))
    (fun _ _ _ => False) ?hJ (fun _ => ⟨fun _ _ _ _ _ _ _ _ h => h, fun _ _ _ _ h => h⟩) ?f1 ?f2 ?h0 ?round ?done ?stop
  case kb =>
    intro W l o o' hl ho hc
    refine ⟨cell_put_ne (by omega), fun b off e o => cell_put_ne ?_⟩
    have := hgA b off e
    have := HM.out.bytes.lt
    omega
  case hJ =>
    exact ⟨fun s W l o o' hl ho hc h => ⟨h.1.putObj l o' (by omega), by simpa [World.putObj] using h.2.1, h.2.2.put ho hc⟩, fun s W o hB h => ⟨h.1.alloc o, by have := h.2.1; simp; omega, h.2.2.alloc o⟩⟩
  case f1 => exact fun l r D d _ _ => FineFr.loop (fun s W W' h f => ⟨h.1.step f (fun _ _ _ h => h), Nat.le_trans h.2.1 f.size, h.2.2.fr f (fun h => h)⟩) l r D d
  case f2 => exact fun l r D d _ _ => FineFr.loopx (fun _ _ _ _ h _ => h) l r D d
  case h0 => exact ⟨hW, Nat.le_refl _, by simpa [ldl] using hX⟩
  case round =>
    rintro l pre x W hl ⟨hf, hsW, hc⟩ hok
    apply Exists.intro
    apply And.intro
    · intro Wq K hK
      simp [encB]
      gi_wp2
      exact hK
    · obtain ⟨hlen, hx2⟩ := backL_pre hok
      have hd := ldl_bd ((sub8 bs addr).drop ((sub8 bs addr).length - pre.length)) (fun b hb => HBYT.out b (List.mem_of_mem_drop hb))
      have hi : (sub8 bs addr).length - 1 - pre.length < (sub8 bs addr).length := by omega
      have hbx := HBYT.out _ (List.getElem_mem hi)
      have hx2' : x.2 = (sub8 bs addr)[(sub8 bs addr).length - 1 - pre.length] := by rw [hx2]; simp [hi]
      rw [← hx2'] at hbx
      have hnew : ldl ((sub8 bs addr).drop ((sub8 bs addr).length - (pre.length + 1))) = x.2 + 256 * ldl ((sub8 bs addr).drop ((sub8 bs addr).length - pre.length)) := by
        rw [show (sub8 bs addr).length - (pre.length + 1) = (sub8 bs addr).length - 1 - pre.length from by omega, List.drop_eq_getElem_cons hi, ldl, ← hx2', show (sub8 bs addr).length - 1 - pre.length + 1 = (sub8 bs addr).length - pre.length from by omega]
      rw [List.length_drop, show (sub8 bs addr).length - ((sub8 bs addr).length - pre.length) = pre.length from by omega] at hd
      have hp7 : (256 : Int) ^ pre.length ≤ 72057594037927936 := by
        have h7 : pre.length ≤ 7 := by omega
        have : (256 : Int) ^ pre.length ≤ 256 ^ 7 := by
          exact_mod_cast Nat.pow_le_pow_right (by decide) h7
        have e7 : (256 : Int) ^ 7 = 72057594037927936 := by decide
        omega
      generalize hy : ldl ((sub8 bs addr).drop ((sub8 bs addr).length - pre.length)) = y at *
      obtain ⟨hc1, hc2⟩ := hc
      have hy0 : 0 ≤ y := hd.1
      have hy1 : y < 72057594037927936 := by omega
      have hor := or_join y x.2 hy0 hy1 hbx.1 hbx.2
      have HNEW := Lib.hid hnew
      have HF := Lib.hid hf
      have hx0 := hbx.1
      have hx1 := hbx.2
      clear hnew hf hd hx2 hx2' hbx hp7 hok hy
      gi_wp2
      have hfs : Fr (fun k q => k = w.heap.size ∧ q = 0) W (W.setCell ⟨w.heap.size, 0, none⟩ (.int .u64 (y * 256 + x.2))) := (Fr.refl _ _).setCell _ _ (fun _ => ⟨rfl, rfl⟩) _
      refine ⟨KeepsOthers.setCell _ _ _, ⟨hfs.cellN (by omega) (by omega), fun b off e o => hfs.cellN ?_ ?_⟩, ⟨HF.out.setCell _ _ (by omega) _, by simpa [World.setCell] using hsW, ?_⟩⟩
      · have := hgA b off e
        have := HM.out.bytes.lt
        omega
      · have := hgA b off e
        omega
      · have h := Cel.set ⟨hc1, hc2⟩ (.int .u64 (y * 256 + x.2))
        rw [List.length_append, List.length_singleton, HNEW.out, show x.2 + 256 * y = y * 256 + x.2 from by omega]
        exact h
  case done =>
    rintro D xs W hD rfl ⟨hf, hsW, hc1, hc2⟩ hK
    have HF := Lib.hid hf
    rw [backL_all, Nat.sub_self, List.drop_zero] at hc1
    clear hf
    gi_wp2
    have hK' : (W.setCell ⟨w.heap.size, 0, none⟩ (.int .u64 (ldl (sub8 bs addr)))).heap[D]? = some (.deferred (some [])) := (KeepsOthers.setCell W _ _).same D _ hK rfl
    have hc' := (Cel.set ⟨hc1, hc2⟩ (.int .u64 (ldl (sub8 bs addr)))).put (x' := .deferred none) hK' rfl
    refine ⟨by simp, .inl ⟨_, _, rfl, run_takeDeferred hK', ?_⟩⟩
    refine ⟨.tuple #[.int .u64 (ldl (sub8 bs addr)), .int .i64 (inE bs.length addr 8)], ?_, rfl, ?_⟩
    · simp [results, Try.results101, go_sem, hc'.1]
    · exact (HF.out.setCell _ _ (by omega) _).putObj _ _ (by omega)
  case stop => exact fun _ _ _ _ _ _ h => h.elim

end Go.Proofs.Ythginpedlfocpaa
