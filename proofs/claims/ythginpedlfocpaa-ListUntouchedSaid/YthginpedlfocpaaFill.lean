/- Contracts of mem: Fill of the whole memory with one byte. -/
import Derived.Test.YthginpedlfocpaaGet
import Derived.Laws.CopyOwn
import Derived.Laws.Tables
namespace Go.Proofs.Ythginpedlfocpaa
open Go.RowKit Go.Alo Go.Shelf
attribute [local go_sem] max_ints min_ints

theorem fr_setRow (w : World) (g : Nat) (cur cs : Array Value) (t : TypeId) (h : w.heap[g]? = some (.cells cur t (0, 0))) (hs : cs.size = cur.size) : Fr (fun k _ => k = g) w (w.setRow g cs) := by
  refine ⟨rfl, rfl, rfl, by simp [World.setRow], ?_, ?_⟩
  · intro k c e f hk
    by_cases hb : k = g
    · subst hb
      rw [h] at hk
      injection hk with hk
      injection hk with e1 e2 e3
      subst e1 e2 e3
      exact ⟨cs, setRow_heap w k _ cs _ _ h, hs, fun o ho => absurd rfl ho⟩
    · exact ⟨c, (setRow_other w g k cs hb).trans hk, rfl, fun _ _ => rfl⟩
  · intro k x hk hn
    by_cases hb : k = g
    · subst hb
      rw [h] at hk
      injection hk with hk
      exact absurd hk.symm (hn _ _ _)
    · exact (setRow_other w g k cs hb).trans hk

theorem mem_setRow {T : Nat} {w : World} {m g : Nat} {bs : List Int} (h : IsMem T w m g bs) (bs' : List Int) (hl : bs'.length = bs.length) (hb : ∀ b ∈ bs', 0 ≤ b ∧ b < 256) :
    IsMem T (w.setRow g (ints .u8 bs').toArray) m g bs' ∧ Fr (fun k _ => k = g) w (w.setRow g (ints .u8 bs').toArray) := by
  have hf := fr_setRow w g _ (ints .u8 bs').toArray _ h.bytes (by simp [ints, hl])
  refine ⟨⟨?_, setRow_heap w g _ _ _ _ h.bytes, h.ne, hb, by rw [hl]; exact h.len⟩, hf⟩
  rw [hl]
  exact h.obj.fr hf (fun _ e => h.ne e)

/-- Memory, filled so far. -/
def fillF (bs : List Int) (c : Int) (i : Nat) : List Int := List.replicate i c ++ bs.drop i

theorem fillF_len (bs : List Int) (c : Int) (i : Nat) (h : i ≤ bs.length) : (fillF bs c i).length = bs.length := by simp [fillF]; omega
theorem fillF_step (bs : List Int) (c : Int) (i : Nat) (h : i < bs.length) : (fillF bs c i).take i ++ ([c] ++ (fillF bs c i).drop (i + 1)) = fillF bs c (i + 1) := by
  unfold fillF
  rw [List.take_append_of_le_length (by simp), List.take_of_length_le (by simp), List.drop_append, List.drop_of_length_le (by simp), List.nil_append, List.drop_drop, List.length_replicate, show i + (i + 1 - i) = i + 1 from by omega, List.replicate_succ', List.append_assoc]
theorem fillF_byt {bs : List Int} {c : Int} (hb : ∀ b ∈ bs, 0 ≤ b ∧ b < 256) (hc : 0 ≤ c ∧ c < 256) (i : Nat) : ∀ b ∈ fillF bs c i, 0 ≤ b ∧ b < 256 := by
  intro b hm
  rcases List.mem_append.1 hm with h | h
  · rw [List.eq_of_mem_replicate h]; exact hc
  · exact hb b (List.mem_of_mem_drop h)

set_option maxRecDepth 100000 in
set_option maxHeartbeats 2000000 in
theorem fill_whole (m g fb fo fc : Nat) (bs : List Int) (c : Int) (w : World) (hm : IsMem 149 w m g bs) (hp : 0 < bs.length) (hc : w.cell? ⟨fb, fo, none⟩ = some (.int .u8 c)) (hfg : fb ≠ g) (hcb : 0 ≤ c ∧ c < 256) :
    Calls Try.prog 62 #[.pointer (some ⟨m, 0, none⟩), .int .u64 0, .int .u64 bs.length, .slice (some ⟨fb, fo, none⟩) 1 fc] w fun e w' => e = .returned (.int .i64 0) ∧ IsMem 149 w' m g (List.replicate bs.length c) ∧ Fr (fun k _ => k = g) w w' := by
  have HM := Lib.hid hm
  have hl := hm.len
  have HC := Lib.hid hc
  have HCB := Lib.hid hcb
  have hin := in_any m g bs 0 bs.length w hm (by omega) (by omega)
  have e1 : inL bs.length 0 bs.length = bs.length := by unfold inL; rw [if_pos (by omega)]; omega
  have e2 : inC bs.length 0 bs.length = bs.length := by unfold inC; rw [if_pos (by omega)]; rfl
  have e3 : inE bs.length 0 bs.length = 0 := by unfold inE; rw [if_pos (by omega)]
  have e4 : inA g bs.length 0 bs.length = some ⟨g, 0, none⟩ := by unfold inA; rw [if_pos (by omega), if_neg (by omega)]; rfl
  rw [e1, e2, e3, e4] at hin
  have HIN := Lib.hid hin
  clear hin e1 e2 e3 e4 hm hc hcb
  go_enter Try.func62, Try.ntmps62
  go_wp2_with fail
  refine HIN.out.mono ?_
  rintro e w1 ⟨rfl, rfl⟩
  go_wp2
  go_loopw [9] (fun s wr => ∃ (i : Nat) (A : Option Addr), i ≤ bs.length ∧ s = .slice A (bs.length - i) (bs.length - i) ∧ Hid (i < bs.length → A = some ⟨g, i, none⟩) ∧ Hid (IsMem 149 wr m g (fillF bs c i)) ∧ Hid (Fr (fun k _ => k = g) w wr)) (fun s _ => match s with | .slice _ n _ => n | _ => 0)
  case atStart => exact ⟨0, some ⟨g, 0, none⟩, Nat.zero_le _, rfl, fun _ => rfl, HM.out, Fr.refl _ _⟩
  case round =>
    obtain ⟨i, A, hi, rfl, HA, HMi, HF⟩ := hrel
    by_cases hlt : i < bs.length
    · obtain rfl := HA.out hlt
      obtain ⟨r, hr⟩ : ∃ r, bs.length - i = r + 1 := ⟨bs.length - i - 1, by omega⟩
      have HRR := Lib.hid hr
      rw [hr]
      have hcell : wr.cell? ⟨fb, fo, none⟩ = some (.int .u8 c) := HF.out.cell HC.out hfg
      have hpos : (0 : Int) < ((r + 1 : Nat) : Int) := by omega
      clear hr
      have hcz : (Try.prog.info? 5).map (·.size) = some 1 := by kernel_rfl
      have hcn : ([Value.int .u8 c] : List Value).length = Nat.min 1 (r + 1) := (Nat.min_eq_left (Nat.succ_le_succ (Nat.zero_le r))).symm
      have hsrc : ∀ j v, ([Value.int .u8 c] : List Value)[j]? = some v → wr.cell? ((⟨fb, fo, none⟩ : Addr).add j) = some v := by
        intro j v hj
        have hj0 : j = 0 := by have := (List.getElem?_eq_some_iff.1 hj).1; simpa using this
        subst hj0
        simp only [List.getElem?_cons_zero, Option.some.injEq] at hj
        rw [← hj]
        exact hcell
      have hfit : i + ([Value.int .u8 c] : List Value).length ≤ (ints .u8 (fillF bs c i)).toArray.size := by
        have e : (ints .u8 (fillF bs c i)).toArray.size = bs.length := by simp [ints, fillF_len bs c i hi]
        rw [e]
        show i + 1 ≤ bs.length
        omega
      have hone : ∀ v ∈ ([Value.int .u8 c] : List Value), v.oneCell' = true := by intro v hv; rw [List.mem_singleton.1 hv]; rfl
      have heq : ((ints .u8 (fillF bs c i)).toArray.toList.take i ++ ([Value.int .u8 c] ++ (ints .u8 (fillF bs c i)).toArray.toList.drop (i + ([Value.int .u8 c] : List Value).length))).toArray = (ints .u8 (fillF bs c (i + 1))).toArray := by
        rw [← fillF_step bs c i hlt]
        simp [ints, List.map_take, List.map_drop]
      obtain ⟨hms, hfs⟩ := mem_setRow HMi.out (fillF bs c (i + 1)) (by rw [fillF_len _ _ _ hi, fillF_len _ _ _ (by omega)]) (fillF_byt HM.out.byt HCB.out _)
      rw [← heq] at hms hfs
      have HMS := Lib.hid hms
      have HFS := Lib.hid hfs
      have HS := Lib.hid hsrc
      have HI := Lib.hid hone
      have HCZ := Lib.hid hcz
      have HCN := Lib.hid hcn
      clear hms hfs heq hsrc hone hcz hcn
      go_wp2_with ((with_reducible refine gate (N := 28) rfl ?_); refine wpList_copy_own rfl (.tmp 26) (.tmp 27) 29 29 rfl 5 Try.underlying29 HCZ.out g i (r + 1) (r + 1) ⟨fb, fo, none⟩ 1 fc rfl rfl (ints .u8 (fillF bs c i)).toArray 5 HMi.out.bytes [.int .u8 c] HCN.out HS.out hfit HI.out ?_; rw [show goInt ([Value.int .u8 c] : List Value).length = .int .i64 1 from rfl]; obtain ⟨W2, hW2⟩ : ∃ W, wr.setRow g ((ints .u8 (fillF bs c i)).toArray.toList.take i ++ ([Value.int .u8 c] ++ (ints .u8 (fillF bs c i)).toArray.toList.drop (i + ([Value.int .u8 c] : List Value).length))).toArray = W := ⟨_, rfl⟩; rw [hW2] at HMS HFS ⊢; clear hW2)
      have hrr : bs.length - (i + 1) = r := by have := HRR.out; omega
      refine ⟨⟨i + 1, _, by omega, by rw [hrr], ?_, HMS, Lib.hid (HF.out.step HFS.out (fun _ _ _ h => h))⟩, Nat.lt_succ_self r⟩
      intro h
      rw [if_neg (by omega)]
    · have hz : bs.length - i = 0 := by omega
      rw [hz]
      go_wp2
      go_ret
      have hib : i = bs.length := by omega
      have := HMi.out
      rw [hib] at this
      refine ⟨rfl, ?_, HF.out⟩
      have e : fillF bs c bs.length = List.replicate bs.length c := by simp [fillF]
      rw [e] at this
      exact this

end Go.Proofs.Ythginpedlfocpaa
