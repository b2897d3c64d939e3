/- The laws of lists: their example. -/
import Derived.Test.YthginpedlfocpaaListLaw
namespace Go.Proofs.Ythginpedlfocpaa
open Go.RowKit Go.Alo Go.Shelf
attribute [local go_sem] max_ints min_ints

set_option maxHeartbeats 1000000 in
theorem push_nil (A : Option Addr) (cap n : Nat) (M : Value) (w : World) :
    Calls Try.prog 29 #[.pointer none, M, .slice A n cap] w fun e w' => e = .returned (.int .i64 1) ∧ w' = w := by
  go_enter Try.func29, Try.ntmps29
  go_wp2
  go_ret
  exact ⟨rfl, rfl⟩

theorem cells_two (w : World) (e : TypeId) (x y : Value) : Reads (w.alloc (.cells #[x, y] e)) (some ⟨w.heap.size, 0, none⟩) [x, y] := by
  refine .inr ⟨_, _, rfl, fun i v hi => ?_⟩
  have := (Row.new w e [x, y]).cell i (List.getElem?_eq_some_iff.1 hi).1
  rw [Nat.zero_add]
  rw [this]
  exact congrArg some (List.getElem?_eq_some_iff.1 hi).2

theorem alive_list : ∃ bs h, pushF (List.replicate 1024 0) 0 0 [16, 32] = (bs, 32, 2, 0) ∧ h = (32 : Int) ∧ OnL bs 32 [32, 16] ∧ bs.length = 1024 := by
  have hr : (List.replicate 1024 (0 : Int)).length = 1024 := List.length_replicate
  generalize List.replicate 1024 (0 : Int) = z at hr ⊢
  obtain ⟨bs, h', h1, h2, h3, h4, h5, h6⟩ := push_law [16, 32] z 0 0 [] rfl (by decide) (by decide) (by unfold Apart; simp) (by rw [hr]; intro a ha; simp at ha; rcases ha with rfl | rfl <;> simp)
  have e : h' = 32 := h2.1
  subst e
  exact ⟨bs, _, h1, rfl, h2, by rw [h3, hr]⟩

set_option maxRecDepth 100000 in
set_option maxHeartbeats 2000000 in
theorem alive_any (w : World) : Calls Try.prog 26 #[] w fun e w' => e = .returned (.bool true) ∧ Fr nil2 w w' := by
  obtain ⟨bs, _, hp, -, hon, hlen⟩ := alive_list
  have HP := Lib.hid hp
  have HON := Lib.hid hon
  have HLEN := Lib.hid hlen
  clear hp hon hlen
  go_enter Try.func26, Try.ntmps26
  go_wp2_with fail
  refine (new_any 1024 w (by decide) (by decide) (by decide)).mono ?_
  rintro e w1 ⟨rfl, rfl⟩
  have HM := Lib.hid (newMem_is 149 1024 w (by decide))
  have HF := Lib.hid (newMem_fr 149 1024 w nil2)
  obtain ⟨W1, hW1⟩ : ∃ W, newMem 149 1024 w = W := ⟨_, rfl⟩
  rw [hW1] at HM HF ⊢
  clear hW1
  go_wp2_with fail
  have hl0 := Row.new W1 36 [.int .u64 0, .int .i64 0]
  have HL3 : Hid (IsList ((W1.alloc (.cells #[.int .u64 0, .int .i64 0] 36)).alloc (.cells #[.int .u64 16, .int .u64 32] 22)) W1.heap.size 0 0 0) :=
    Lib.hid ⟨(Cel.of_row hl0 0 (by simp)).alloc _, (Cel.of_row hl0 1 (by simp)).alloc _, by decide, by decide⟩
  have HM3 := Lib.hid ((HM.out.alloc (.cells #[.int .u64 0, .int .i64 0] 36)).alloc (.cells #[.int .u64 16, .int .u64 32] 22))
  have HR3 := Lib.hid (cells_two (W1.alloc (.cells #[.int .u64 0, .int .i64 0] 36)) 22 (.int .u64 16) (.int .u64 32))
  have HF3 := Lib.hid ((HF.out.alloc (.cells #[.int .u64 0, .int .i64 0] 36)).alloc (.cells #[.int .u64 16, .int .u64 32] 22))
  have hsm := HM.out.obj.lt
  have hsg := HM.out.bytes.lt
  have HSZ := Lib.hid HF.out.size
  rw [World.size_alloc] at HR3
  clear hl0
  obtain ⟨W3, hW3⟩ : ∃ W, ((W1.alloc (.cells #[.int .u64 0, .int .i64 0] 36)).alloc (.cells #[.int .u64 16, .int .u64 32] 22)) = W := ⟨_, rfl⟩
  rw [hW3] at HL3 HM3 HR3 HF3 ⊢
  clear hW3
  refine (push_any _ _ _ 0 2 _ [16, 32] _ 0 0 _ HM3.out HL3.out (by omega) (by omega) HR3.out (by intro b off e; injection e with e; injection e with e1 e2; omega) (by intro a ha; simp at ha; rcases ha with rfl | rfl <;> decide) (by decide) (by decide)).mono ?_
  rw [HP.out]
  rintro e w4 ⟨rfl, hm4, hl4, hf4⟩
  have HM4 := Lib.hid hm4
  have HL4 := Lib.hid hl4
  have HF4 := Lib.hid (HF3.out.step hf4 (by intro i o hi h; have := HSZ.out; unfold LS at h; omega))
  have HF4b := Lib.hid hf4
  clear hm4 hl4 hf4
  go_wp2_with fail
  refine (all_any _ _ _ _ _ _ _ _ HM4.out HL4.out (by rw [HLEN.out]; decide)).mono ?_
  rw [show ((2 : Int)) = (([32, 16] : List Int).length : Int) from rfl, HON.out.all (by rw [HLEN.out]; decide)]
  rintro e w5 ⟨⟨v, rfl, hown⟩, hf5⟩
  obtain ⟨A5, cap5, rfl, hc5, hm5, hr5, -⟩ := own_reads hown
  have HR5 := Lib.hid hr5
  have HM5 := Lib.hid (HM4.out.fr hf5 (fun _ h => h) (fun _ h => h))
  have HL5 := Lib.hid (HL4.out.fr hf5 (fun h => h) (fun h => h))
  have HF5 := Lib.hid (HF4.out.trans' hf5)
  clear hown hf5 hr5
  go_wp2_with fail
  refine (load_any _ _ _ 32 _ HM5.out (by decide) (by decide)).mono ?_
  have hld : ldF bs 32 = 16 := HON.out.2.2.2.2.1
  have hle : ldE bs 32 = 0 := HON.out.2.2.2.1
  rw [hld, hle]
  rintro e w6 ⟨rfl, hf6⟩
  have HR6 := Lib.hid (HR5.out.fr hf6 (fun _ _ _ _ _ _ h => h))
  have HM6 := Lib.hid (HM5.out.fr hf6 (fun _ h => h) (fun _ h => h))
  have HL6 := Lib.hid (HL5.out.fr hf6 (fun h => h) (fun h => h))
  have HF6 := Lib.hid (HF5.out.trans' hf6)
  clear hf6 hld hle
  go_wp2_with fail
  have HR7 := Lib.hid (cells_two w6 22 (.int .u64 32) (.int .u64 16))
  refine (same_any A5 (some ⟨w6.heap.size, 0, none⟩) cap5 2 [32, 16] [32, 16] _ (HR6.out.fr (S := nil2) ((Fr.refl _ _).alloc _) (fun _ _ _ _ _ _ h => h)) HR7.out (by decide) (by decide)).mono ?_
  rintro e w7 ⟨rfl, hf7⟩
  have HL7 := Lib.hid (HL6.out.fr ((Fr.refl nil2 w6).alloc (.cells #[.int .u64 32, .int .u64 16] 22) |>.trans' hf7) (fun h => h) (fun h => h))
  have HF7 := Lib.hid ((HF6.out.alloc (.cells #[.int .u64 32, .int .u64 16] 22)).trans' hf7)
  rw [decide_eq_true (rfl : ([32, 16] : List Int) = [32, 16])]
  clear hf7
  go_wp2_with fail
  refine (push_nil _ _ _ _ _).mono ?_
  rintro e w8 ⟨rfl, rfl⟩
  obtain ⟨c2, f2⟩ := HL7.out.num
  go_wp2
  go_ret
  exact ⟨rfl, HF7.out⟩

end Go.Proofs.Ythginpedlfocpaa
