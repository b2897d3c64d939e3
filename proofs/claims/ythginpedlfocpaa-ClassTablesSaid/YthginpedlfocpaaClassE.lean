/- ClassTables: alive; class.All. -/
import Derived.Test.YthginpedlfocpaaClassD
namespace Go.Proofs.Ythginpedlfocpaa
open Go.RowKit Go.Alo
attribute [local go_sem] max_ints min_ints

theorem for_at (n a : Int) (p : Int × Int × Int × Int) (hp : planF n a = p) (w : World) (h0 : 1 ≤ n) (h1 : n ≤ 1048576) (ha0 : 1 ≤ a) (ha1 : a ≤ 1024) (ha : IsP a.toNat) :
    Calls Try.prog 112 #[.int .u64 n, .int .u64 a] w fun e w' => e = .returned (.tuple #[.agg #[.int .i64 p.1, .int .i64 p.2.1, .int .i64 p.2.2.1, .int .u64 p.2.2.2], .int .i64 0]) ∧ Below w.heap.size w w' := by
  have := for_any n a w h0 h1 ha0 ha1 ((isPB_iff _ (by omega)).2 ha)
  rw [hp] at this
  exact this

theorem Row.new4 (w : World) (e : TypeId) (a b c d : Value) : Row (w.alloc (.cells #[a, b, c, d] e)) w.heap.size e [a, b, c, d] := Row.new w e [a, b, c, d]

set_option maxRecDepth 100000 in
set_option maxHeartbeats 4000000 in
theorem alive05 (w : World) : Calls Try.prog 43 #[] w fun e w' => e = .returned (.bool true) ∧ Below w.heap.size w w' := by
  go_enter Try.func43, Try.ntmps43
  go_wp2_with fail
  refine (for_at 17 1 (1, 1, 0, 32) (by rfl) _ (by decide) (by decide) (by decide) (by decide) ⟨0, rfl⟩).mono ?_
  rintro e w1 ⟨rfl, hb1⟩
  have HB1 := Lib.hid (hb1.alloc hb1.size (.cells #[.int .i64 1, .int .i64 1, .int .i64 0, .int .u64 32] 160))
  have R1 := Lib.hid (Row.new4 w1 160 (.int .i64 1) (.int .i64 1) (.int .i64 0) (.int .u64 32))
  obtain ⟨W1, hW1⟩ : ∃ W, w1.alloc (.cells #[.int .i64 1, .int .i64 1, .int .i64 0, .int .u64 32] 160) = W := ⟨_, rfl⟩
  have HW1 := Lib.hid hW1
  rw [hW1] at HB1 R1
  clear hb1 hW1
  go_wp2_with fail
  rw [HW1.out]
  refine (for_at 17 64 (3, 1, 0, 64) (by rfl) _ (by decide) (by decide) (by decide) (by decide) ⟨6, rfl⟩).mono ?_
  rintro e w2 ⟨rfl, hb2⟩
  have HB2 := Lib.hid ((HB1.out.trans (hb2.mono HB1.out.size)).alloc (HB1.out.trans (hb2.mono HB1.out.size)).size (.cells #[.int .i64 3, .int .i64 1, .int .i64 0, .int .u64 64] 160))
  have R1 := Lib.hid ((R1.out.below hb2 R1.out.lt).alloc (.cells #[.int .i64 3, .int .i64 1, .int .i64 0, .int .u64 64] 160))
  have R2 := Lib.hid (Row.new4 w2 160 (.int .i64 3) (.int .i64 1) (.int .i64 0) (.int .u64 64))
  obtain ⟨W2, hW2⟩ : ∃ W, w2.alloc (.cells #[.int .i64 3, .int .i64 1, .int .i64 0, .int .u64 64] 160) = W := ⟨_, rfl⟩
  have HW2 := Lib.hid hW2
  rw [hW2] at HB2 R1 R2
  clear hb2 hW2
  go_wp2_with fail
  rw [HW2.out]
  refine (for_at 1025 1 (-1, 2, 0, 2048) (by rfl) _ (by decide) (by decide) (by decide) (by decide) ⟨0, rfl⟩).mono ?_
  rintro e w3 ⟨rfl, hb3⟩
  have HB3 := Lib.hid ((HB2.out.trans (hb3.mono HB2.out.size)).alloc (HB2.out.trans (hb3.mono HB2.out.size)).size (.cells #[.int .i64 (-1), .int .i64 2, .int .i64 0, .int .u64 2048] 160))
  have R1 := Lib.hid ((R1.out.below hb3 R1.out.lt).alloc (.cells #[.int .i64 (-1), .int .i64 2, .int .i64 0, .int .u64 2048] 160))
  have R2 := Lib.hid ((R2.out.below hb3 R2.out.lt).alloc (.cells #[.int .i64 (-1), .int .i64 2, .int .i64 0, .int .u64 2048] 160))
  have R3 := Lib.hid (Row.new4 w3 160 (.int .i64 (-1)) (.int .i64 2) (.int .i64 0) (.int .u64 2048))
  obtain ⟨W3, hW3⟩ : ∃ W, w3.alloc (.cells #[.int .i64 (-1), .int .i64 2, .int .i64 0, .int .u64 2048] 160) = W := ⟨_, rfl⟩
  have HW3 := Lib.hid hW3
  rw [hW3] at HB3 R1 R2 R3
  clear hb3 hW3
  go_wp2_with fail
  rw [HW3.out]
  refine (for_at 20000 1 (-1, 0, 2, 32768) (by rfl) _ (by decide) (by decide) (by decide) (by decide) ⟨0, rfl⟩).mono ?_
  rintro e w4 ⟨rfl, hb4⟩
  have HB4 := Lib.hid ((HB3.out.trans (hb4.mono HB3.out.size)).alloc (HB3.out.trans (hb4.mono HB3.out.size)).size (.cells #[.int .i64 (-1), .int .i64 0, .int .i64 2, .int .u64 32768] 160))
  have R1 := Lib.hid ((R1.out.below hb4 R1.out.lt).alloc (.cells #[.int .i64 (-1), .int .i64 0, .int .i64 2, .int .u64 32768] 160))
  have R2 := Lib.hid ((R2.out.below hb4 R2.out.lt).alloc (.cells #[.int .i64 (-1), .int .i64 0, .int .i64 2, .int .u64 32768] 160))
  have R3 := Lib.hid ((R3.out.below hb4 R3.out.lt).alloc (.cells #[.int .i64 (-1), .int .i64 0, .int .i64 2, .int .u64 32768] 160))
  have R4 := Lib.hid (Row.new4 w4 160 (.int .i64 (-1)) (.int .i64 0) (.int .i64 2) (.int .u64 32768))
  obtain ⟨W4, hW4⟩ : ∃ W, w4.alloc (.cells #[.int .i64 (-1), .int .i64 0, .int .i64 2, .int .u64 32768] 160) = W := ⟨_, rfl⟩
  have HW4 := Lib.hid hW4
  rw [hW4] at HB4 R1 R2 R3 R4
  clear hb4 hW4
  have c11 := R1.out.cell 0 (by simp)
  have c12 := R1.out.cell 3 (by simp)
  have c21 := R2.out.cell 0 (by simp)
  have c31 := R3.out.cell 0 (by simp)
  have c32 := R3.out.cell 1 (by simp)
  have c41 := R4.out.cell 2 (by simp)
  simp only [List.getElem_cons_zero, List.getElem_cons_succ] at c11 c12 c21 c31 c32 c41
  have e4 := HW4.out
  rw [← e4] at c11 c12 c21 c31 c32 c41
  clear e4
  go_wp2
  rw [HW4.out]
  go_ret
  exact ⟨rfl, HB4.out⟩

/-- The sizes of some classes. -/
def pick : List Int → List Int
  | [] => []
  | c :: l => if 0 ≤ c ∧ c < 12 then SZ.getD c.toNat 0 :: pick l else pick l

theorem pick_append (a b : List Int) : pick (a ++ b) = pick a ++ pick b := by
  induction a with
  | nil => rfl
  | cons c a ih =>
    simp only [List.cons_append, pick]
    split
    · rw [ih]; rfl
    · exact ih

theorem pick_in (l : List Int) (k : Nat) (h : k < l.length) (hc : 0 ≤ l[k] ∧ l[k] < 12) : pick (l.take (k + 1)) = pick (l.take k) ++ [SZ.getD l[k].toNat 0] := by
  rw [List.take_succ_eq_append_getElem h, pick_append]
  simp only [pick, if_pos hc]

theorem pick_out (l : List Int) (k : Nat) (h : k < l.length) (hc : ¬ (0 ≤ l[k] ∧ l[k] < 12)) : pick (l.take (k + 1)) = pick (l.take k) := by
  rw [List.take_succ_eq_append_getElem h, pick_append]
  simp only [pick, if_neg hc, List.append_nil]

theorem pick_len (l : List Int) : (pick l).length ≤ l.length := by
  induction l with
  | nil => simp [pick]
  | cons c l ih =>
    simp only [pick]
    split
    · simp; exact ih
    · simp; omega

def callF (l : List Int) : List Int := if l = [] then SZ else pick l

theorem info_u64c : (Try.prog.info? 22).map (fun i => (i.zero, i.size, i.bytes)) = some (some (.int .u64 0), 1, 8) := by kernel_rfl

def CallPost (l : List Int) (w : World) (e : Ending) (w' : World) : Prop :=
  ∃ A cap, e = .returned (.slice A (callF l).length cap) ∧ Reads w' A (ints .u64 (callF l)) ∧ Below w.heap.size w w'

set_option maxRecDepth 100000 in
set_option maxHeartbeats 2000000 in
theorem call_any (A : Option Addr) (l : List Int) (cap : Nat) (w : World) (hr : Reads w A (ints .i64 l)) (hl : l.length ≤ 300) :
    Calls Try.prog 52 #[.slice A l.length cap] w (CallPost l w) := by
  have HR := Lib.hid hr
  clear hr
  by_cases hnil : l = []
  · subst hnil
    go_enter Try.func52, Try.ntmps52
    go_wp2_with fail
    refine (sizes_any w).mono ?_
    rintro e w1 ⟨rfl, hb1⟩
    have HB := Lib.hid hb1
    clear hb1
    go_wp2
    go_ret
    refine ⟨_, 12, rfl, ?_, (HB.out).trans ((((Below.refl _ _).alloc (Nat.le_refl _) _)).mono HB.out.size)⟩
    exact (Row.new w1 163 (ints .u64 SZ)).reads'
  · have hpos : 0 < l.length := List.length_pos_iff.2 hnil
    have hl0 : ((l.length : Int) == 0) = false := by simp; omega
    have hcall : callF l = pick l := if_neg hnil
    have HCALL := Lib.hid hcall
    obtain ⟨i0, hi, hz0, hz1, hz2⟩ := info_parts info_u64c
    clear hnil hcall
    go_enter Try.func52, Try.ntmps52
    go_wp2
    go_loopw [2, 15] (fun v i wr => ∃ (k : Nat) (out : List Int), k ≤ l.length ∧ i = .int .i64 k ∧ out.length ≤ k ∧ Hid (wr.ownsRow w.heap.size 22 1 v out.length (ints .u64 out)) ∧ Hid (out = pick (l.take k)) ∧ Hid (Below w.heap.size w wr)) (fun _ i _ => l.length - (intOf i).toNat)
    case atStart => exact ⟨0, [], Nat.zero_le _, rfl, by simp, World.ownsRow_nil _ _ _ _, rfl, Below.refl _ _⟩
    case round =>
      obtain ⟨k, out, hk, rfl, hok, HO, HP, HB⟩ := hrel
      by_cases hlt : k < l.length
      · obtain ⟨b1, o1, hA1, hc1⟩ := (HR.out.below HB.out).get k (by simpa using hlt)
        rw [ints_get] at hc1
        have hpi := pick_in l k hlt
        have hpo := pick_out l k hlt
        obtain ⟨x, hx⟩ : ∃ x, l[k] = x := ⟨_, rfl⟩
        rw [hx] at hc1 hpi hpo
        subst hA1
        have HPI := Lib.hid hpi
        have HPO := Lib.hid hpo
        clear hx hpi hpo
        have hcs := csize_any x wr
        by_cases hin : 0 ≤ x ∧ x < 12
        · obtain ⟨z, hz16, hz1024, hzz, hs1, -, -⟩ := class_in hin.1 hin.2
          rw [hs1] at hcs
          have HCS := Lib.hid hcs
          have HZZ := Lib.hid hzz
          have HIN := Lib.hid hin
          clear hcs hs1 hzz hin
          go_wp2_with fail
          refine HCS.out.mono ?_
          rintro e w1 ⟨rfl, hb1⟩
          have HB1 := Lib.hid (HB.out.trans (hb1.mono HB.out.size))
          have HO1 := Lib.hid (own_fr (S := nil2) HO.out (Fr.of_below hb1 nil2) (fun _ _ _ h => h))
          have hsz := HB1.out.size
          clear hb1
          go_wp2_with (at_builtin; refine wpList_append_own _ rfl _ _ 33 rfl w.heap.size 22 i0 (.int .u64 0) 1 8 Try.underlying33 hi hz0 hz1 hz2 rfl (by decide) _ _ _ rfl (HO1.out.alloc _) ⟨w1.heap.size, 0, none⟩ 1 1 [.int .u64 z] rfl rfl ?c1 ?c2 ?c3 ?c4 ?c5 ?_)
          case c1 => exact cell_one_new _ _ _
          case c2 => simp [Value.oneCell']
          case c3 => unfold maxLen; omega
          case c4 => omega
          case c5 => simp; omega
          intro v' w2 hown2 hgrow _
          have HB2 : Hid (Below w.heap.size w w2) := Lib.hid ((HB1.out.alloc hsz _).grown hgrow (by simp; omega) (fun k hk => ownsRow_base HO1.out k hk))
          have HO2 := Lib.hid hown2
          clear hown2 hgrow
          go_wp2
          go_roundw
          case rel =>
            refine ⟨k + 1, out ++ [z], by omega, by go_num, by simp; omega, Lib.hid ?_, Lib.hid ?_, HB2⟩
            · have := HO2.out
              simpa [ints] using this
            · rw [HPI.out HIN.out, ← HP.out, HZZ.out]
          case measure => simp [intOf]; omega
        · obtain ⟨hs1, -, -⟩ := class_out hin
          rw [hs1] at hcs
          have HCS := Lib.hid hcs
          have HIN := Lib.hid hin
          clear hcs hs1 hin
          go_wp2_with fail
          refine HCS.out.mono ?_
          rintro e w1 ⟨rfl, hb1⟩
          have HB1 := Lib.hid (HB.out.trans (hb1.mono HB.out.size))
          have HO1 := Lib.hid (own_fr (S := nil2) HO.out (Fr.of_below hb1 nil2) (fun _ _ _ h => h))
          clear hb1
          go_wp2
          go_roundw
          case rel => exact ⟨k + 1, out, by omega, by go_num, by omega, HO1, Lib.hid (by rw [HPO.out HIN.out]; exact HP.out), HB1⟩
          case measure => simp [intOf]; omega
      · have hke : k = l.length := by omega
        have hpo := HP.out
        rw [hke, List.take_length] at hpo
        have HP2 := Lib.hid hpo
        clear hke hpo
        go_wp2
        go_ret
        obtain ⟨A2, c2, e2, -, -, hr2, -⟩ := own_reads HO.out
        refine ⟨A2, c2, ?_, ?_, HB.out⟩
        · rw [HCALL.out, ← HP2.out, ← e2]; rfl
        · rw [HCALL.out, ← HP2.out]; exact hr2

end Go.Proofs.Ythginpedlfocpaa
