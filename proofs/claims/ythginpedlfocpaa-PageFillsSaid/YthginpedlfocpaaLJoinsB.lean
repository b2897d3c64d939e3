/- ListJoins: the walk. -/
import Derived.Test.YthginpedlfocpaaLJoinsA
import Derived.Test.YthginpedlfocpaaLChainsB
import Derived.OwnWalk
import Derived.BigFrame
import Derived.Laws.OwnMore
namespace Go.Proofs.Ythginpedlfocpaa
open Go.RowKit Go.Alo Go.Shelf
attribute [local go_sem] max_ints min_ints

/-- append, whatever comes behind: nil, too; at an operation that is guarded and wanted. -/
theorem wpList_append_want {P : Program} (w : World) {ops : Array Oper} {rest : List Oper} {o : Oper} {a : Act} {Q : Exit → Act → World → Prop}
    (hw : Region.wanted o (yielded ops a.tmps) = true) (s x : Operand) (t : TypeId) (hop : o.op = Op.call { callee := Callee.builtin Builtin.append, args := #[s, x], argTypes := #[t, t] })
    (base : Nat) (e : TypeId) (i : TypeInfo) (z : Value) (bytes : Nat) (h1 : P.underlying t = some (.slice e)) (h2 : P.info? e = some i) (h3 : i.zero = some z) (h4 : i.size = 1) (h5 : i.bytes = bytes) (h6 : z.cells.size = 1)
    (v : Value) (k : Nat) (xs : List Value) (hs : a.eval s = v) (hown : w.ownsRow base e 1 v k xs) (A : Option Addr) (m c : Nat) (news : List Value) (hx : a.eval x = .slice A m c) (hA : A = none → c = 0) (hn : news.length = m)
    (hr : Reads w A news) (h1c : ∀ u ∈ news, u.oneCell' = true) (hmc : m ≤ c) (b1 : k + m ≤ maxLen) (b2 : (k + m) * bytes ≤ 140737488355328) (b3 : base ≤ w.heap.size)
    (hK : ∀ v' w', w'.ownsRow base e 1 v' (k + m) (xs ++ news) → w.grownBy w' v.ownBlock → wpList P ops Q rest (a.put o.dst v') w') :
    wpList P ops Q (o :: rest) a w := by
  refine BigFrame.wpList_want hw fun K hK' => ?_
  cases A with
  | none =>
    obtain rfl := hA rfl
    obtain rfl : m = 0 := by omega
    have hnews : news = [] := List.eq_nil_of_length_eq_zero hn
    subst hnews
    have hrun := run_append_owned_none (P := P) w base t o.type e i 1 h1 h2 v k xs hown
    unfold Oper.wp
    simp [execOp, hop, resolve, invoke, builtin, hs, hx, hrun, Result.andThen]
    exact hK' _ _ (hK v w (by simpa using hown) (World.grownBy.refl _ _))
  | some ad =>
    have hc : ∀ j u, news[j]? = some u → w.cell? (ad.add j) = some u := by
      by_cases hp : 0 < news.length
      · obtain ⟨ad', e', h'⟩ := hr.addr hp
        obtain rfl := Option.some.inj e'
        exact h'
      · intro j u hj
        have := (List.getElem?_eq_some_iff.1 hj).1
        omega
    obtain ⟨v', w', hrun, r1, r2, r3⟩ := run_append_own (P := P) w base t o.type e i z 1 bytes h1 h2 h3 h4 h5 h6 (by decide) v k xs hown ad m c news (by omega) hc h1c b1 b2 b3
    unfold Oper.wp
    simp [execOp, hop, resolve, invoke, builtin, hs, hx, hrun, Result.andThen]
    exact hK' _ _ (hK v' w' r1 r2)

theorem own_empty (w : World) (e : TypeId) : (w.alloc (.cells #[] e)).ownsRow w.heap.size e 1 (.slice (some ⟨w.heap.size, 0, none⟩) 0 0) 0 [] :=
  ⟨rfl, .inr ⟨w.heap.size, 0, #[], rfl, Nat.le_refl _, by show (w.heap.push _)[w.heap.size]? = _; simp, Nat.le_refl _, by decide, rfl, rfl⟩⟩

set_option maxRecDepth 100000 in
set_option maxHeartbeats 4000000 in
theorem joins_walk (A : Option Addr) (cap : Nat) (l : List Int) (cut : Int) (w : World) (hx : Reads w A (ints .u8 l)) (hb : ∀ a ∈ l, 0 ≤ a ∧ a < 256) (ll : (l.length : Int) ≤ 9223372036854775807) (hf0 : 0 ≤ cut) (hf1 : cut < 256) :
    Calls Try.prog 6 #[.slice A l.length cap, .int .u8 cut] w fun e w' => e = .returned (.bool true) ∧ Fr nil2 w w' := by
  have HX := Lib.hid hx
  have HB := Lib.hid hb
  clear hx hb
  have HBL := Lib.hid (blocks_law l)
  obtain ⟨L, hL⟩ : ∃ L, blk (fun _ => false) l = L := ⟨_, rfl⟩
  rw [hL] at HBL
  have HLe := Lib.hid hL
  have hlen := HBL.out.len
  clear hL
  have hpos : (0 : Int) < (L.length : Int) + 1 := by omega
  obtain ⟨k, hk⟩ : ∃ k : Nat, cut % ((L.length : Int) + 1) = (k : Int) := ⟨(cut % ((L.length : Int) + 1)).toNat, by have := Int.emod_nonneg cut (by omega : (L.length : Int) + 1 ≠ 0); omega⟩
  have hkl : k ≤ L.length := by have := Int.emod_lt_of_pos cut hpos; omega
  have HK := Lib.hid hk
  obtain ⟨bs1, h1, bs2, h2, bs3, h3, p1, p2, n1, n2, n3, a1, a2, j1, a3, a4⟩ := joins_law L HBL.out k hkl
  have P1 := Lib.hid p1
  have P2 := Lib.hid p2
  have N1 := Lib.hid n1
  have N2 := Lib.hid n2
  have N3 := Lib.hid n3
  have E1 := Lib.hid a1
  have E2 := Lib.hid a2
  have J1 := Lib.hid j1
  have E3 := Lib.hid a3
  have E4 := Lib.hid a4
  clear hk p1 p2 n1 n2 n3 a1 a2 j1 a3 a4
  go_enter Try.func6, Try.ntmps6
  go_wp2_with fail
  refine (alive_any w).mono ?_
  rintro e wa ⟨rfl, hfa⟩
  have HFA := Lib.hid hfa
  clear hfa
  go_wp2_with fail
  refine (new_any 2048 wa (by decide) (by decide) (by decide)).mono ?_
  rintro e w1 ⟨rfl, rfl⟩
  have HM := Lib.hid (newMem_is 149 2048 wa (by decide))
  have HF := Lib.hid (HFA.out.trans' (newMem_fr 149 2048 wa nil2))
  have HS1 := Lib.hid (newMem_is 149 2048 wa (by decide)).obj.lt
  have HSW := Lib.hid HFA.out.size
  obtain ⟨W1, hW1⟩ : ∃ W, newMem 149 2048 wa = W := ⟨_, rfl⟩
  rw [hW1] at HM HF HS1 ⊢
  clear hW1
  go_wp2_with fail
  refine (blocks_any A cap l W1 (HX.out.fr HF.out (fun _ _ _ _ _ _ h => h)) HB.out ll).mono ?_
  rw [HLe.out]
  rintro e w2 ⟨⟨v, rfl, hown⟩, hf2⟩
  obtain ⟨A7, cap7, rfl, hc7, hm7, hr7, -⟩ := own_reads hown
  have HA7 : Hid (∀ b off, A7 = some ⟨b, off, none⟩ → W1.heap.size ≤ b ∧ b < w2.heap.size) := Lib.hid (fun b off e => by subst e; obtain ⟨q1, c, q2⟩ := own_cells hown b rfl; exact ⟨q1, (Array.getElem?_eq_some_iff.1 q2).1⟩)
  have HA7f : Hid (A7 = none ∨ ∃ g, A7 = some ⟨g, 0, none⟩) := Lib.hid (by rcases hown.2 with ⟨e, _⟩ | ⟨g, c, cur, e, _⟩ <;> injection e with e <;> subst e <;> simp)
  have HR2 := Lib.hid hr7
  have HM2 := Lib.hid (HM.out.fr hf2 (fun _ h => h) (fun _ h => h))
  have HF2 := Lib.hid (HF.out.trans' hf2)
  have HS2 := Lib.hid hf2.size
  have hkc : k ≤ cap7 := by omega
  have hkli : (k : Int) ≤ (L.length : Int) := by omega
  have hkci : (k : Int) ≤ (cap7 : Int) := by omega
  clear hown hf2 hr7 HM HF
  go_wp2_with ((with_reducible refine gate (N := 40) rfl ?_); rw [HK.out])
  have HX3 : Hid (IsList ((w2.alloc (.cells #[.int .u64 0, .int .i64 0] 36)).alloc (.cells #[.int .u64 0, .int .i64 0] 36)) w2.heap.size 0 0 0) :=
    Lib.hid ((list_new w2).fr ((Fr.refl nil2 _).alloc _) (fun h => h) (fun h => h))
  have HY3 : Hid (IsList ((w2.alloc (.cells #[.int .u64 0, .int .i64 0] 36)).alloc (.cells #[.int .u64 0, .int .i64 0] 36)) (w2.heap.size + 1) 0 0 0) :=
    Lib.hid (by have := list_new (w2.alloc (.cells #[.int .u64 0, .int .i64 0] 36)); rw [World.size_alloc] at this; exact this)
  have HXF : Hid (Flat ((w2.alloc (.cells #[.int .u64 0, .int .i64 0] 36)).alloc (.cells #[.int .u64 0, .int .i64 0] 36)) w2.heap.size) :=
    Lib.hid ((Flat.new w2 _ _).fr ((Fr.refl nil2 _).alloc _))
  have HYF : Hid (Flat ((w2.alloc (.cells #[.int .u64 0, .int .i64 0] 36)).alloc (.cells #[.int .u64 0, .int .i64 0] 36)) (w2.heap.size + 1)) :=
    Lib.hid (by have := Flat.new (w2.alloc (.cells #[.int .u64 0, .int .i64 0] 36)) #[.int .u64 0, .int .i64 0] 36; rw [World.size_alloc] at this; exact this)
  have hX3 := ((Fr.refl nil2 w2).alloc (.cells #[.int .u64 0, .int .i64 0] 36)).alloc (.cells #[.int .u64 0, .int .i64 0] 36)
  have HM3 := Lib.hid (HM2.out.fr hX3 (fun _ h => h) (fun _ h => h))
  have HR3 := Lib.hid (HR2.out.fr hX3 (fun _ _ _ _ _ _ h => h))
  have HF3 := Lib.hid (HF2.out.trans' hX3)
  have hs12 : wa.heap.size + 1 < w2.heap.size := by have := HS1.out; have := HS2.out; omega
  have HS12 := Lib.hid hs12
  clear hX3 HM2 HR2 HF2 hs12
  obtain ⟨W3, hW3⟩ : ∃ W, ((w2.alloc (.cells #[.int .u64 0, .int .i64 0] 36)).alloc (.cells #[.int .u64 0, .int .i64 0] 36)) = W := ⟨_, rfl⟩
  rw [hW3] at HX3 HY3 HXF HYF HM3 HR3 HF3 ⊢
  clear hW3
  have t1 : (L.take k).length = k := by simp; omega
  have t2 : (L.drop k).length = L.length - k := by simp
  have HRa : Hid (Reads W3 A7 (ints .u64 (L.take k))) := Lib.hid (by
    rcases HR3.out with h | ⟨b, off, e, h⟩
    · have : L = [] := by simpa [ints] using h
      exact .inl (by rw [this]; simp [ints])
    · refine .inr ⟨b, off, e, fun i v hi => h i v ?_⟩
      simp only [ints, List.getElem?_map, List.getElem?_take] at hi ⊢
      split at hi
      · exact hi
      · simp at hi)
  have hpx := push_any (wa.heap.size + 1) wa.heap.size w2.heap.size 0 cap7 A7 (L.take k) (List.replicate 2048 0) 0 0 W3 HM3.out HX3.out (by have := HS12.out; omega) (by have := HS12.out; omega) HRa.out (by intro b off e; have := HA7.out b off e; have := HS1.out; omega) (fun a ha => by have := HBL.out.good a (List.mem_of_mem_take ha); omega) (by decide) (by rw [t1]; omega)
  rw [P1.out, t1] at hpx
  refine hpx.mono ?_
  rintro e w4 ⟨rfl, hm4, hl4, hf4⟩
  have HM4 := Lib.hid hm4
  have HX4 := Lib.hid hl4
  have HY4 := Lib.hid (HY3.out.fr hf4 (by have := HS12.out; unfold LS; omega) (by have := HS12.out; unfold LS; omega))
  have HXF4 := Lib.hid (HXF.out.fr hf4)
  have HYF4 := Lib.hid (HYF.out.fr hf4)
  have HF4 := Lib.hid (HF3.out.step hf4 (by intro i o hi h; have := HSW.out; have := HS12.out; unfold LS at h; omega))
  have HR4 := Lib.hid (HR3.out.fr hf4 (by intro b off o e _ _ h; have := HA7.out b off e; have := HS1.out; unfold LS at h; omega))
  clear hm4 hl4 hf4 HM3 HX3 HY3 HXF HYF HF3 HR3 HRa hpx
  have hpy : ∀ (A8 : Option Addr) (cap8 : Nat), Reads w4 A8 (ints .u64 (L.drop k)) → (∀ b off, A8 = some ⟨b, off, none⟩ → W1.heap.size ≤ b ∧ b < w2.heap.size) →
      Calls Try.prog 29 #[.pointer (some ⟨w2.heap.size + 1, 0, none⟩), .pointer (some ⟨wa.heap.size + 1, 0, none⟩), .slice A8 (L.length - k) cap8] w4 (PushPost (wa.heap.size + 1) wa.heap.size (w2.heap.size + 1) 0 (bs2, h2, ((L.length - k : Nat) : Int), 0) w4) := by
    intro A8 cap8 hr8 hb8
    have := push_any (wa.heap.size + 1) wa.heap.size (w2.heap.size + 1) 0 cap8 A8 (L.drop k) bs1 0 0 w4 HM4.out HY4.out (by have := HS12.out; omega) (by have := HS12.out; omega) hr8 (by intro b off e; have := hb8 b off e; have := HS1.out; omega) (fun a ha => by have := HBL.out.good a (List.mem_of_mem_drop ha); omega) (by decide) (by rw [t2]; omega)
    rw [P2.out, t2] at this
    exact this
  have HPY := Lib.hid hpy
  clear hpy
  have hin : ∃ A8, (cap7 = k → A8 = A7) ∧ (¬ cap7 = k → A8 = Option.map (fun x => x.add k) A7) ∧ Reads w4 A8 (ints .u64 (L.drop k)) ∧ (∀ b off, A8 = some ⟨b, off, none⟩ → W1.heap.size ≤ b ∧ b < w2.heap.size) := by
    by_cases hck : cap7 = k
    · refine ⟨A7, fun _ => rfl, fun h => absurd hck h, .inl ?_, HA7.out⟩
      have : L.drop k = [] := List.drop_eq_nil_of_le (by omega)
      rw [this]; rfl
    · refine ⟨Option.map (fun x => x.add k) A7, fun h => absurd h hck, fun _ => rfl, ?_, ?_⟩
      · rcases HR4.out with h | ⟨b, off, e, h⟩
        · have : L = [] := by simpa [ints] using h
          exact .inl (by rw [this]; simp [ints])
        · refine .inr ⟨b, off + k, by rw [e]; simp [Addr.add_lit], fun i v hi => ?_⟩
          rw [Nat.add_assoc]
          refine h (k + i) v ?_
          simpa [ints, List.getElem?_drop] using hi
      · intro b off e
        rcases HA7f.out with h | ⟨g, h⟩
        · rw [h] at e; simp at e
        · rw [h] at e
          simp only [Option.map_some, Addr.add_lit, Option.some.injEq, Addr.mk.injEq] at e
          have := HA7.out g 0 h
          omega
  obtain ⟨A8, hA8a, hA8b, hr8, hb8⟩ := hin
  have HA8a := Lib.hid hA8a
  have HA8b := Lib.hid hA8b
  have HR8 := Lib.hid hr8
  have HB8 := Lib.hid hb8
  clear hA8a hA8b hr8 hb8
  have hsub : L.length - k + k = L.length := by omega
  go_wp2_with fail
  all_goals
    first
      | (rw [← HA8a.out (by assumption)]; refine (HPY.out A8 _ HR8.out HB8.out).mono ?_)
      | (rw [← HA8b.out (by assumption)]; refine (HPY.out A8 _ HR8.out HB8.out).mono ?_)
  all_goals
    rintro e w5 ⟨rfl, hm5, hl5, hf5⟩
    have HM5 := Lib.hid hm5
    have HY5 := Lib.hid hl5
    have HX5 := Lib.hid (HX4.out.fr hf5 (by have := HS12.out; unfold LS; omega) (by have := HS12.out; unfold LS; omega))
    have HXF5 := Lib.hid (HXF4.out.fr hf5)
    have HYF5 := Lib.hid (HYF4.out.fr hf5)
    have HF5 := Lib.hid (HF4.out.step hf5 (by intro i o hi h; have := HSW.out; have := HS12.out; unfold LS at h; omega))
    clear hm5 hl5 hf5
    go_wp2_with fail
    refine (all_any _ _ _ _ _ _ _ _ HM5.out HX5.out (by rw [N2.out]; decide)).mono ?_
    rw [E1.out]
    rintro e w6 ⟨⟨v, rfl, hown⟩, hf6⟩
    obtain ⟨A11, cap11, rfl, hc11, hm11, hr11, -⟩ := own_reads hown
    rw [show (L.take k).reverse.length = k from by rw [List.length_reverse, t1]] at hc11 ⊢
    have HRA := Lib.hid hr11
    have HM6 := Lib.hid (HM5.out.fr hf6 (fun _ h => h) (fun _ h => h))
    have HX6 := Lib.hid (HX5.out.fr hf6 (fun h => h) (fun h => h))
    have HY6 := Lib.hid (HY5.out.fr hf6 (fun h => h) (fun h => h))
    have HXF6 := Lib.hid (HXF5.out.fr hf6)
    have HYF6 := Lib.hid (HYF5.out.fr hf6)
    have HF6 := Lib.hid (HF5.out.trans' hf6)
    have HSA : Hid (∀ b off, A11 = some ⟨b, off, none⟩ → w5.heap.size ≤ b) := Lib.hid (fun b off e => by subst e; exact (own_cells hown b rfl).1)
    have HCA : Hid (A11 = none → cap11 = 0) := Lib.hid (fun e => by subst e; rcases hown.2 with ⟨e, _⟩ | ⟨g, c, cur, e, _⟩ <;> injection e with e1 e2 e3; first | exact e3 | exact absurd e1 (by simp))
    clear hown hr11 hf6
    go_wp2_with fail
    refine (all_any _ _ _ _ _ _ _ _ HM6.out HY6.out (by rw [N2.out]; decide)).mono ?_
    rw [E2.out]
    rintro e w7 ⟨⟨v, rfl, hown⟩, hf7⟩
    obtain ⟨A13, cap13, rfl, hc13, hm13, hr13, -⟩ := own_reads hown
    rw [show (L.drop k).reverse.length = L.length - k from by rw [List.length_reverse, t2]] at hc13 ⊢
    have HRB := Lib.hid hr13
    have HRA7 := Lib.hid (HRA.out.fr hf7 (fun _ _ _ _ _ _ h => h))
    have HM7 := Lib.hid (HM6.out.fr hf7 (fun _ h => h) (fun _ h => h))
    have HX7 := Lib.hid (HX6.out.fr hf7 (fun h => h) (fun h => h))
    have HY7 := Lib.hid (HY6.out.fr hf7 (fun h => h) (fun h => h))
    have HXF7 := Lib.hid (HXF6.out.fr hf7)
    have HYF7 := Lib.hid (HYF6.out.fr hf7)
    have HF7 := Lib.hid (HF6.out.trans' hf7)
    have HSB : Hid (∀ b off, A13 = some ⟨b, off, none⟩ → w6.heap.size ≤ b) := Lib.hid (fun b off e => by subst e; exact (own_cells hown b rfl).1)
    have HCB : Hid (A13 = none → cap13 = 0) := Lib.hid (fun e => by subst e; rcases hown.2 with ⟨e, _⟩ | ⟨g, c, cur, e, _⟩ <;> injection e with e1 e2 e3; first | exact e3 | exact absurd e1 (by simp))
    clear hown hr13 hf7
    go_wp2_with fail
    have hjn := join_any _ _ _ _ _ _ bs2 h1 k h2 ((L.length - k : Nat) : Int) w7 HM7.out HX7.out HY7.out (by have := HS12.out; omega) (by have := HS12.out; omega) (by have := HS12.out; omega) (by have := HS12.out; omega) (by omega) HXF7.out HYF7.out (by rw [N2.out]; decide) (by omega) (by omega)
    rw [J1.out] at hjn
    refine hjn.mono ?_
    rintro e w8 ⟨rfl, hm8, hx8, hy8, hf8⟩
    have hx7l := HX7.out.head.lt
    have hy7l := HY7.out.head.lt
    have HRA8 := Lib.hid (HRA7.out.fr hf8 (by intro b off o e _ _ h; have := HSA.out b off e; have := HX5.out.head.lt; have := HY5.out.head.lt; have := HM5.out.bytes.lt; unfold JS at h; omega))
    have HRB8 := Lib.hid (HRB.out.fr hf8 (by intro b off o e _ _ h; have := HSB.out b off e; have := HX6.out.head.lt; have := HY6.out.head.lt; have := HM6.out.bytes.lt; unfold JS at h; omega))
    have HM8 := Lib.hid hm8
    have HX8 := Lib.hid hx8
    have HY8 := Lib.hid hy8
    have HF8 := Lib.hid (HF7.out.step hf8 (by intro i o hi h; have := HSW.out; have := HS12.out; unfold JS at h; omega))
    clear hm8 hx8 hy8 hf8 hjn hx7l hy7l
    go_wp2_with fail
    refine (all_any _ _ _ _ _ _ _ _ HM8.out HX8.out (by rw [N3.out]; decide)).mono ?_
    rw [E3.out]
    rintro e w9 ⟨⟨v, rfl, hown⟩, hf9⟩
    obtain ⟨A16, cap16, rfl, hc16, hm16, hr16, -⟩ := own_reads hown
    have hl16 : ((L.drop k).reverse ++ (L.take k).reverse).length = L.length := by rw [List.length_append, List.length_reverse, List.length_reverse, t1, t2]; omega
    have HR16 := Lib.hid hr16
    have HRA9 := Lib.hid (HRA8.out.fr hf9 (fun _ _ _ _ _ _ h => h))
    have HRB9 := Lib.hid (HRB8.out.fr hf9 (fun _ _ _ _ _ _ h => h))
    have HM9 := Lib.hid (HM8.out.fr hf9 (fun _ h => h) (fun _ h => h))
    have HX9 := Lib.hid (HX8.out.fr hf9 (fun h => h) (fun h => h))
    have HY9 := Lib.hid (HY8.out.fr hf9 (fun h => h) (fun h => h))
    have HF9 := Lib.hid (HF8.out.trans' hf9)
    clear hown hr16 hf9
    go_wp2_with fail
    refine (all_any _ _ _ _ _ _ _ _ HM9.out HY9.out (by rw [N3.out]; decide)).mono ?_
    rw [E4.out]
    rintro e w10 ⟨⟨v, rfl, hown⟩, hf10⟩
    obtain ⟨A18, cap18, rfl, -, -, -, -⟩ := own_reads hown
    have HR16b := Lib.hid (HR16.out.fr hf10 (fun _ _ _ _ _ _ h => h))
    have HRA10 := Lib.hid (HRA9.out.fr hf10 (fun _ _ _ _ _ _ h => h))
    have HRB10 := Lib.hid (HRB9.out.fr hf10 (fun _ _ _ _ _ _ h => h))
    have HX10 := Lib.hid (HX9.out.fr hf10 (fun h => h) (fun h => h))
    have HY10 := Lib.hid (HY9.out.fr hf10 (fun h => h) (fun h => h))
    have HF10 := Lib.hid (HF9.out.trans' hf10)
    clear hown hf10
    obtain ⟨cx, fx⟩ := HX10.out.num
    obtain ⟨cy1, fy1⟩ := HY10.out.head
    obtain ⟨cy2, fy2⟩ := HY10.out.num
    obtain ⟨i0, hi, hz0, hz1, hz2⟩ := info_u64'
    have HE0 := Lib.hid (own_empty w10 22)
    have lb1 : (ints .u64 (L.drop k).reverse).length = L.length - k := by simp [ints]
    have lb2 : (ints .u64 (L.take k).reverse).length = k := by simp [ints]; omega
    have HB1 := Lib.hid lb1
    have HB2 := Lib.hid lb2
    have HRB11 := Lib.hid (HRB10.out.fr ((Fr.refl nil2 w10).alloc (.cells #[] 22)) (fun _ _ _ _ _ _ h => h))
    have b11 : 0 + (L.length - k) ≤ maxLen := by rw [show maxLen = 9223372036854775807 from rfl]; omega
    have b12 : (0 + (L.length - k)) * 8 ≤ 140737488355328 := by omega
    have b13 : w10.heap.size ≤ (w10.alloc (.cells #[] 22)).heap.size := by rw [World.size_alloc]; omega
    have b21 : 0 + (L.length - k) + k ≤ maxLen := by rw [show maxLen = 9223372036854775807 from rfl]; omega
    have b22 : (0 + (L.length - k) + k) * 8 ≤ 140737488355328 := by omega
    clear lb1 lb2
    go_wp2_with (first | ((with_reducible refine gate (N := 113) rfl ?_); refine wpList_append_want _ rfl _ _ 33 rfl w10.heap.size 22 i0 (.int .u64 0) 8 Try.underlying33 hi hz0 hz1 hz2 rfl _ 0 [] rfl HE0.out A13 (L.length - k) cap13 (ints .u64 (L.drop k).reverse) rfl HCB.out HB1.out HRB11.out (ints_one _ _) hc13 b11 b12 b13 ?_; intro v13 w11 ho11 hg11; have HO11 := Lib.hid ho11; have HF11 := Lib.hid (((Fr.refl nil2 w10).alloc (.cells #[] 22)).grown hg11 (by intro q hq; injection hq with hq; exact Nat.le_of_eq hq)); have HRA11 := Lib.hid (HRA10.out.fr HF11.out (fun _ _ _ _ _ _ h => h)); have HW11 := Lib.hid HF11.out.size; clear ho11 hg11) | ((with_reducible refine gate (N := 115) rfl ?_); refine wpList_append_want _ rfl _ _ 33 rfl w10.heap.size 22 i0 (.int .u64 0) 8 Try.underlying33 hi hz0 hz1 hz2 rfl _ (0 + (L.length - k)) ([] ++ ints .u64 (L.drop k).reverse) rfl HO11.out A11 k cap11 (ints .u64 (L.take k).reverse) rfl HCA.out HB2.out HRA11.out (ints_one _ _) hc11 b21 b22 HW11.out ?_; intro v15 w12 ho12 hg12; have HO12 := Lib.hid ho12; have HF12 := Lib.hid (HF11.out.grown hg12 (by intro q hq; exact (own_cells HO11.out q hq).1)); clear ho12 hg12; obtain ⟨A15, cap15, rfl, -, -, hr15, -⟩ := own_reads HO12.out; have HR15 := Lib.hid hr15; clear hr15))
    have hrx : Reads w12 A16 (ints .u64 ((L.drop k).reverse ++ (L.take k).reverse)) := HR16b.out.fr HF12.out (fun _ _ _ _ _ _ h => h)
    have hry : Reads w12 A15 (ints .u64 ((L.drop k).reverse ++ (L.take k).reverse)) := by
      have := HR15.out
      rw [List.nil_append] at this
      rw [show ints IntKind.u64 ((L.drop k).reverse ++ (L.take k).reverse) = ints .u64 (L.drop k).reverse ++ ints .u64 (L.take k).reverse from by simp [ints]]
      exact this
    have hsm := same_any A16 A15 cap16 cap15 _ _ w12 hrx hry (by rw [hl16]; omega) (by rw [hl16]; omega)
    rw [hl16] at hsm
    refine hsm.mono ?_
    rintro e w13 ⟨rfl, hf13⟩
    rw [decide_eq_true rfl]
    have HF13 := Lib.hid ((HF10.out.trans' HF12.out).trans' hf13)
    clear hsm hrx hry hf13
    go_wp2
    go_ret
    exact ⟨rfl, HF13.out⟩

end Go.Proofs.Ythginpedlfocpaa
