/- Words for the walks: what of memory a call leaves as it was, cell by cell; slices that read as lists. -/
import Derived.WalkKit
import Derived.WalkSpells
import Derived.WalkLawsBesides
import Derived.Lib.Hide
import Derived.Deep.Draws
import Derived.Maps.AppendAt
namespace Go.Alo
open Go Go.RowKit

/-- What a world keeps of another one: all but the cells of S; blocks that are no cells wholly; nothing goes. -/
structure Fr (S : Nat → Nat → Prop) (w w' : World) : Prop where
  os : w'.os = w.os
  tape : w'.tape = w.tape
  output : w'.output = w.output
  size : w.heap.size ≤ w'.heap.size
  cells : ∀ k c e f, w.heap[k]? = some (.cells c e f) → ∃ c', w'.heap[k]? = some (.cells c' e f) ∧ c'.size = c.size ∧ ∀ o, ¬ S k o → c'[o]? = c[o]?
  others : ∀ (k : Nat) (o : Obj), w.heap[k]? = some o → (∀ c e f, o ≠ Obj.cells c e f) → w'.heap[k]? = some o

theorem Fr.refl (S : Nat → Nat → Prop) (w : World) : Fr S w w := ⟨rfl, rfl, rfl, Nat.le_refl _, fun _ c _ _ h => ⟨c, h, rfl, fun _ _ => rfl⟩, fun _ _ h _ => h⟩

theorem Fr.trans {S : Nat → Nat → Prop} {a b c : World} (h : Fr S a b) (k : Fr S b c) : Fr S a c := by
  refine ⟨k.os.trans h.os, k.tape.trans h.tape, k.output.trans h.output, Nat.le_trans h.size k.size, ?_, ?_⟩
  · intro i cs e f hi
    obtain ⟨c1, h1, s1, o1⟩ := h.cells i cs e f hi
    obtain ⟨c2, h2, s2, o2⟩ := k.cells i c1 e f h1
    exact ⟨c2, h2, s2.trans s1, fun o ho => (o2 o ho).trans (o1 o ho)⟩
  · intro i o hi hn
    exact k.others i o (h.others i o hi hn) hn

theorem Fr.mono {S T : Nat → Nat → Prop} {w w' : World} (h : Fr S w w') (hst : ∀ k o, k < w.heap.size → S k o → T k o) : Fr T w w' := by
  refine ⟨h.os, h.tape, h.output, h.size, ?_, h.others⟩
  intro i cs e f hi
  obtain ⟨c1, h1, s1, o1⟩ := h.cells i cs e f hi
  exact ⟨c1, h1, s1, fun o ho => o1 o (fun hs => ho (hst i o (Array.getElem?_eq_some_iff.1 hi).1 hs))⟩

theorem Fr.drew {S : Nat → Nat → Prop} {a w : World} (h : Fr S a w) : Fr S a w.drew := ⟨h.os, h.tape, h.output, h.size, h.cells, h.others⟩
theorem Fr.drewN {S : Nat → Nat → Prop} {a w : World} (h : Fr S a w) (n : Nat) : Fr S a (w.drewN n) := ⟨h.os, h.tape, h.output, h.size, h.cells, h.others⟩

theorem Fr.alloc {S : Nat → Nat → Prop} {a w : World} (h : Fr S a w) (o : Obj) : Fr S a (w.alloc o) := by
  have hlt : ∀ (k : Nat) (x : Obj), w.heap[k]? = some x → (w.alloc o).heap[k]? = some x := fun k x hk => by
    rw [Below.heap_alloc w o k (Array.getElem?_eq_some_iff.1 hk).1]; exact hk
  refine h.trans ⟨rfl, rfl, rfl, by simp, fun k c e f hk => ⟨c, hlt k _ hk, rfl, fun _ _ => rfl⟩, fun k x hk _ => hlt k x hk⟩

theorem heap_setCell_same (w : World) (b o : Nat) (u : Value) (c : Array Value) (e : TypeId) (f : Nat × Nat) (h : w.heap[b]? = some (.cells c e f)) :
    (w.setCell ⟨b, o, none⟩ u).heap[b]? = some (.cells (c.setIfInBounds o u) e f) := by
  simp [World.setCell, Array.getElem?_modify, h]

theorem Fr.setCell {S : Nat → Nat → Prop} {a w : World} (h : Fr S a w) (b o : Nat) (hp : b < a.heap.size → S b o) (u : Value) : Fr S a (w.setCell ⟨b, o, none⟩ u) := by
  have hf : Fr (fun k q => k = b ∧ q = o) w (w.setCell ⟨b, o, none⟩ u) := by
    refine ⟨rfl, rfl, rfl, by simp [World.setCell], ?_, ?_⟩
    · intro k c e f hk
      by_cases hb : k = b
      · subst hb
        refine ⟨c.setIfInBounds o u, heap_setCell_same w k o u c e f hk, by simp, ?_⟩
        intro q hq
        rw [Array.getElem?_setIfInBounds, if_neg]
        intro e'; exact hq ⟨rfl, e'.symm⟩
      · exact ⟨c, by rw [Below.heap_setCell w ⟨b, o, none⟩ u k hb]; exact hk, rfl, fun _ _ => rfl⟩
    · intro k x hk hn
      by_cases hb : k = b
      · subst hb
        simp only [World.setCell, Array.getElem?_modify, hk, if_true]
        cases x <;> first | rfl | exact absurd rfl (hn _ _ _)
      · rw [Below.heap_setCell w ⟨b, o, none⟩ u k hb]; exact hk
  -- what lay in a: cells outside S are as they were
  refine ⟨hf.os.trans h.os, hf.tape.trans h.tape, hf.output.trans h.output, Nat.le_trans h.size hf.size, ?_, fun k x hk hn => hf.others k x (h.others k x hk hn) hn⟩
  intro k c e f hk
  obtain ⟨c1, h1, s1, o1⟩ := h.cells k c e f hk
  obtain ⟨c2, h2, s2, o2⟩ := hf.cells k c1 e f h1
  refine ⟨c2, h2, s2.trans s1, fun q hq => ?_⟩
  rw [o2 q (fun ⟨e1, e2⟩ => hq (by subst e1; subst e2; exact hp (Array.getElem?_eq_some_iff.1 hk).1)), o1 q hq]

/-- One step behind a call: the callee's frame speaks of the world at the call. -/
theorem Fr.step {S T : Nat → Nat → Prop} {a w w' : World} (h : Fr S a w) (k : Fr T w w') (hst : ∀ i o, i < a.heap.size → T i o → S i o) : Fr S a w' := by
  refine ⟨k.os.trans h.os, k.tape.trans h.tape, k.output.trans h.output, Nat.le_trans h.size k.size, ?_, fun i o hi hn => k.others i o (h.others i o hi hn) hn⟩
  intro i cs e f hi
  obtain ⟨c1, h1, s1, o1⟩ := h.cells i cs e f hi
  obtain ⟨c2, h2, s2, o2⟩ := k.cells i c1 e f h1
  exact ⟨c2, h2, s2.trans s1, fun o ho => (o2 o (fun ht => ho (hst i o (Array.getElem?_eq_some_iff.1 hi).1 ht))).trans (o1 o ho)⟩

theorem cell_lt {w : World} {b o : Nat} {v : Value} (h : w.cell? ⟨b, o, none⟩ = some v) : b < w.heap.size := by
  unfold World.cell? at h
  split at h
  · rename_i he
    exact (Array.getElem?_eq_some_iff.1 he).1
  · simp at h

theorem Fr.cell {S : Nat → Nat → Prop} {w w' : World} (h : Fr S w w') {b o : Nat} {v : Value} (hc : w.cell? ⟨b, o, none⟩ = some v) (hs : ¬ S b o) : w'.cell? ⟨b, o, none⟩ = some v := by
  unfold World.cell? at hc ⊢
  split at hc
  · rename_i c e f he
    simp only [Option.isSome_none, Bool.false_eq_true, if_false] at hc
    obtain ⟨c', h1, _, h3⟩ := h.cells _ _ _ _ he
    simp only at h1
    rw [h1]
    simp only [Option.isSome_none, Bool.false_eq_true, if_false]
    rw [h3 o hs]; exact hc
  · simp at hc

theorem Fr.cellN {S : Nat → Nat → Prop} {w w' : World} (h : Fr S w w') {b o : Nat} (hb : b < w.heap.size) (hs : ¬ S b o) : w'.cell? ⟨b, o, none⟩ = w.cell? ⟨b, o, none⟩ := by
  obtain ⟨x, hx⟩ : ∃ x, w.heap[b]? = some x := ⟨_, Array.getElem?_eq_getElem hb⟩
  unfold World.cell?
  simp only [hx]
  cases x with
  | cells c e f =>
    obtain ⟨c', h1, _, h3⟩ := h.cells _ _ _ _ hx
    simp only [h1, Option.isSome_none, Bool.false_eq_true, if_false]
    exact h3 o hs
  | _ => rw [h.others b _ hx (by intro c e f; simp)]

theorem Fr.frozen {S : Nat → Nat → Prop} {w w' : World} (h : Fr S w w') {b o : Nat} (hb : b < w.heap.size) : w'.frozen? ⟨b, o, none⟩ = w.frozen? ⟨b, o, none⟩ := by
  obtain ⟨x, hx⟩ : ∃ x, w.heap[b]? = some x := ⟨_, Array.getElem?_eq_getElem hb⟩
  unfold World.frozen?
  simp only [hx]
  cases x with
  | cells c e f =>
    obtain ⟨c', h1, _, h3⟩ := h.cells _ _ _ _ hx
    simp only [h1]
  | _ => rw [h.others b _ hx (by intro c e f; simp)]

theorem Fr.block {S : Nat → Nat → Prop} {w w' : World} (h : Fr S w w') {b : Nat} (hb : b < w.heap.size) (hs : ∀ o, ¬ S b o) : w'.heap[b]? = w.heap[b]? := by
  obtain ⟨x, hx⟩ : ∃ x, w.heap[b]? = some x := ⟨_, Array.getElem?_eq_getElem hb⟩
  rw [hx]
  cases x with
  | cells c e f =>
    obtain ⟨c', h1, h2, h3⟩ := h.cells _ _ _ _ hx
    rw [h1]
    congr 2
    apply Array.ext_getElem?
    intro i
    exact h3 i (hs i)
  | _ => exact h.others b _ hx (by intro c e f; simp)

/-- Nothing that lay below B has turned. -/
theorem Fr.below {S : Nat → Nat → Prop} {w w' : World} (h : Fr S w w') (B : Nat) (hB : B ≤ w.heap.size) (hs : ∀ k o, k < B → ¬ S k o) : Below B w w' :=
  ⟨h.os, h.tape, h.output, h.size, fun k hk => h.block (by omega) (fun o => hs k o hk)⟩

theorem Fr.of_below {w w' : World} (h : Below w.heap.size w w') (S : Nat → Nat → Prop) : Fr S w w' := by
  refine ⟨h.os, h.tape, h.output, h.size, ?_, ?_⟩
  · intro k c e f hk
    exact ⟨c, by rw [h.block k (Array.getElem?_eq_some_iff.1 hk).1]; exact hk, rfl, fun _ _ => rfl⟩
  · intro k x hk _
    rw [h.block k (Array.getElem?_eq_some_iff.1 hk).1]; exact hk

/-- Nothing is written: new memory alone. -/
abbrev nil2 : Nat → Nat → Prop := fun _ _ => False

/-- A slice's cells, one an element, read as values. -/
def Reads (w : World) (A : Option Addr) (vs : List Value) : Prop :=
  vs = [] ∨ ∃ b off, A = some ⟨b, off, none⟩ ∧ ∀ i v, vs[i]? = some v → w.cell? ⟨b, off + i, none⟩ = some v

theorem Reads.nil (w : World) (A : Option Addr) : Reads w A [] := .inl rfl

theorem Reads.fr {S : Nat → Nat → Prop} {w w' : World} {A : Option Addr} {vs : List Value} (h : Reads w A vs) (f : Fr S w w') (hs : ∀ b off o, A = some ⟨b, off, none⟩ → off ≤ o → o < off + vs.length → ¬ S b o) : Reads w' A vs := by
  rcases h with h | ⟨b, off, rfl, h⟩
  · exact .inl h
  · refine .inr ⟨b, off, rfl, fun i v hi => f.cell (h i v hi) (hs b off (off + i) rfl (by omega) ?_)⟩
    have := (List.getElem?_eq_some_iff.1 hi).1
    omega

theorem Reads.get {w : World} {A : Option Addr} {vs : List Value} (h : Reads w A vs) (i : Nat) (hi : i < vs.length) : ∃ b off, A = some ⟨b, off, none⟩ ∧ w.cell? ⟨b, off + i, none⟩ = some vs[i] := by
  rcases h with h | ⟨b, off, rfl, h⟩
  · subst h; simp at hi
  · exact ⟨b, off, rfl, h i _ (List.getElem?_eq_getElem hi)⟩

/-- Numbers as values. -/
abbrev ints (k : IntKind) (l : List Int) : List Value := l.map (Value.int k)

theorem ints_get (k : IntKind) (l : List Int) (i : Nat) (hi : i < (ints k l).length) : (ints k l)[i] = .int k (l[i]'(by simpa using hi)) := by simp [ints]

theorem bcell {W w1 : World} (hb : Below W.heap.size W w1) : (∀ b o, b < W.heap.size → w1.cell? ⟨b, o, none⟩ = W.cell? ⟨b, o, none⟩) :=
  fun b o h => hb.cell (p := ⟨b, o, none⟩) h

theorem Reads.below {w w' : World} {A : Option Addr} {vs : List Value} (h : Reads w A vs) (hb : Below w.heap.size w w') : Reads w' A vs :=
  h.fr (Fr.of_below hb nil2) (fun _ _ _ _ _ _ h => h)

theorem Reads.drewN {w : World} {A : Option Addr} {vs : List Value} (h : Reads w A vs) (n : Nat) : Reads (w.drewN n) A vs := h

/-- An owned row is read as it stands. -/
theorem own_reads {w : World} {base : Nat} {e : TypeId} {v : Value} {n : Nat} {xs : List Value} (h : w.ownsRow base e 1 v n xs) :
    ∃ A cap, v = .slice A n cap ∧ n ≤ cap ∧ cap ≤ maxLen ∧ Reads w A xs ∧ xs.length = n := by
  obtain ⟨hl, h⟩ := h
  rcases h with ⟨rfl, rfl⟩ | ⟨g, cap, cur, rfl, hg, hh, hn, hm, hs, ht⟩
  · exact ⟨none, 0, rfl, Nat.le_refl _, Nat.zero_le _, .inl (by simpa using hl), by omega⟩
  · refine ⟨_, cap, rfl, hn, hm, .inr ⟨g, 0, rfl, fun i v hi => ?_⟩, by omega⟩
    rw [← ht] at hi
    rw [List.getElem?_take] at hi
    split at hi
    · unfold World.cell?
      rw [hh]
      simp only [Option.isSome_none, Bool.false_eq_true, if_false, Nat.zero_add]
      simpa using hi
    · simp at hi

theorem ownsRow_base {w : World} {base : Nat} {e : TypeId} {size : Nat} {v : Value} {n : Nat} {xs : List Value} (h : w.ownsRow base e size v n xs) (k : Nat) (hk : v.ownBlock = some k) : base ≤ k := by
  rcases h.2 with ⟨rfl, _⟩ | ⟨g, cap, cur, rfl, hg, _⟩
  · simp [Value.ownBlock] at hk
  · simp only [Value.ownBlock, Option.some.injEq] at hk; omega


theorem drewN2 (w : World) (a b : Nat) : (w.drewN a).drewN b = w.drewN (a + b) := World.drewN_drewN _ _ _
theorem drewN3 (w : World) (a b c : Nat) : ((w.drewN a).drewN b).drewN c = w.drewN (a + b + c) := by rw [drewN2, drewN2, Nat.add_assoc]

theorem belowN {B : Nat} {a w : World} (h : Below B a w) (n : Nat) : Below B a (w.drewN n) := ⟨h.os, h.tape, h.output, h.size, h.block⟩

/-- A block of cells, known whole. -/
def Row (w : World) (g : Nat) (e : TypeId) (vs : List Value) : Prop := w.heap[g]? = some (.cells vs.toArray e (0, 0))

section
variable {w w' : World} {g : Nat} {e : TypeId} {vs : List Value}
theorem Row.lt (h : Row w g e vs) : g < w.heap.size := (Array.getElem?_eq_some_iff.1 h).1
theorem Row.get (h : Row w g e vs) (i : Nat) : w.cell? ⟨g, i, none⟩ = vs[i]? := by
  unfold World.cell?
  simp only [show w.heap[g]? = some (.cells vs.toArray e (0, 0)) from h, Option.isSome_none, Bool.false_eq_true, if_false, List.getElem?_toArray]
theorem Row.cell (h : Row w g e vs) (i : Nat) (hi : i < vs.length) : w.cell? ⟨g, i, none⟩ = some vs[i] := by rw [h.get, List.getElem?_eq_getElem hi]
theorem Row.frozen (h : Row w g e vs) (i : Nat) : w.frozen? ⟨g, i, none⟩ = false := by
  unfold World.frozen?
  simp only [show w.heap[g]? = some (.cells vs.toArray e (0, 0)) from h]
  simp
theorem Row.set (h : Row w g e vs) (i : Nat) (v : Value) : Row (w.setCell ⟨g, i, none⟩ v) g e (vs.set i v) := by
  have := heap_setCell_same w g i v _ _ _ h
  unfold Row
  rw [this]; simp
theorem Row.other (h : Row w g e vs) (b i : Nat) (hb : g ≠ b) (v : Value) : Row (w.setCell ⟨b, i, none⟩ v) g e vs := by
  unfold Row
  rw [Below.heap_setCell w ⟨b, i, none⟩ v g hb]; exact h
theorem Row.alloc (h : Row w g e vs) (o : Obj) : Row (w.alloc o) g e vs := (Below.heap_alloc w o g h.lt).trans h
theorem Row.drewN (h : Row w g e vs) (n : Nat) : Row (w.drewN n) g e vs := h
theorem Row.drew (h : Row w g e vs) : Row w.drew g e vs := h
theorem Row.new (w : World) (e : TypeId) (vs : List Value) : Row (w.alloc (.cells vs.toArray e)) w.heap.size e vs := by show (w.heap.push _)[w.heap.size]? = _; simp
theorem Row.fr {S : Nat → Nat → Prop} (h : Row w g e vs) (f : Fr S w w') (hs : ∀ o, ¬ S g o) : Row w' g e vs := (f.block h.lt hs).trans h
theorem Row.below {B : Nat} (h : Row w g e vs) (f : Below B w w') (hg : g < B) : Row w' g e vs := (f.block g hg).trans h
theorem Row.reads (h : Row w g e vs) (n : Nat) : Reads w (some ⟨g, 0, none⟩) (vs.take n) := by
  refine .inr ⟨g, 0, rfl, fun i v hi => ?_⟩
  rw [List.getElem?_take] at hi
  split at hi
  · rw [Nat.zero_add, h.get]; exact hi
  · simp at hi
theorem Row.reads' (h : Row w g e vs) : Reads w (some ⟨g, 0, none⟩) vs := by have := h.reads vs.length; rwa [List.take_length] at this
theorem Row.owns (h : Row w g e vs) {base : Nat} (hb : base ≤ g) (n : Nat) (hn : n ≤ vs.length) (hm : vs.length ≤ maxLen) : w.ownsRow base e 1 (.slice (some ⟨g, 0, none⟩) n vs.length) n (vs.take n) := by
  refine ⟨by simp; omega, .inr ⟨g, vs.length, vs.toArray, rfl, hb, h, hn, hm, by simp, by simp⟩⟩
end

theorem Reads.addr {w : World} {A : Option Addr} {vs : List Value} (h : Reads w A vs) (hp : 0 < vs.length) : ∃ ad, A = some ad ∧ ∀ j v, vs[j]? = some v → w.cell? (ad.add j) = some v := by
  rcases h with h | ⟨b, off, rfl, h⟩
  · subst h; simp at hp
  · refine ⟨_, rfl, fun j v hj => ?_⟩
    have := h j v hj
    unfold Addr.add
    split
    · rename_i h0; subst h0; exact this
    · exact this

theorem ints_one (k : IntKind) (l : List Int) : ∀ v ∈ ints k l, v.oneCell' = true := by
  intro v hv
  obtain ⟨x, _, rfl⟩ := List.mem_map.1 hv
  rfl

/-- An arm of the walk for the operation that writes a certain slot, and no other. -/
theorem gate {P : Program} {ops : Array Oper} {Q : Exit → Act → World → Prop} {a : Act} {w : World} {rest : List Oper} {o : Oper} {N : Tmp} (_hd : o.dst = some N) (h : wpList P ops Q (o :: rest) a w) : wpList P ops Q (o :: rest) a w := h

/-- The greater, and the lesser, of two whole numbers: no test of the walk's own. -/
def mx (a b : Int) : Int := if a < b then b else a
def mn (a b : Int) : Int := if b < a then b else a
theorem max_ints (ats : Array TypeId) (ty : TypeId) (k k' : IntKind) (x y : Int) : Builtin.max_ ats ty #[.int k x, .int k' y] = pure (.int k (mx x y)) := by
  simp only [Builtin.max_, List.foldlM_cons, List.foldlM_nil, Builtin.max2, gt_iff_lt, mx]
  split <;> rfl
theorem min_ints (ats : Array TypeId) (ty : TypeId) (k k' : IntKind) (x y : Int) : Builtin.min_ ats ty #[.int k x, .int k' y] = pure (.int k (mn x y)) := by
  simp only [Builtin.min_, List.foldlM_cons, List.foldlM_nil, Builtin.min2, mn]
  split <;> rfl
theorem mx_eq (a b : Int) : mx a b = max a b := by unfold mx; split <;> omega
theorem mn_eq (a b : Int) : mn a b = min a b := by unfold mn; split <;> omega

end Go.Alo
