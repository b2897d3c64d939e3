/- A range over a function, for a caller whose invariant is over worlds outright. -/
import Derived.Test.YthginpedlfocpaaGround
import Derived.RangeFuncNested
import Derived.RangeFuncBound
import Derived.RangeFuncCalls
import Derived.RangeFuncLeaves
import Derived.RangeFuncKeeps
import Derived.Shelf.Abstract
import Derived.OwnWalkIn
import Derived.TacticsInMore
import Derived.LoopNIn
import Derived.LoopIn
namespace Go.Alo
open Go Go.RowKit

/-- What is asked of a word over worlds: it abides the loop's own book-keeping, at and above a block. -/
structure Abide {α : Type} (B : Nat) (J : α → World → Prop) : Prop where
  put : ∀ s (W : World) l o o', B ≤ l → W.heap[l]? = some o → o.isCells = false → J s W → J s (W.putObj l o')
  alloc : ∀ s (W : World) o, B ≤ W.heap.size → J s W → J s (W.alloc o)

theorem KeepsOthers.of_fr {S : Nat → Nat → Prop} {w w' : World} (h : Fr S w w') : KeepsOthers w w' := by
  refine ⟨h.size, fun k o hk ho => h.others k o hk ?_⟩
  intro c e f e'
  subst e'
  simp [Obj.isCells] at ho

theorem Fr.putObj {S : Nat → Nat → Prop} {a w : World} (h : Fr S a w) (l : Nat) (o' : Obj) (hl : a.heap.size ≤ l) : Fr S a (w.putObj l o') := by
  refine ⟨h.os, h.tape, h.output, by simp [World.putObj]; exact h.size, ?_, ?_⟩
  · intro k c e f hk
    have hlt := (Array.getElem?_eq_some_iff.1 hk).1
    rw [World.putObj_heap_other (by omega)]
    exact h.cells k c e f hk
  · intro k o hk hn
    have hlt := (Array.getElem?_eq_some_iff.1 hk).1
    rw [World.putObj_heap_other (by omega)]
    exact h.others k o hk hn

theorem cell_putObj {w : World} {l b o : Nat} {x x' : Obj} (hx : w.heap[l]? = some x) (hc : x.isCells = false) {v : Value} (h : w.cell? ⟨b, o, none⟩ = some v) : (w.putObj l x').cell? ⟨b, o, none⟩ = some v := by
  have hne : b ≠ l := by
    rintro rfl
    unfold World.cell? at h
    simp only [hx] at h
    cases x <;> simp [Obj.isCells] at hc h
  unfold World.cell? at h ⊢
  rw [World.putObj_heap_other hne]
  exact h

theorem Row.putObj {w : World} {g l : Nat} {e : TypeId} {vs : List Value} {x x' : Obj} (hx : w.heap[l]? = some x) (hc : x.isCells = false) (h : Row w g e vs) : Row (w.putObj l x') g e vs := by
  have hne : g ≠ l := by
    rintro rfl
    unfold Row at h
    rw [hx] at h
    obtain rfl := Option.some.inj h
    simp [Obj.isCells] at hc
  unfold Row
  rw [World.putObj_heap_other hne]
  exact h

theorem cell_put_ne {w : World} {b o l : Nat} {x' : Obj} (hb : b ≠ l) : (w.putObj l x').cell? ⟨b, o, none⟩ = w.cell? ⟨b, o, none⟩ := by
  unfold World.cell?
  rw [World.putObj_heap_other hb]

theorem frozen_putObj {w : World} {b o l : Nat} {x' : Obj} (hb : b ≠ l) : (w.putObj l x').frozen? ⟨b, o, none⟩ = w.frozen? ⟨b, o, none⟩ := by
  unfold World.frozen?
  rw [World.putObj_heap_other hb]

/-- HOW THE BODY OF A ROUND MAY BE LEFT. -/
def rPost {α : Type} (Kp : World → World → Prop) (J : List α → World → Prop) (Jx : Code → List α → World → Prop) (xs : List α) (W : World) : Exit → Act → World → Prop
  | .normal, _, W' => KeepsOthers W W' ∧ Kp W W' ∧ J xs W'
  | .ret, _, W' => KeepsOthers W W' ∧ Jx .ret xs W'
  | .exit id, _, W' => KeepsOthers W W' ∧ Jx (.exit id) xs W'
  | .goto t, _, W' => KeepsOthers W W' ∧ Jx (.goto t) xs W'
  | .panic _, _, _ => False
  | .outgrown, _, _ => False

/-- An iterator's word: whatever the rounds keep, it comes to its end, or is told to stop. -/
def IterSays {α : Type} (P : Program) (n : Nat) (gf : Nat) (lb : Array Value) (encs : α → Array Value) (Ok : List α → α → Prop) (Kp : World → World → Prop) (Fine : (List α → World → Prop) → Prop) (S Sp : List α → Prop) (w0 : World) : Prop :=
  ∀ (l : Nat) (J Jx : List α → World → Prop) (W : World), Fr nil2 w0 W → Fine J → Fine Jx →
    (∀ pre x W1, J pre W1 → Ok pre x → YieldAt Fence.wide (n - 1) P l (encs x) W1 fun e W' =>
      (e = .returned (.bool true) ∧ J (pre ++ [x]) W' ∧ Kp W1 W') ∨ (e = .returned (.bool false) ∧ Jx (pre ++ [x]) W')) →
    J [] W →
    CallsIn Fence.wide n P gf (#[.func (.yield l) #[] #[]] ++ lb) W fun e W' => (∃ v, e = .returned v) ∧ ((∃ xs, S xs ∧ J xs W') ∨ (∃ pre, Sp pre ∧ Jx pre W'))

variable {n : Nat} {P : Program}

theorem range_law {α : Type} {g : Operand} {ps : Array Tmp} {assign body : Code} {Q : Exit → Act → World → Prop} {a : Act} {w : World}
    {gf : Nat} {lb : Array Value} (hg : a.eval g = .func (.func gf) #[] lb) (eg : ∀ args w, (callFunc gf args).run P w = .ok (.enter gf args) w)
    {encs : α → Array Value} {Ok : List α → α → Prop} {Kp : World → World → Prop} {Fine : (List α → World → Prop) → Prop} {S Sp : List α → Prop}
    (hseq : IterSays P (n - 1) gf lb encs Ok Kp Fine S Sp w)
    (hKt : ∀ {A B C : World}, Kp A B → Kp B C → Kp A C) (hKb : ∀ (W : World) (l : Nat) (o o' : Obj), w.heap.size ≤ l → W.heap[l]? = some o → o.isCells = false → Kp W (W.putObj l o'))
    (hps : ∀ x, (encs x).size = ps.size)
    (J : List α → World → Prop) (Jx : Code → List α → World → Prop) (hJ : Abide w.heap.size J) (hJx : ∀ c, Abide w.heap.size (Jx c))
    (hFine : ∀ (l : Nat) (r : Loop) (D : Nat) (d : List Deferred), w.heap.size ≤ l → w.heap.size ≤ D → Fine (fun pre W => J pre W ∧ W.heap[l]? = some (.loop r) ∧ W.heap[D]? = some (.deferred (some d))))
    (hFinex : ∀ (l : Nat) (r : Option Code → Loop) (D : Nat) (d : List Deferred), w.heap.size ≤ l → w.heap.size ≤ D → Fine (fun pre W => ∃ c, Jx c pre W ∧ W.heap[l]? = some (.loop (r (some c))) ∧ W.heap[D]? = some (.deferred (some d))))
    (h0 : J [] w)
    (hround : ∀ (l : Nat) (pre : List α) (x : α) (W : World), w.heap.size < l → J pre W → Ok pre x → ∃ a₁ : Act,
      (∀ (W0 : World) (K : Act → World → Prop), K a₁ W0 → assign.wpIn (Fence.wide.inRound l) (n - 1 - 1) P (Exit.then K (fun _ _ _ => False)) { tmps := (ps.zip (encs x)).foldl (fun t (p, v) => t.setIfInBounds p v) a.tmps, defers := [] } W0) ∧
      body.wpIn (Fence.wide.inRound l) (n - 1 - 1) P (rPost Kp J Jx (pre ++ [x]) W) a₁ W)
    (hdone : ∀ (D : Nat) (xs : List α) (W : World), w.heap.size ≤ D → S xs → J xs W → W.heap[D]? = some (.deferred (some [])) → Q .normal { a with defers := { target := .collected D, args := #[] } :: a.defers } W)
    (hstop : ∀ (D : Nat) (c : Code) (pre : List α) (W : World), w.heap.size ≤ D → Sp pre → Jx c pre W → W.heap[D]? = some (.deferred (some [])) → c.wpIn Fence.wide n P Q { a with defers := { target := .collected D, args := #[] } :: a.defers } W) :
    (Code.rangeFunc g ps assign body).wpIn Fence.wide n P Q a w := by
  refine wpIn_rangeFunc ?_
  intro fn hfn
  have hro : Fence.wide.round = none := rfl
  rw [hro]
  obtain ⟨rec, hrec⟩ : ∃ rec : LoopState → Option Code → Loop, rec = fun st pe => { state := st, pending := pe, fn, tmps := a.tmps, params := ps, assign, body, defers := w.heap.size } := ⟨_, rfl⟩
  obtain ⟨W1, hW1⟩ : ∃ W1, (w.alloc (.deferred (some []))).alloc (.loop (rec .ready none)) = W1 := ⟨_, rfl⟩
  have hL1 : W1.heap[w.heap.size + 1]? = some (.loop (rec .ready none)) := by
    rw [← hW1]
    have e : ((w.alloc (.deferred (some []))).alloc (.loop (rec .ready none))).heap[(w.alloc (.deferred (some []))).heap.size]? = some (.loop (rec .ready none)) := by
      show ((w.alloc (.deferred (some []))).heap.push _)[(w.alloc (.deferred (some []))).heap.size]? = _
      simp only [Array.getElem?_push_size]
    rwa [World.size_alloc] at e
  have hK1 : W1.heap[w.heap.size]? = some (.deferred (some [])) := by
    rw [← hW1]; refine (Below.heap_alloc _ _ _ (by simp)).trans ?_; show (w.heap.push _)[w.heap.size]? = _; simp
  have hI1 : J [] W1 := by rw [← hW1]; exact hJ.alloc _ _ _ (by simp) (hJ.alloc _ _ _ (Nat.le_refl _) h0)
  have hf1 : Fr nil2 w W1 := by rw [← hW1]; exact ((Fr.refl nil2 w).alloc _).alloc _
  refine ⟨w.heap.size + 1, [{ target := .collected w.heap.size, args := #[] }], W1, { target := .fn (.func gf) lb, args := #[.func (.yield (w.heap.size + 1)) #[] #[]] }, W1, gf,
    #[.func (.yield (w.heap.size + 1)) #[] #[]] ++ lb, W1, ?_, ?_, ?_, ?_, fun h => by simp [Fence.wide] at h, ?_⟩
  · rw [← hW1, hrec]; exact run_enterLoop_outer _ _ _ _ _
  · simp only [resolve, hg]
    simp [go_sem]
  · intro f' _; trivial
  · simp [invoke, go_sem, eg]
  · refine (hseq (w.heap.size + 1)
      (fun pre W => J pre W ∧ W.heap[w.heap.size + 1]? = some (.loop (rec .ready none)) ∧ W.heap[w.heap.size]? = some (.deferred (some [])))
      (fun pre W => ∃ c, Jx c pre W ∧ W.heap[w.heap.size + 1]? = some (.loop (rec .done (some c))) ∧ W.heap[w.heap.size]? = some (.deferred (some [])))
      W1 hf1 (hFine _ _ _ _ (by omega) (by omega)) (hFinex (w.heap.size + 1) (fun c => rec .done c) w.heap.size [] (by omega) (by omega)) ?_ ⟨hI1, hL1, hK1⟩).mono ?_
    · rintro pre x W ⟨hi, hl, hk⟩ hok
      have hlt : w.heap.size + 1 < W.heap.size := (Array.getElem?_eq_some_iff.1 hl).1
      have hy := run_yield (P := P) (args := encs x) hl (by rw [hrec]; exact hps x)
      rw [hrec] at hy
      obtain ⟨a₁, hassign, hbody⟩ := hround (w.heap.size + 1) pre x (W.putObj (w.heap.size + 1) (.loop { rec .ready none with state := .busy })) (by omega) (hJ.put _ _ _ _ _ (by omega) hl rfl hi) hok
      refine ⟨fn, _, assign, body, hy, roundIn_of_wpIn hfn (hassign W _ ⟨_, run_beginRound hl (by rw [hrec]), ?_⟩)⟩
      have hl2 : (W.putObj (w.heap.size + 1) (.loop { rec .ready none with state := .busy })).heap[w.heap.size + 1]? = some (.loop { rec .ready none with state := .busy }) := World.putObj_heap_same hlt
      have hk2 : (W.putObj (w.heap.size + 1) (.loop { rec .ready none with state := .busy })).heap[w.heap.size]? = some (.deferred (some [])) := (World.putObj_heap_other (by omega)).trans hk
      have hw2 : Kp W (W.putObj (w.heap.size + 1) (.loop { rec .ready none with state := .busy })) := hKb _ _ _ _ (by omega) hl rfl
      refine wpIn_mono hbody ?_
      have fin : ∀ (jump : Option Code) (W3 : World), KeepsOthers (W.putObj (w.heap.size + 1) (.loop { rec .ready none with state := .busy })) W3 →
          (Instr.endRound (w.heap.size + 1) jump).run P W3 = .ok (.bool jump.isNone) (W3.putObj (w.heap.size + 1) (.loop (rec (if jump.isNone then .ready else .done) jump))) ∧
          W3.heap[w.heap.size + 1]? = some (.loop { rec .ready none with state := .busy }) ∧
          (W3.putObj (w.heap.size + 1) (.loop (rec (if jump.isNone then .ready else .done) jump))).heap[w.heap.size + 1]? = some (.loop (rec (if jump.isNone then .ready else .done) jump)) ∧
          (W3.putObj (w.heap.size + 1) (.loop (rec (if jump.isNone then .ready else .done) jump))).heap[w.heap.size]? = some (.deferred (some [])) := fun jump W3 hk3 => by
        have hl3 := hk3.same _ _ hl2 rfl
        have := run_endRound (P := P) jump hl3
        rw [hrec] at this ⊢
        exact ⟨this, by rw [hrec] at hl3; exact hl3, World.putObj_heap_same (Array.getElem?_eq_some_iff.1 hl3).1, (World.putObj_heap_other (by omega)).trans (hk3.same _ _ hk2 rfl)⟩
      rintro e a3 W3 hp
      cases e with
      | normal =>
        obtain ⟨hk3, hkp3, hi3⟩ := hp
        obtain ⟨hr, hl3, hl4, hk4⟩ := fin none W3 hk3
        exact ⟨_, _, hr, .inl ⟨rfl, ⟨hJ.put _ _ _ _ _ (by omega) hl3 rfl hi3, hl4, hk4⟩, hKt (hKt hw2 hkp3) (hKb _ _ _ _ (by omega) hl3 rfl)⟩⟩
      | ret =>
        obtain ⟨hk3, hi3⟩ := hp
        obtain ⟨hr, hl3, hl4, hk4⟩ := fin (some .ret) W3 hk3
        exact ⟨_, _, hr, .inr ⟨rfl, .ret, (hJx _).put _ _ _ _ _ (by omega) hl3 rfl hi3, hl4, hk4⟩⟩
      | exit id =>
        obtain ⟨hk3, hi3⟩ := hp
        obtain ⟨hr, hl3, hl4, hk4⟩ := fin (some (.exit id)) W3 hk3
        exact ⟨_, _, hr, .inr ⟨rfl, .exit id, (hJx _).put _ _ _ _ _ (by omega) hl3 rfl hi3, hl4, hk4⟩⟩
      | goto t =>
        obtain ⟨hk3, hi3⟩ := hp
        obtain ⟨hr, hl3, hl4, hk4⟩ := fin (some (.goto t)) W3 hk3
        exact ⟨_, _, hr, .inr ⟨rfl, .goto t, (hJx _).put _ _ _ _ _ (by omega) hl3 rfl hi3, hl4, hk4⟩⟩
      | panic ch => exact hp.elim
      | outgrown => exact hp.elim
    · rintro e W2 ⟨⟨v, rfl⟩, (⟨xs, hS, hi, hl, hk⟩ | ⟨pre, hSp, c, hi, hl, hk⟩)⟩
      · exact ⟨none, _, by have := run_endLoop (P := P) hl (by rw [hrec]; simp); rw [hrec] at this; exact this, hdone _ xs _ (Nat.le_refl _) hS (hJ.put _ _ _ _ _ (by omega) hl rfl hi) ((World.putObj_heap_other (by omega)).trans hk)⟩
      · exact ⟨some c, _, by have := run_endLoop (P := P) hl (by rw [hrec]; simp); rw [hrec] at this; exact this, hstop _ c pre _ (Nat.le_refl _) hSp ((hJx c).put _ _ _ _ _ (by omega) hl rfl hi) ((World.putObj_heap_other (by omega)).trans hk)⟩

/-- What a step of an iterator's own may turn: the cells of T. -/
def FineFr {α : Type} (T : Nat → Nat → Prop) (J : List α → World → Prop) : Prop := ∀ s W W', J s W → Fr T W W' → J s W'

theorem FineFr.loop {α : Type} {T : Nat → Nat → Prop} {J : List α → World → Prop} (h : FineFr T J) (l : Nat) (r : Loop) (D : Nat) (d : List Deferred) : FineFr T (fun pre W => J pre W ∧ W.heap[l]? = some (.loop r) ∧ W.heap[D]? = some (.deferred (some d))) :=
  fun s W W' ⟨h1, h2, h3⟩ f => ⟨h s W W' h1 f, f.others l _ h2 (by intro c e f; simp), f.others D _ h3 (by intro c e f; simp)⟩

theorem FineFr.loopx {α : Type} {T : Nat → Nat → Prop} {Jx : Code → List α → World → Prop} (h : ∀ c, FineFr T (Jx c)) (l : Nat) (r : Option Code → Loop) (D : Nat) (d : List Deferred) : FineFr T (fun pre W => ∃ c, Jx c pre W ∧ W.heap[l]? = some (.loop (r (some c))) ∧ W.heap[D]? = some (.deferred (some d))) :=
  fun s W W' ⟨c, h1, h2, h3⟩ f => ⟨c, h c s W W' h1 f, f.others l _ h2 (by intro c e f; simp), f.others D _ h3 (by intro c e f; simp)⟩

/-- A cell that may be written, and what it holds. -/
def Cel (W : World) (b o : Nat) (v : Value) : Prop := W.cell? ⟨b, o, none⟩ = some v ∧ W.frozen? ⟨b, o, none⟩ = false

theorem Cel.lt {W : World} {b o : Nat} {v : Value} (h : Cel W b o v) : b < W.heap.size := cell_lt h.1
theorem Cel.put {W : World} {b o l : Nat} {v : Value} {x x' : Obj} (h : Cel W b o v) (hx : W.heap[l]? = some x) (hc : x.isCells = false) : Cel (W.putObj l x') b o v := by
  refine ⟨cell_putObj hx hc h.1, ?_⟩
  have hne : b ≠ l := by
    rintro rfl
    have h1 := h.1
    unfold World.cell? at h1
    simp only [hx] at h1
    cases x <;> simp [Obj.isCells] at hc h1
  rw [frozen_putObj hne]; exact h.2
theorem Cel.fr {S : Nat → Nat → Prop} {W W' : World} {b o : Nat} {v : Value} (h : Cel W b o v) (f : Fr S W W') (hs : ¬ S b o) : Cel W' b o v := ⟨f.cell h.1 hs, (f.frozen h.lt).trans h.2⟩
theorem Cel.alloc {W : World} {b o : Nat} {v : Value} (h : Cel W b o v) (x : Obj) : Cel (W.alloc x) b o v := h.fr (S := nil2) ((Fr.refl _ _).alloc x) (fun h => h)
theorem Cel.drewN {W : World} {b o : Nat} {v : Value} (h : Cel W b o v) (n : Nat) : Cel (W.drewN n) b o v := h
theorem Cel.of_row {W : World} {g : Nat} {e : TypeId} {vs : List Value} (h : Row W g e vs) (i : Nat) (hi : i < vs.length) : Cel W g i vs[i] := ⟨h.cell i hi, h.frozen i⟩
theorem Cel.new (W : World) (e : TypeId) (v : Value) : Cel (W.alloc (.cells #[v] e)) W.heap.size 0 v := Cel.of_row (Row.new W e [v]) 0 (by simp)
theorem Cel.set {W : World} {b o : Nat} {v : Value} (h : Cel W b o v) (u : Value) : Cel (W.setCell ⟨b, o, none⟩ u) b o u := by
  obtain ⟨h1, h2⟩ := h
  unfold World.cell? at h1
  split at h1
  · rename_i c e f he
    simp only at he
    have := heap_setCell_same W b o u c e f he
    simp only [Option.isSome_none, Bool.false_eq_true, if_false] at h1
    have hlt := (Array.getElem?_eq_some_iff.1 h1).1
    constructor
    · unfold World.cell?
      simp only [this, Option.isSome_none, Bool.false_eq_true, if_false]
      rw [Array.getElem?_setIfInBounds, if_pos rfl, if_pos hlt]
    · unfold World.frozen? at h2 ⊢
      simp only [this]
      simp only [he] at h2
      exact h2
  · simp at h1
theorem Cel.other {W : World} {b o b' o' : Nat} {v : Value} (h : Cel W b o v) (u : Value) (hne : ¬ (b = b' ∧ o = o')) : Cel (W.setCell ⟨b', o', none⟩ u) b o v :=
  h.fr (S := fun k q => k = b' ∧ q = o') ((Fr.refl _ _).setCell b' o' (fun _ => ⟨rfl, rfl⟩) u) hne

theorem Cel.same {W W' : World} {b o : Nat} {v : Value} (h : Cel W b o v) (e : W'.heap[b]? = W.heap[b]?) : Cel W' b o v := by
  obtain ⟨h1, h2⟩ := h
  constructor
  · unfold World.cell? at h1 ⊢
    simp only at h1 ⊢
    rw [e]; exact h1
  · unfold World.frozen? at h2 ⊢
    simp only at h2 ⊢
    rw [e]; exact h2

/-- A row of the call's own grew, or is new. -/
theorem Fr.grown {S : Nat → Nat → Prop} {a w w' : World} {row : Option Nat} (h : Fr S a w) (hg : w.grownBy w' row) (hr : ∀ k, row = some k → a.heap.size ≤ k) : Fr S a w' := by
  have hb : ∀ k, k < a.heap.size → w'.heap[k]? = w.heap[k]? := fun k hk => hg.block k (Nat.lt_of_lt_of_le hk h.size) (fun e => by have := hr k e.symm; omega)
  refine ⟨hg.os.trans h.os, hg.tape.trans h.tape, hg.output.trans h.output, Nat.le_trans h.size hg.size, ?_, ?_⟩
  · intro k c e f hk
    rw [hb k (Array.getElem?_eq_some_iff.1 hk).1]
    exact h.cells k c e f hk
  · intro k o hk hn
    rw [hb k (Array.getElem?_eq_some_iff.1 hk).1]
    exact h.others k o hk hn

section
variable {w w' : World} {base : Nat} {e : TypeId} {size : Nat} {v : Value} {n : Nat} {xs : List Value}
theorem own_same (h : w.ownsRow base e size v n xs) (hb : ∀ k, base ≤ k → k < w.heap.size → (∃ c f, w.heap[k]? = some (.cells c e f)) → w'.heap[k]? = w.heap[k]?) : w'.ownsRow base e size v n xs := by
  obtain ⟨h1, h2⟩ := h
  refine ⟨h1, ?_⟩
  rcases h2 with h2 | ⟨g, cap, cur, hv, hg, hh, r⟩
  · exact .inl h2
  · exact .inr ⟨g, cap, cur, hv, hg, (hb g hg (Array.getElem?_eq_some_iff.1 hh).1 ⟨_, _, hh⟩).trans hh, r⟩
theorem own_fr {S : Nat → Nat → Prop} (h : w.ownsRow base e size v n xs) (f : Fr S w w') (hs : ∀ k o, base ≤ k → ¬ S k o) : w'.ownsRow base e size v n xs :=
  own_same h (fun k hk hlt _ => f.block hlt (fun o => hs k o hk))
theorem own_put {l : Nat} {x x' : Obj} (h : w.ownsRow base e size v n xs) (hx : w.heap[l]? = some x) (hc : x.isCells = false) : (w.putObj l x').ownsRow base e size v n xs :=
  own_same h (fun k _ _ ⟨c, f, hk⟩ => World.putObj_heap_other (fun e' => by subst e'; rw [hx] at hk; obtain rfl := Option.some.inj hk; simp [Obj.isCells] at hc))
theorem own_lower {base' : Nat} (h : w.ownsRow base e size v n xs) (hb : base' ≤ base) : w.ownsRow base' e size v n xs := by
  obtain ⟨h1, h2⟩ := h
  refine ⟨h1, ?_⟩
  rcases h2 with h2 | ⟨g, cap, cur, hv, hg, r⟩
  · exact .inl h2
  · exact .inr ⟨g, cap, cur, hv, Nat.le_trans hb hg, r⟩
theorem own_cells (h : w.ownsRow base e size v n xs) (k : Nat) (hk : v.ownBlock = some k) : base ≤ k ∧ ∃ c, w.heap[k]? = some (.cells c e (0, 0)) := by
  rcases h.2 with ⟨rfl, _⟩ | ⟨g, cap, cur, rfl, hg, hh, r⟩
  · simp [Value.ownBlock] at hk
  · simp only [Value.ownBlock, Option.some.injEq] at hk
    subst hk
    exact ⟨hg, cur, hh⟩
end

/-- A callee's frame of new memory alone, behind one's own. -/
theorem Fr.trans' {S : Nat → Nat → Prop} {a b c : World} (h : Fr S a b) (k : Fr nil2 b c) : Fr S a c := h.step k (fun _ _ _ h => h.elim)

end Go.Alo
