/- A call's own map of booleans, by whole numbers: which were met. -/
import Derived.Test.YthginpedlfocpaaRange
import Derived.Maps.Own
import Derived.Maps.OwnSet
import Derived.Maps.Views
namespace Go.Alo
open Go.RowKit Go.Proofs
open Go.Maps (Keyed int_keyed keyOf_int_mk)

theorem plainElem_bool_inv {H : Type} {P : Program} {e : TypeId} (he : P.underlying e = some .bool) {v : Value} {z : DataW H × List MemPlace} (h : plainElem P e v = some z) : ∃ a, v = .bool a ∧ z = (.lit (.bool a), []) := by
  unfold plainElem at h
  rw [he] at h
  cases v <;> simp at h
  subst h
  exact ⟨_, rfl, rfl⟩

/-- Block b is a map of at most n entries; f says which keys are true in it. -/
def Met (P : Program) (k e : TypeId) (q : IntKind) (w : World) (b n : Nat) (f : Int → Bool) : Prop :=
  ∃ D : DataW Unit, w.ownsMap P k (plainElem P e) b n D ∧ ∀ x, (Lit.int q x).wf = true → D.atKey (.int q x) (.lit (.bool false)) = .lit (.bool (f x))

variable {P : Program} {k e t : TypeId} {q : IntKind} {w w' : World} {b n : Nat} {f : Int → Bool}

theorem Met.made (P : Program) (k e : TypeId) (q : IntKind) (w : World) : Met P k e q (w.alloc (.map #[] 0)) w.heap.size 0 (fun _ => false) :=
  ⟨_, World.ownsMap_made _ _ _ _, fun _ _ => rfl⟩

theorem Met.lt (h : Met P k e q w b n f) : b < w.heap.size := h.choose_spec.1.lt
theorem Met.kept {row : Option Nat} (h : Met P k e q w b n f) (hg : w.grownBy w' row) (hne : some b ≠ row) : Met P k e q w' b n f := by
  obtain ⟨D, h1, h2⟩ := h
  exact ⟨D, h1.kept hg hne, h2⟩
theorem Met.same (h : Met P k e q w b n f) (hs : w'.heap[b]? = w.heap[b]?) : Met P k e q w' b n f := by
  obtain ⟨D, ⟨es, clock, hb, r⟩, h2⟩ := h
  exact ⟨D, ⟨es, clock, hs.trans hb, r⟩, h2⟩
theorem Met.others {es : Array MapEntry} {clock : Nat} (h : Met P k e q w b n f) (hs : ∀ o, w.heap[b]? = some o → o.isCells = false → w'.heap[b]? = some o) : Met P k e q w' b n f := by
  obtain ⟨D, ⟨es, clock, hb, r⟩, h2⟩ := h
  exact ⟨D, ⟨es, clock, hs _ hb rfl, r⟩, h2⟩
theorem Met.fr {S : Nat → Nat → Prop} (h : Met P k e q w b n f) (hf : Fr S w w') : Met P k e q w' b n f := by
  obtain ⟨D, ⟨es, clock, hb, r⟩, h2⟩ := h
  exact ⟨D, ⟨es, clock, hf.others b _ hb (by intro c e f; simp), r⟩, h2⟩
theorem Met.alloc (h : Met P k e q w b n f) (o : Obj) : Met P k e q (w.alloc o) b n f := h.fr (S := nil2) ((Fr.refl _ _).alloc o)

theorem Met.lookup (h : Met P k e q w b n f) (hk : P.underlying k = some (.int q)) (ht : P.underlying t = some (.map k e)) (he : P.underlying e = some .bool) (hz : (zeroValue e).run P w = .ok (.bool false) w) {x : Int} (hx : (Lit.int q x).wf = true) :
    (Instr.lookup t (.map (some b)) (.int q x) false).run P w = .ok (.bool (f x)) w := by
  obtain ⟨D, h1, h2⟩ := h
  obtain ⟨v, ps, hrun, hv⟩ := h1.lookup (int_keyed hk) ht hz (plainElem_bool he false) (keyOf_int_mk hk hx)
  obtain ⟨c, rfl, hc⟩ := plainElem_bool_inv he hv
  simp only [Prod.mk.injEq] at hc
  have h3 := h2 x hx
  rw [hc.1] at h3
  injection h3 with h4
  injection h4 with h5
  rw [hrun, h5]

theorem Met.update (h : Met P k e q w b n f) (hk : P.underlying k = some (.int q)) (ht : P.underlying t = some (.map k e)) (he : P.underlying e = some .bool) (hn : n < maxLen) {x : Int} (hx : (Lit.int q x).wf = true) (c : Bool) :
    ∃ w', (Instr.mapUpdate t (.map (some b)) (.int q x) (.bool c)).run P w = .ok () w' ∧ Met P k e q w' b (n + 1) (fun y => if y = x then c else f y) ∧ w.grownBy w' (some b) := by
  obtain ⟨D, h1, h2⟩ := h
  obtain ⟨w', hr, h3, h4⟩ := h1.update (int_keyed hk) ht hn (keyOf_int_mk hk hx) (plainElem_bool he c)
  refine ⟨w', hr, ⟨_, h3, ?_⟩, h4⟩
  intro y hy
  by_cases hyx : y = x
  · subst hyx
    rw [Maps.atKey_put_same h1.isMap ((int_keyed hk).key (keyOf_int_mk hk hx))]
    simp
  · rw [Maps.atKey_put_other (by intro h; injection h with _ h; exact hyx h), h2 y hy]
    simp [hyx]

variable {ops : Array Oper} {rest : List Oper} {o : Oper} {a : Act} {Q : Exit → Act → World → Prop}

theorem wpList_lookup_met (hg : o.guard = none) (m x : Operand) (t : TypeId) (hop : o.op = Op.lookup t m x false)
    (k e : TypeId) (q : IntKind) (hk : P.underlying k = some (.int q)) (ht : P.underlying t = some (.map k e)) (he : P.underlying e = some .bool) (hz : (zeroValue e).run P w = .ok (.bool false) w) (b n : Nat) (f : Int → Bool)
    (hm : a.eval m = .map (some b)) (hown : Met P k e q w b n f) (y : Int) (hx : a.eval x = .int q y) (z : Int) (hy : y = z) (hwf : (Lit.int q z).wf = true)
    (hK : wpList P ops Q rest (a.put o.dst (.bool (f z))) w) : wpList P ops Q (o :: rest) a w := by
  subst hy
  refine wpList_plain hg fun K' hK' => ?_
  have hrun := hown.lookup hk ht he hz hwf
  unfold Oper.wp
  simp [execOp, hop, hm, hx, hrun, Result.andThen]
  exact hK' _ _ hK

theorem wpList_update_met (hg : o.guard = none) (m x v : Operand) (t : TypeId) (hop : o.op = Op.mapUpdate t m x v)
    (k e : TypeId) (q : IntKind) (hk : P.underlying k = some (.int q)) (ht : P.underlying t = some (.map k e)) (he : P.underlying e = some .bool) (b n : Nat) (f : Int → Bool)
    (hm : a.eval m = .map (some b)) (hown : Met P k e q w b n f) (hn : n < maxLen) (y : Int) (hx : a.eval x = .int q y) (z : Int) (hy : y = z) (hwf : (Lit.int q z).wf = true) (c : Bool) (hv : a.eval v = .bool c)
    (hK : ∀ w', Met P k e q w' b (n + 1) (fun y => if y = z then c else f y) → w.grownBy w' (some b) → wpList P ops Q rest (a.put o.dst undef) w') : wpList P ops Q (o :: rest) a w := by
  subst hy
  refine wpList_plain hg fun K' hK' => ?_
  obtain ⟨w', hrun, r1, r2⟩ := hown.update hk ht he hn hwf c
  unfold Oper.wp
  simp [execOp, hop, hm, hx, hv, hrun, Result.andThen]
  exact hK' _ _ (hK w' r1 r2)

end Go.Alo
