/- Pages: what PageOrders and PageFills share. -/
import Derived.Test.YthginpedlfocpaaPageF
import Derived.Test.YthginpedlfocpaaLJoinsB
import Derived.Maps.AppendAt
import Derived.Deep.RegionHeldLaw
namespace Go.Proofs.Ythginpedlfocpaa
open Go.RowKit Go.Alo Go.Shelf
attribute [local go_sem] max_ints min_ints
attribute [local go_sem ↓] Go.wp_at_zero Go.wp_at_succ

theorem runL_snoc (f s : Int) (k : Nat) : ∀ i : Int, runL f s i (k + 1) = runL f s i k ++ [f + (i + k) * s] := by
  induction k with
  | zero => intro i; simp [runL]
  | succ k ih =>
    intro i
    rw [runL, ih (i + 1), runL, List.cons_append, show i + 1 + (k : Int) = i + ((k + 1 : Nat) : Int) from by omega]

/-- All are made, and those that are not used come again in this order. -/
def PgR (W : World) (pb m g : Nat) (f s n : Int) (R : List Int) : Prop := (∃ u, Pg W pb m g f s n n u R []) ∨ (∃ u, Pg W pb m g f s n n u [] R)

theorem PgR.fr {S : Nat → Nat → Prop} {W W' : World} {pb m g : Nat} {f s n : Int} {R : List Int} (p : PgR W pb m g f s n R) (h : Fr S W W') (hp : ∀ o, ¬ S pb o) (hm : ∀ o, ¬ S m o) (hg : ∀ o, ¬ S g o) : PgR W' pb m g f s n R := by
  rcases p with ⟨u, p⟩ | ⟨u, p⟩
  · exact .inl ⟨u, p.fr h hp hm hg⟩
  · exact .inr ⟨u, p.fr h hp hm hg⟩
theorem PgR.quiet {W W' : World} {pb m g : Nat} {f s n : Int} {R : List Int} (p : PgR W pb m g f s n R) (h : Fr nil2 W W') : PgR W' pb m g f s n R := p.fr h (fun _ h => h) (fun _ h => h) (fun _ h => h)
theorem PgR.lts {W : World} {pb m g : Nat} {f s n : Int} {R : List Int} (p : PgR W pb m g f s n R) : pb < W.heap.size ∧ m < W.heap.size ∧ g < W.heap.size := by
  rcases p with ⟨u, p⟩ | ⟨u, p⟩
  · exact p.lts
  · exact p.lts

theorem pgr_next {W : World} {pb m g : Nat} {f s n a : Int} {R : List Int} (p : PgR W pb m g f s n (a :: R)) : Calls Try.prog 65 #[.pointer (some ⟨pb, 0, none⟩)] W fun e w' => e = .returned (.tuple #[.int .u64 a, .int .i64 0]) ∧ PgR w' pb m g f s n R ∧ Fr (PF g pb) W w' := by
  rcases p with ⟨u, p⟩ | ⟨u, p⟩
  · exact (pg_free p).mono fun e w' ⟨h1, h2, h3⟩ => ⟨h1, .inl ⟨_, h2⟩, h3⟩
  · exact (pg_local p).mono fun e w' ⟨h1, h2, h3⟩ => ⟨h1, .inl ⟨_, h2⟩, h3⟩

theorem pgr_full {W : World} {pb m g : Nat} {f s n : Int} (p : PgR W pb m g f s n []) : Calls Try.prog 65 #[.pointer (some ⟨pb, 0, none⟩)] W fun e w' => e = .returned (.tuple #[.int .u64 0, .int .i64 4]) ∧ Fr (PF g pb) W w' := by
  rcases p with ⟨u, p⟩ | ⟨u, p⟩
  · exact (pg_full p).mono fun e w' ⟨h1, h2, h3⟩ => ⟨h1, h3⟩
  · exact (pg_full p).mono fun e w' ⟨h1, h2, h3⟩ => ⟨h1, h3⟩

section
variable {W W' : World} {pb m g : Nat} {f s n made used : Int} {fs ls : List Int}
theorem Pg.same (p : Pg W pb m g f s n made used fs ls) (h : ∀ k, k = pb ∨ k = m ∨ k = g → W'.heap[k]? = W.heap[k]?) : Pg W' pb m g f s n made used fs ls := by
  obtain ⟨bs, hf, hl, p⟩ := p
  exact ⟨bs, hf, hl, { p with row := (h _ (.inl rfl)).trans p.row, mem := ⟨(h _ (.inr (.inl rfl))).trans p.mem.obj, (h _ (.inr (.inr rfl))).trans p.mem.bytes, p.mem.ne, p.mem.byt, p.mem.len⟩ }⟩
theorem PgN.same {k : Nat} (p : PgN W pb m g f s n k) (h : ∀ k, k = pb ∨ k = m ∨ k = g → W'.heap[k]? = W.heap[k]?) : PgN W' pb m g f s n k := by
  obtain ⟨d, p⟩ := p
  exact ⟨d, p.same h⟩
end

/-- A slice of numbers, in a block of its own, beside another row. -/
structure Us (W : World) (B : Nat) (A : Option Addr) (c : Nat) (xs : List Int) (fo : Option Nat) : Prop where
  rd : Reads W A (ints .u64 xs)
  nn : A = none → c = 0
  le : xs.length ≤ c
  cm : c ≤ maxLen
  ad : ∀ ad, A = some ad → ∃ b, ad = ⟨b, 0, none⟩ ∧ B ≤ b ∧ b < W.heap.size ∧ fo ≠ some b

theorem us_of_own {W : World} {B k : Nat} {v : Value} {xs : List Int} {fo : Option Nat} (h : W.ownsRow B 22 1 v k (ints .u64 xs)) (hf : ∀ b, v.ownBlock = some b → fo ≠ some b) : ∃ A c, v = .slice A k c ∧ Us W B A c xs fo := by
  have hl : xs.length = k := by have := h.1; simpa [ints] using this
  obtain ⟨A, c, hv, h1, h2, h3, h4⟩ := own_reads h
  refine ⟨A, c, hv, h3, ?_, by omega, h2, ?_⟩
  · rcases h.2 with ⟨e, _⟩ | ⟨g, cap, cur, e, _⟩
    · rw [hv] at e; injection e with e1 e2 e3; intro; exact e3
    · rw [hv] at e; injection e with e1 e2 e3; intro h; rw [e1] at h; cases h
  · intro ad ha
    rcases h.2 with ⟨e, _⟩ | ⟨g, cap, cur, e, hb, hg, _⟩
    · rw [hv] at e; injection e with e1 e2 e3; rw [e1] at ha; cases ha
    · have hob : v.ownBlock = some g := by rw [e]; rfl
      rw [hv] at e; injection e with e1 e2 e3
      rw [e1] at ha
      injection ha with ha
      exact ⟨g, ha.symm, hb, (Array.getElem?_eq_some_iff.1 hg).1, hf g hob⟩

section
variable {W W' : World} {B c : Nat} {A : Option Addr} {xs : List Int} {fo fo' : Option Nat}
theorem Us.same (h : Us W B A c xs fo) (hb : ∀ b, B ≤ b → b < W.heap.size → fo ≠ some b → W'.heap[b]? = W.heap[b]?) (hs : W.heap.size ≤ W'.heap.size) (hf : ∀ b, b < W.heap.size → fo' = some b → fo = some b) : Us W' B A c xs fo' := by
  refine ⟨?_, h.nn, h.le, h.cm, fun ad e => ?_⟩
  · cases A with
    | none => 
      rcases h.rd with h1 | ⟨b, off, e, _⟩
      · exact .inl h1
      · cases e
    | some ad =>
      obtain ⟨b, rfl, h1, h2, h3⟩ := h.ad ad rfl
      rcases h.rd with h4 | ⟨b', off, e, h4⟩
      · exact .inl h4
      · injection e with e
        injection e with e1 e2
        subst e1 e2
        exact .inr ⟨_, _, rfl, fun i v hi => (World.cell?_of_block (a := ⟨b, 0 + i, none⟩) (hb _ h1 h2 h3)).trans (h4 i v hi)⟩
  · obtain ⟨b, e1, h1, h2, h3⟩ := h.ad ad e
    exact ⟨b, e1, h1, by omega, fun e2 => h3 (hf b h2 e2)⟩
theorem Us.fr {S : Nat → Nat → Prop} (h : Us W B A c xs fo) (f : Fr S W W') (hs : ∀ b o, B ≤ b → ¬ S b o) : Us W' B A c xs fo :=
  h.same (fun b hb hl _ => f.block hl (fun o => hs b o hb)) f.size (fun _ _ e => e)
end

theorem moved {xs ys : List Int} {j : Nat} {x : Int} (hj : j < xs.length) (hx : xs[j] = x) : ((xs.take j ++ xs.drop (j + 1)) ++ (ys ++ [x])).Perm (xs ++ ys) := by
  have h : xs = xs.take j ++ x :: xs.drop (j + 1) := by rw [← hx, ← List.drop_eq_getElem_cons hj, List.take_append_drop]
  obtain ⟨P, hP⟩ : ∃ P, xs.take j = P := ⟨_, rfl⟩
  obtain ⟨Q, hQ⟩ : ∃ Q, xs.drop (j + 1) = Q := ⟨_, rfl⟩
  rw [hP, hQ] at h ⊢
  rw [h, ← List.append_assoc]
  exact (List.perm_append_singleton x _).trans (List.Perm.append_right ys List.perm_middle.symm)

/-- What stands in a slice, ahead of a place and behind it. -/
theorem Us.ahead {W : World} {B c : Nat} {b : Nat} {xs : List Int} {fo : Option Nat} (h : Us W B (some ⟨b, 0, none⟩) c xs fo) (j : Nat) : Reads W (some ⟨b, 0, none⟩) (ints .u64 (xs.take j)) := by
  rcases h.rd with h1 | ⟨b', off, e, h1⟩
  · have : xs = [] := by simpa [ints] using h1
    subst this; exact .inl (by simp [ints])
  · injection e with e
    injection e with e1 e2
    subst e1 e2
    refine .inr ⟨_, _, rfl, fun i v hi => h1 i v ?_⟩
    rw [show ints .u64 (xs.take j) = (ints .u64 xs).take j from by simp [ints], List.getElem?_take] at hi
    split at hi
    · exact hi
    · cases hi
theorem Us.behind {W : World} {B c : Nat} {b : Nat} {xs : List Int} {fo : Option Nat} (h : Us W B (some ⟨b, 0, none⟩) c xs fo) (j : Nat) : Reads W (some ⟨b, j, none⟩) (ints .u64 (xs.drop j)) := by
  rcases h.rd with h1 | ⟨b', off, e, h1⟩
  · have : xs = [] := by simpa [ints] using h1
    subst this; exact .inl (by simp [ints])
  · injection e with e
    injection e with e1 e2
    subst e1 e2
    refine .inr ⟨_, _, rfl, fun i v hi => ?_⟩
    have := h1 (j + i) v (by rw [← hi, show ints .u64 (xs.drop j) = (ints .u64 xs).drop j from by simp [ints], List.getElem?_drop])
    rwa [Nat.zero_add] at this

/-- append, whatever comes behind: at a step of a region that draws its order. -/
theorem step_append_any {P : Program} (w : World) {ops : Array Oper} {o : Oper} {a : Act} {K : Act → World → Prop} {Q : Exit → Act → World → Prop} {E : Prop}
    (hgd : o.guard = none) (s x : Operand) (t : TypeId) (hop : o.op = Op.call { callee := Callee.builtin Builtin.append, args := #[s, x], argTypes := #[t, t] })
    (base : Nat) (e : TypeId) (i : TypeInfo) (z : Value) (bytes : Nat) (h1 : P.underlying t = some (.slice e)) (h2 : P.info? e = some i) (h3 : i.zero = some z) (h4 : i.size = 1) (h5 : i.bytes = bytes) (h6 : z.cells.size = 1)
    (v : Value) (k : Nat) (xs : List Value) (hs : a.eval s = v) (hown : w.ownsRow base e 1 v k xs) (A : Option Addr) (m c : Nat) (news : List Value) (hx : a.eval x = .slice A m c) (hA : A = none → c = 0) (hn : news.length = m)
    (hr : Reads w A news) (h1c : ∀ u ∈ news, u.oneCell' = true) (hmc : m ≤ c) (b1 : k + m ≤ maxLen) (b2 : (k + m) * bytes ≤ 140737488355328) (b3 : base ≤ w.heap.size)
    (hK : ∀ v' w', w'.ownsRow base e 1 v' (k + m) (xs ++ news) → w.grownBy w' v.ownBlock → K (a.put o.dst v') w') :
    if Region.wanted o (yielded ops a.tmps) = true then Oper.wp P o a w K Q else E := by
  have hw : Region.wanted o (yielded ops a.tmps) = true := by simp [Region.wanted, hgd]
  rw [if_pos hw]
  cases A with
  | none =>
    obtain rfl := hA rfl
    obtain rfl : m = 0 := by omega
    have hnews : news = [] := List.eq_nil_of_length_eq_zero hn
    subst hnews
    have hrun := run_append_owned_none (P := P) w base t o.type e i 1 h1 h2 v k xs hown
    unfold Oper.wp
    simp [execOp, hop, resolve, invoke, builtin, hs, hx, hrun, Result.andThen]
    exact hK v w (by simpa using hown) (World.grownBy.refl _ _)
  | some ad =>
    have hc : ∀ j u, news[j]? = some u → w.cell? (ad.add j) = some u := by
      by_cases hp : 0 < news.length
      · obtain ⟨ad', e', h'⟩ := hr.addr hp
        obtain rfl := Option.some.inj e'
        exact h'
      · intro j u hj
        have := (List.getElem?_eq_some_iff.1 hj).1
        omega
    obtain ⟨v', w', hrun, r1, r2, r3⟩ := run_append_own (P := P) w base t o.type e i z 1 bytes h1 h2 h3 h4 h5 h6 (by decide) v k xs hown ad m c news (by omega) hc h1c b1 b2 b3
    unfold Oper.wp
    simp [execOp, hop, resolve, invoke, builtin, hs, hx, hrun, Result.andThen]
    exact hK v' w' r1 r2

end Go.Proofs.Ythginpedlfocpaa
