/- For every input ListActs answers true, and its arguments read behind the call as before it; without conditions. -/
import Derived.Test.YthginpedlfocpaaRows
import Derived.Test.YthginpedlfocpaaActsArg
import Derived.Below
import Derived.WalkKit
import Derived.ProofKit
import Derived.OpenShut
import Derived.ShutString
import Derived.ChangeOld
import Derived.Below
namespace Go.Proofs.Ythginpedlfocpaa.listActs
open Go.ChangeShapes Go.WideShapes Go.ChangeAt Go.RowKit
open Go.ChangeMaps (open_string shut_string)
set_option linter.unusedVariables false

theorem own : ownKnob Try.prog.godebug = none := by kernel_rfl
theorem laidOut : laidOutB Try.prog = true := by kernel_rfl

theorem walk (a0 : Option Addr) (cap0 : Nat) (l : List LAct) (w : World) (h1 : ActsAt w a0 l) (h2 : ∀ c ∈ l, c.ok w) (h3 : l.length ≤ maxLen) :
    Calls Try.prog 9 #[.slice a0 l.length cap0] w fun e w' => e = .returned (.bool true) ∧ Below w.heap.size w w' := by
  rw [show maxLen = 9223372036854775807 from rfl] at h3
  exact (acts_walk a0 cap0 l w h1 h2 (by omega)).mono fun e w' ⟨he, hf⟩ => ⟨he, hf.below _ (Nat.le_refl _) (fun _ _ _ h => h)⟩

/-! ### THE ROW's STEP: WRITTEN OUT: LEAVE IT -/
set_option maxRecDepth 100000 in
theorem lifted (os : Os) (started : os.Started) (H : Type) (enc : TypeId × Value → H) :
    ReturnsInHanded {} Try.checked os 9 .any (Rows.listActsSpec.pre6 enc Try.prog Try.f9 Rows.listActsRow.domain false) (Rows.listActsSpec.post enc Try.prog Try.f9 false true false false) := by
  refine returnsInHanded_of_change (C := Try.checked) own started (by kernel_rfl) Try.func9
    (ChangeSpec.witness6 (enc := enc) (C := Try.checked) false ⟨#[], #[.slice none 0 0], []⟩ 8 (by kernel_rfl) (by kernel_rfl) (by kernel_rfl) (by kernel_rfl)) ?_
  intro W base args ds gs before hval0 hW hcnd _
  have hval : ∀ (j : Nat) t v, Try.f9.params[j]? = some t → args[j]? = some v → Value.okWide Try.prog W .any base t v := hval0
  have hW' := hW
  obtain ⟨p, q, hA0, hV, rfl, hfz, hnd⟩ := hW
  have hA : DataW.TrodAll enc Try.prog W 0 (fun _ => true) true Try.f9.params.toList args.toList ds p := hA0
  rw [Try.params9] at hA hval
  obtain ⟨v0, vs0, d0, ds0, p0, q0, hargs, rfl, rfl, h0, r0⟩ := trodAll_cons hA
  obtain ⟨rfl, rfl, rfl⟩ := trodAll_nil r0
  obtain rfl : args = #[v0] := by cases args; simp_all
  obtain ⟨rfl, rfl⟩ := trodVars_none hV
  obtain ⟨a0, len0, cap0, rfl⟩ := okWide_slice Try.underlying66 (hval 0 66 v0 rfl rfl)
  have k0 := h0
  have lt0 : ∀ x ∈ p0, x.block < W.heap.size := by obtain ⟨m, hm⟩ := k0; exact DataW.trod_lt m _ _ _ hm
  obtain ⟨l, hl, hr, hk, hm⟩ : ∃ l : List LAct, l.length = len0 ∧ ActsAt W a0 l ∧ (∀ c ∈ l, c.ok W) ∧ len0 ≤ maxLen := by
    obtain ⟨fuel, hf⟩ := h0
    exact open_acts hf (fun _ => rfl)
  clear hA0 hval0
  subst hl
  refine (walk a0 cap0 l W hr hk hm).mono fun e W' ⟨he, bel⟩ => ?_
  subst he
  exact ⟨_, rfl, _, _, _, [], _, [], hW', trodAll_mk1 (shut_bool Try.underlying4 _), (trodAll_cons_mk (Below.trod laidOut (by kernel_rfl) (of_decide_eq_true (by kernel_rfl)) k0 bel lt0) trodAll_mk0), rfl, bel.frame _, fun h => by cases h⟩

set_option maxHeartbeats 4000000 in
theorem facts : joinedFacts Try.prog 9 Try.f9 Rows.listActsSpec Rows.listActsRow = true := by
  rw [joinedFacts]
  simp only [Bool.and_eq_true]
  repeat' (with_reducible apply And.intro)
  all_goals (as_aux_lemma => kernel_rfl)
theorem named : Try.prog.funcNamed Rows.listActsRow.func = some 9 := by kernel_rfl
theorem instanced : Try.f9.isInstance Try.prog Rows.listActsRow.origin Rows.listActsRow.targs := of_decide_eq_true (by kernel_rfl)
theorem wrapped : Try.f9.isWrapper Try.prog Rows.listActsRow.wrapper Rows.listActsRow.mainSum := by
  unfold Func.isWrapper
  rw [if_neg (by decide +kernel)]
  exact ⟨rfl, rfl⟩

theorem over : Rows.listActsRow.holds Try.pinned (OpenSpec.ofChange Rows.listActsSpec) :=
  OpenClaim.holds_of_wide 9 Try.f9 rfl rfl rfl rfl rfl rfl rfl ⟨rfl, rfl, rfl, rfl, rfl⟩ rfl rfl rfl rfl rfl named Try.func9 facts instanced wrapped
    (fun os started H enc _ => lifted os started H enc)

/-- ████ THE STATEMENT ████ -/
theorem proved : Rows.ListActsSaid := over
#print axioms proved
end Go.Proofs.Ythginpedlfocpaa.listActs
