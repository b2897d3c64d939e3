/-
  No cell of these rows narrows 'for every input' (looked for: loops, veiled, ifaces, maps, wideKeys, modest, calm, conditions, laid).
  DERIVED. THE GIVEN ROWS OF THIS SEAT. 16 by the template 'for every input the law returns true; each argument reads behind the call as it read before'; 0 by the template 'total and deterministic' (their statements: YthginpedlfocpaaTotals.lean).
  GIVEN WITH THE SEED: the statements are not yours to turn. If you find one false, say at which input.
  Laid BY PROGRAM, IN A SANDBOX (cutbox-rows.mjs): the forced cells as the released guide's own fill.sh prints them over the translation 141540be70ce4584… (all of the seat's roots in one cut). By AI agents, Wed Nov 11 2026. No macro, syntax, notation, axiom, sorry.
-/
import Derived.Test.YthginpedlfocpaaChecked
import GoSem.Claim
import GoSem.ClaimJoined
import GoSem.ClaimMapViews
import Derived.JoinedTies
import Derived.KernelRfl
namespace Go.Proofs.Ythginpedlfocpaa
/- THE CELL 'sum', in the pinned program and in every row, IS THE sha256 OF THE DUMP (.gsa) THAT YthginpedlfocpaaProg.lean LOADS. Nothing in Lean hashes anything: it is a label: what it is worth is what the hold of that sum in a sandbox is worth. -/
noncomputable def Try.pinned : Pinned := { name := "ythginpedlfocpaa", sum := "141540be70ce45845e1f2f23e86d0d6d9b7da792e9aeac4bd2ce2684596e29a9", checked := Try.checked }
namespace Rows
def none {H : Type} : Left H := { results := [], args := [] }

/-- 'allotmentlaw01.CalcRounds': WHATEVER THE INPUT: true; the input reads as it did. -/
def calcRoundsSpec : ChangeSpec := { name := "calcRounds", fn := fun _ => fun
  | [d1, d2] => { results := [.lit (.bool true)], args := [d1, d2] }
  | _ => none }
def calcRoundsRow : OpenClaim := { program := "ythginpedlfocpaa", sum := "141540be70ce45845e1f2f23e86d0d6d9b7da792e9aeac4bd2ce2684596e29a9", func := "allotment/allotmentlaw01.CalcRounds", spec := "calcRounds", inPlace := ["math/bits.Add64"], apart := false }
def CalcRoundsSaid : Prop := calcRoundsRow.holds Try.pinned (OpenSpec.ofChange calcRoundsSpec)

/-- ITS FALSE NEIGHBOUR: 'it returns false'. Refute it at one input. -/
def calcRoundsWrong : ChangeSpec := { name := "calcRounds", fn := fun _ => fun
  | [d1, d2] => { results := [.lit (.bool false)], args := [d1, d2] }
  | _ => none }
def CalcRoundsWrongFalsely : Prop := calcRoundsRow.holds Try.pinned (OpenSpec.ofChange calcRoundsWrong)

/-- 'allotmentlaw07.ListChains': WHATEVER THE INPUT: true; the input reads as it did. -/
def listChainsSpec : ChangeSpec := { name := "listChains", fn := fun _ => fun
  | [d1, d2] => { results := [.lit (.bool true)], args := [d1, d2] }
  | _ => none }
def listChainsRow : OpenClaim := { program := "ythginpedlfocpaa", sum := "141540be70ce45845e1f2f23e86d0d6d9b7da792e9aeac4bd2ce2684596e29a9", func := "allotment/allotmentlaw07.ListChains", spec := "listChains", unfollowed := true, recurses := true, apart := false }
def ListChainsSaid : Prop := listChainsRow.holds Try.pinned (OpenSpec.ofChange listChainsSpec)

/-- ITS FALSE NEIGHBOUR: 'it returns false'. Refute it at one input. -/
def listChainsWrong : ChangeSpec := { name := "listChains", fn := fun _ => fun
  | [d1, d2] => { results := [.lit (.bool false)], args := [d1, d2] }
  | _ => none }
def ListChainsWrongFalsely : Prop := listChainsRow.holds Try.pinned (OpenSpec.ofChange listChainsWrong)

/-- 'allotmentlaw07.ListCounts': WHATEVER THE INPUT: true; the input reads as it did. -/
def listCountsSpec : ChangeSpec := { name := "listCounts", fn := fun _ => fun
  | [d1, d2] => { results := [.lit (.bool true)], args := [d1, d2] }
  | _ => none }
def listCountsRow : OpenClaim := { program := "ythginpedlfocpaa", sum := "141540be70ce45845e1f2f23e86d0d6d9b7da792e9aeac4bd2ce2684596e29a9", func := "allotment/allotmentlaw07.ListCounts", spec := "listCounts", unfollowed := true, recurses := true, apart := false }
def ListCountsSaid : Prop := listCountsRow.holds Try.pinned (OpenSpec.ofChange listCountsSpec)

/-- ITS FALSE NEIGHBOUR: 'it returns false'. Refute it at one input. -/
def listCountsWrong : ChangeSpec := { name := "listCounts", fn := fun _ => fun
  | [d1, d2] => { results := [.lit (.bool false)], args := [d1, d2] }
  | _ => none }
def ListCountsWrongFalsely : Prop := listCountsRow.holds Try.pinned (OpenSpec.ofChange listCountsWrong)

/-- 'allotmentlaw07.ListJoins': WHATEVER THE INPUT: true; the input reads as it did. -/
def listJoinsSpec : ChangeSpec := { name := "listJoins", fn := fun _ => fun
  | [d1, d2] => { results := [.lit (.bool true)], args := [d1, d2] }
  | _ => none }
def listJoinsRow : OpenClaim := { program := "ythginpedlfocpaa", sum := "141540be70ce45845e1f2f23e86d0d6d9b7da792e9aeac4bd2ce2684596e29a9", func := "allotment/allotmentlaw07.ListJoins", spec := "listJoins", unfollowed := true, recurses := true, apart := false }
def ListJoinsSaid : Prop := listJoinsRow.holds Try.pinned (OpenSpec.ofChange listJoinsSpec)

/-- ITS FALSE NEIGHBOUR: 'it returns false'. Refute it at one input. -/
def listJoinsWrong : ChangeSpec := { name := "listJoins", fn := fun _ => fun
  | [d1, d2] => { results := [.lit (.bool false)], args := [d1, d2] }
  | _ => none }
def ListJoinsWrongFalsely : Prop := listJoinsRow.holds Try.pinned (OpenSpec.ofChange listJoinsWrong)

/-- 'allotmentlaw01.CalcSums': WHATEVER THE INPUT: true; the input reads as it did. -/
def calcSumsSpec : ChangeSpec := { name := "calcSums", fn := fun _ => fun
  | [d] => { results := [.lit (.bool true)], args := [d] }
  | _ => none }
def calcSumsRow : OpenClaim := { program := "ythginpedlfocpaa", sum := "141540be70ce45845e1f2f23e86d0d6d9b7da792e9aeac4bd2ce2684596e29a9", func := "allotment/allotmentlaw01.CalcSums", spec := "calcSums", inPlace := ["math/bits.Add64"], unfollowed := true, recurses := true, apart := false }
def CalcSumsSaid : Prop := calcSumsRow.holds Try.pinned (OpenSpec.ofChange calcSumsSpec)

/-- ITS FALSE NEIGHBOUR: 'it returns false'. Refute it at one input. -/
def calcSumsWrong : ChangeSpec := { name := "calcSums", fn := fun _ => fun
  | [d] => { results := [.lit (.bool false)], args := [d] }
  | _ => none }
def CalcSumsWrongFalsely : Prop := calcSumsRow.holds Try.pinned (OpenSpec.ofChange calcSumsWrong)

/-- 'allotmentlaw05.ClassTables': WHATEVER THE INPUT: true; the input reads as it did. -/
def classTablesSpec : ChangeSpec := { name := "classTables", fn := fun _ => fun
  | [d1, d2, d3] => { results := [.lit (.bool true)], args := [d1, d2, d3] }
  | _ => none }
def classTablesRow : OpenClaim := { program := "ythginpedlfocpaa", sum := "141540be70ce45845e1f2f23e86d0d6d9b7da792e9aeac4bd2ce2684596e29a9", func := "allotment/allotmentlaw05.ClassTables", spec := "classTables", apart := false }
def ClassTablesSaid : Prop := classTablesRow.holds Try.pinned (OpenSpec.ofChange classTablesSpec)

/-- ITS FALSE NEIGHBOUR: 'it returns false'. Refute it at one input. -/
def classTablesWrong : ChangeSpec := { name := "classTables", fn := fun _ => fun
  | [d1, d2, d3] => { results := [.lit (.bool false)], args := [d1, d2, d3] }
  | _ => none }
def ClassTablesWrongFalsely : Prop := classTablesRow.holds Try.pinned (OpenSpec.ofChange classTablesWrong)

/-- 'allotmentlaw07.ListActs': WHATEVER THE INPUT: true; the input reads as it did. -/
def listActsSpec : ChangeSpec := { name := "listActs", fn := fun _ => fun
  | [d] => { results := [.lit (.bool true)], args := [d] }
  | _ => none }
def listActsRow : OpenClaim := { program := "ythginpedlfocpaa", sum := "141540be70ce45845e1f2f23e86d0d6d9b7da792e9aeac4bd2ce2684596e29a9", func := "allotment/allotmentlaw07.ListActs", spec := "listActs", unfollowed := true, recurses := true, apart := false }
def ListActsSaid : Prop := listActsRow.holds Try.pinned (OpenSpec.ofChange listActsSpec)

/-- ITS FALSE NEIGHBOUR: 'it returns false'. Refute it at one input. -/
def listActsWrong : ChangeSpec := { name := "listActs", fn := fun _ => fun
  | [d] => { results := [.lit (.bool false)], args := [d] }
  | _ => none }
def ListActsWrongFalsely : Prop := listActsRow.holds Try.pinned (OpenSpec.ofChange listActsWrong)

/-- 'allotmentlaw07.ListUntouched': WHATEVER THE INPUT: true; the input reads as it did. -/
def listUntouchedSpec : ChangeSpec := { name := "listUntouched", fn := fun _ => fun
  | [d1, d2] => { results := [.lit (.bool true)], args := [d1, d2] }
  | _ => none }
def listUntouchedRow : OpenClaim := { program := "ythginpedlfocpaa", sum := "141540be70ce45845e1f2f23e86d0d6d9b7da792e9aeac4bd2ce2684596e29a9", func := "allotment/allotmentlaw07.ListUntouched", spec := "listUntouched", unfollowed := true, recurses := true, apart := false }
def ListUntouchedSaid : Prop := listUntouchedRow.holds Try.pinned (OpenSpec.ofChange listUntouchedSpec)

/-- ITS FALSE NEIGHBOUR: 'it returns false'. Refute it at one input. -/
def listUntouchedWrong : ChangeSpec := { name := "listUntouched", fn := fun _ => fun
  | [d1, d2] => { results := [.lit (.bool false)], args := [d1, d2] }
  | _ => none }
def ListUntouchedWrongFalsely : Prop := listUntouchedRow.holds Try.pinned (OpenSpec.ofChange listUntouchedWrong)

/-- 'allotmentlaw09.PageOrders': WHATEVER THE INPUT: true; the input reads as it did. -/
def pageOrdersSpec : ChangeSpec := { name := "pageOrders", fn := fun _ => fun
  | [d1, d2, d3] => { results := [.lit (.bool true)], args := [d1, d2, d3] }
  | _ => none }
def pageOrdersRow : OpenClaim := { program := "ythginpedlfocpaa", sum := "141540be70ce45845e1f2f23e86d0d6d9b7da792e9aeac4bd2ce2684596e29a9", func := "allotment/allotmentlaw09.PageOrders", spec := "pageOrders", unfollowed := true, recurses := true, apart := false }
def PageOrdersSaid : Prop := pageOrdersRow.holds Try.pinned (OpenSpec.ofChange pageOrdersSpec)

/-- ITS FALSE NEIGHBOUR: 'it returns false'. Refute it at one input. -/
def pageOrdersWrong : ChangeSpec := { name := "pageOrders", fn := fun _ => fun
  | [d1, d2, d3] => { results := [.lit (.bool false)], args := [d1, d2, d3] }
  | _ => none }
def PageOrdersWrongFalsely : Prop := pageOrdersRow.holds Try.pinned (OpenSpec.ofChange pageOrdersWrong)

/-- 'allotmentlaw09.PageFills': WHATEVER THE INPUT: true; the input reads as it did. -/
def pageFillsSpec : ChangeSpec := { name := "pageFills", fn := fun _ => fun
  | [d1, d2, d3] => { results := [.lit (.bool true)], args := [d1, d2, d3] }
  | _ => none }
def pageFillsRow : OpenClaim := { program := "ythginpedlfocpaa", sum := "141540be70ce45845e1f2f23e86d0d6d9b7da792e9aeac4bd2ce2684596e29a9", func := "allotment/allotmentlaw09.PageFills", spec := "pageFills", unfollowed := true, recurses := true, apart := false }
def PageFillsSaid : Prop := pageFillsRow.holds Try.pinned (OpenSpec.ofChange pageFillsSpec)

/-- ITS FALSE NEIGHBOUR: 'it returns false'. Refute it at one input. -/
def pageFillsWrong : ChangeSpec := { name := "pageFills", fn := fun _ => fun
  | [d1, d2, d3] => { results := [.lit (.bool false)], args := [d1, d2, d3] }
  | _ => none }
def PageFillsWrongFalsely : Prop := pageFillsRow.holds Try.pinned (OpenSpec.ofChange pageFillsWrong)

/-- 'allotmentlaw10.SegOwners': WHATEVER THE INPUT: true; the input reads as it did. -/
def segOwnersSpec : ChangeSpec := { name := "segOwners", fn := fun _ => fun
  | [d1, d2] => { results := [.lit (.bool true)], args := [d1, d2] }
  | _ => none }
def segOwnersRow : OpenClaim := { program := "ythginpedlfocpaa", sum := "141540be70ce45845e1f2f23e86d0d6d9b7da792e9aeac4bd2ce2684596e29a9", func := "allotment/allotmentlaw10.SegOwners", spec := "segOwners", unfollowed := true, recurses := true, apart := false }
def SegOwnersSaid : Prop := segOwnersRow.holds Try.pinned (OpenSpec.ofChange segOwnersSpec)

/-- ITS FALSE NEIGHBOUR: 'it returns false'. Refute it at one input. -/
def segOwnersWrong : ChangeSpec := { name := "segOwners", fn := fun _ => fun
  | [d1, d2] => { results := [.lit (.bool false)], args := [d1, d2] }
  | _ => none }
def SegOwnersWrongFalsely : Prop := segOwnersRow.holds Try.pinned (OpenSpec.ofChange segOwnersWrong)

/-- 'allotmentlaw10.SegFills': WHATEVER THE INPUT: true; the input reads as it did. -/
def segFillsSpec : ChangeSpec := { name := "segFills", fn := fun _ => fun
  | [d] => { results := [.lit (.bool true)], args := [d] }
  | _ => none }
def segFillsRow : OpenClaim := { program := "ythginpedlfocpaa", sum := "141540be70ce45845e1f2f23e86d0d6d9b7da792e9aeac4bd2ce2684596e29a9", func := "allotment/allotmentlaw10.SegFills", spec := "segFills", unfollowed := true, recurses := true, apart := false }
def SegFillsSaid : Prop := segFillsRow.holds Try.pinned (OpenSpec.ofChange segFillsSpec)

/-- ITS FALSE NEIGHBOUR: 'it returns false'. Refute it at one input. -/
def segFillsWrong : ChangeSpec := { name := "segFills", fn := fun _ => fun
  | [d] => { results := [.lit (.bool false)], args := [d] }
  | _ => none }
def SegFillsWrongFalsely : Prop := segFillsRow.holds Try.pinned (OpenSpec.ofChange segFillsWrong)

/-- 'allotmentlaw15.LedgerApart': WHATEVER THE INPUT: true; the input reads as it did. -/
def ledgerApartSpec : ChangeSpec := { name := "ledgerApart", fn := fun _ => fun
  | [d1, d2, d3] => { results := [.lit (.bool true)], args := [d1, d2, d3] }
  | _ => none }
def ledgerApartRow : OpenClaim := { program := "ythginpedlfocpaa", sum := "141540be70ce45845e1f2f23e86d0d6d9b7da792e9aeac4bd2ce2684596e29a9", func := "allotment/allotmentlaw15.LedgerApart", spec := "ledgerApart", inPlace := ["slices.overlaps[allotment/ledger.entry]"], unfollowed := true, recurses := true, apart := false }
def LedgerApartSaid : Prop := ledgerApartRow.holds Try.pinned (OpenSpec.ofChange ledgerApartSpec)

/-- ITS FALSE NEIGHBOUR: 'it returns false'. Refute it at one input. -/
def ledgerApartWrong : ChangeSpec := { name := "ledgerApart", fn := fun _ => fun
  | [d1, d2, d3] => { results := [.lit (.bool false)], args := [d1, d2, d3] }
  | _ => none }
def LedgerApartWrongFalsely : Prop := ledgerApartRow.holds Try.pinned (OpenSpec.ofChange ledgerApartWrong)

/-- 'allotmentlaw15.LedgerSums': WHATEVER THE INPUT: true; the input reads as it did. -/
def ledgerSumsSpec : ChangeSpec := { name := "ledgerSums", fn := fun _ => fun
  | [d1, d2] => { results := [.lit (.bool true)], args := [d1, d2] }
  | _ => none }
def ledgerSumsRow : OpenClaim := { program := "ythginpedlfocpaa", sum := "141540be70ce45845e1f2f23e86d0d6d9b7da792e9aeac4bd2ce2684596e29a9", func := "allotment/allotmentlaw15.LedgerSums", spec := "ledgerSums", inPlace := ["slices.overlaps[allotment/ledger.entry]"], unfollowed := true, recurses := true, apart := false }
def LedgerSumsSaid : Prop := ledgerSumsRow.holds Try.pinned (OpenSpec.ofChange ledgerSumsSpec)

/-- ITS FALSE NEIGHBOUR: 'it returns false'. Refute it at one input. -/
def ledgerSumsWrong : ChangeSpec := { name := "ledgerSums", fn := fun _ => fun
  | [d1, d2] => { results := [.lit (.bool false)], args := [d1, d2] }
  | _ => none }
def LedgerSumsWrongFalsely : Prop := ledgerSumsRow.holds Try.pinned (OpenSpec.ofChange ledgerSumsWrong)

/-- 'allotmentlaw15.LedgerOrders': WHATEVER THE INPUT: true; the input reads as it did. -/
def ledgerOrdersSpec : ChangeSpec := { name := "ledgerOrders", fn := fun _ => fun
  | [d1, d2] => { results := [.lit (.bool true)], args := [d1, d2] }
  | _ => none }
def ledgerOrdersRow : OpenClaim := { program := "ythginpedlfocpaa", sum := "141540be70ce45845e1f2f23e86d0d6d9b7da792e9aeac4bd2ce2684596e29a9", func := "allotment/allotmentlaw15.LedgerOrders", spec := "ledgerOrders", inPlace := ["slices.overlaps[allotment/ledger.entry]"], unfollowed := true, recurses := true, apart := false }
def LedgerOrdersSaid : Prop := ledgerOrdersRow.holds Try.pinned (OpenSpec.ofChange ledgerOrdersSpec)

/-- ITS FALSE NEIGHBOUR: 'it returns false'. Refute it at one input. -/
def ledgerOrdersWrong : ChangeSpec := { name := "ledgerOrders", fn := fun _ => fun
  | [d1, d2] => { results := [.lit (.bool false)], args := [d1, d2] }
  | _ => none }
def LedgerOrdersWrongFalsely : Prop := ledgerOrdersRow.holds Try.pinned (OpenSpec.ofChange ledgerOrdersWrong)

/-- 'allotmentlaw15.LedgerIn': WHATEVER THE INPUT: true; the input reads as it did. -/
def ledgerInSpec : ChangeSpec := { name := "ledgerIn", fn := fun _ => fun
  | [d1, d2] => { results := [.lit (.bool true)], args := [d1, d2] }
  | _ => none }
def ledgerInRow : OpenClaim := { program := "ythginpedlfocpaa", sum := "141540be70ce45845e1f2f23e86d0d6d9b7da792e9aeac4bd2ce2684596e29a9", func := "allotment/allotmentlaw15.LedgerIn", spec := "ledgerIn", inPlace := ["slices.overlaps[allotment/ledger.entry]"], unfollowed := true, recurses := true, apart := false }
def LedgerInSaid : Prop := ledgerInRow.holds Try.pinned (OpenSpec.ofChange ledgerInSpec)

/-- ITS FALSE NEIGHBOUR: 'it returns false'. Refute it at one input. -/
def ledgerInWrong : ChangeSpec := { name := "ledgerIn", fn := fun _ => fun
  | [d1, d2] => { results := [.lit (.bool false)], args := [d1, d2] }
  | _ => none }
def LedgerInWrongFalsely : Prop := ledgerInRow.holds Try.pinned (OpenSpec.ofChange ledgerInWrong)

/- THE SECOND FORM. 'bulk': how many values and letters a reading holds, each counted each time it is reached (what is shared counts as often as it is met; a slice's spare places count too). A statement '..UptoSaid' is the law's where the arguments, and the package variables that the reading takes, are together of bulk at most 1048576: NARROWER than '..Said'. Prove '..Said' where nothing that the law and all that it calls make is longer than what came in: it says more and counts as full. Else prove '..UptoSaid'. A law counts once. -/
mutual
def uptoBulk {H : Type} : DataW H → Nat
  | .lit (.string bytes) => bytes.length + 1
  | .lit _ => 1
  | .nil => 1
  | .ptr d => uptoBulk d + 1
  | .slice elems spare => uptoBulkAll elems + uptoBulkAll spare + 1
  | .agg parts => uptoBulkAll parts + 1
  | .iface _ d => uptoBulk d + 1
  | .map entries => uptoBulkEntries entries + 1
  | .held _ => 1
def uptoBulkAll {H : Type} : List (DataW H) → Nat
  | [] => 0
  | d :: r => uptoBulk d + uptoBulkAll r
def uptoBulkEntries {H : Type} : List (Lit × DataW H) → Nat
  | [] => 0
  | x :: r => uptoBulkEntry x + uptoBulkEntries r
def uptoBulkEntry {H : Type} : Lit × DataW H → Nat
  | (.string bytes, d) => bytes.length + uptoBulk d + 1
  | (_, d) => uptoBulk d + 1
 end
def uptoSmall : (H : Type) → List (DataW H) → Bool := fun _ ds => decide (uptoBulkAll ds ≤ 1048576)
def OpenSpec.upto (s : _root_.Go.ChangeSpec) : _root_.Go.OpenSpec := { _root_.Go.OpenSpec.ofChange s with cond := some uptoSmall }

/-- 'allotmentlaw01.CalcRounds', WHERE WHAT IT READS IS OF BULK AT MOST 1048576: true; the input reads as it did. -/
def calcRoundsUptoRow : OpenClaim := { program := "ythginpedlfocpaa", sum := "141540be70ce45845e1f2f23e86d0d6d9b7da792e9aeac4bd2ce2684596e29a9", func := "allotment/allotmentlaw01.CalcRounds", spec := "calcRounds", inPlace := ["math/bits.Add64"], apart := false, narrowed := true }
def CalcRoundsUptoSaid : Prop := calcRoundsUptoRow.holds Try.pinned (OpenSpec.upto calcRoundsSpec)

/-- 'allotmentlaw07.ListChains', WHERE WHAT IT READS IS OF BULK AT MOST 1048576: true; the input reads as it did. -/
def listChainsUptoRow : OpenClaim := { program := "ythginpedlfocpaa", sum := "141540be70ce45845e1f2f23e86d0d6d9b7da792e9aeac4bd2ce2684596e29a9", func := "allotment/allotmentlaw07.ListChains", spec := "listChains", unfollowed := true, recurses := true, apart := false, narrowed := true }
def ListChainsUptoSaid : Prop := listChainsUptoRow.holds Try.pinned (OpenSpec.upto listChainsSpec)

/-- 'allotmentlaw07.ListCounts', WHERE WHAT IT READS IS OF BULK AT MOST 1048576: true; the input reads as it did. -/
def listCountsUptoRow : OpenClaim := { program := "ythginpedlfocpaa", sum := "141540be70ce45845e1f2f23e86d0d6d9b7da792e9aeac4bd2ce2684596e29a9", func := "allotment/allotmentlaw07.ListCounts", spec := "listCounts", unfollowed := true, recurses := true, apart := false, narrowed := true }
def ListCountsUptoSaid : Prop := listCountsUptoRow.holds Try.pinned (OpenSpec.upto listCountsSpec)

/-- 'allotmentlaw07.ListJoins', WHERE WHAT IT READS IS OF BULK AT MOST 1048576: true; the input reads as it did. -/
def listJoinsUptoRow : OpenClaim := { program := "ythginpedlfocpaa", sum := "141540be70ce45845e1f2f23e86d0d6d9b7da792e9aeac4bd2ce2684596e29a9", func := "allotment/allotmentlaw07.ListJoins", spec := "listJoins", unfollowed := true, recurses := true, apart := false, narrowed := true }
def ListJoinsUptoSaid : Prop := listJoinsUptoRow.holds Try.pinned (OpenSpec.upto listJoinsSpec)

/-- 'allotmentlaw01.CalcSums', WHERE WHAT IT READS IS OF BULK AT MOST 1048576: true; the input reads as it did. -/
def calcSumsUptoRow : OpenClaim := { program := "ythginpedlfocpaa", sum := "141540be70ce45845e1f2f23e86d0d6d9b7da792e9aeac4bd2ce2684596e29a9", func := "allotment/allotmentlaw01.CalcSums", spec := "calcSums", inPlace := ["math/bits.Add64"], unfollowed := true, recurses := true, apart := false, narrowed := true }
def CalcSumsUptoSaid : Prop := calcSumsUptoRow.holds Try.pinned (OpenSpec.upto calcSumsSpec)

/-- 'allotmentlaw05.ClassTables', WHERE WHAT IT READS IS OF BULK AT MOST 1048576: true; the input reads as it did. -/
def classTablesUptoRow : OpenClaim := { program := "ythginpedlfocpaa", sum := "141540be70ce45845e1f2f23e86d0d6d9b7da792e9aeac4bd2ce2684596e29a9", func := "allotment/allotmentlaw05.ClassTables", spec := "classTables", apart := false, narrowed := true }
def ClassTablesUptoSaid : Prop := classTablesUptoRow.holds Try.pinned (OpenSpec.upto classTablesSpec)

/-- 'allotmentlaw07.ListActs', WHERE WHAT IT READS IS OF BULK AT MOST 1048576: true; the input reads as it did. -/
def listActsUptoRow : OpenClaim := { program := "ythginpedlfocpaa", sum := "141540be70ce45845e1f2f23e86d0d6d9b7da792e9aeac4bd2ce2684596e29a9", func := "allotment/allotmentlaw07.ListActs", spec := "listActs", unfollowed := true, recurses := true, apart := false, narrowed := true }
def ListActsUptoSaid : Prop := listActsUptoRow.holds Try.pinned (OpenSpec.upto listActsSpec)

/-- 'allotmentlaw07.ListUntouched', WHERE WHAT IT READS IS OF BULK AT MOST 1048576: true; the input reads as it did. -/
def listUntouchedUptoRow : OpenClaim := { program := "ythginpedlfocpaa", sum := "141540be70ce45845e1f2f23e86d0d6d9b7da792e9aeac4bd2ce2684596e29a9", func := "allotment/allotmentlaw07.ListUntouched", spec := "listUntouched", unfollowed := true, recurses := true, apart := false, narrowed := true }
def ListUntouchedUptoSaid : Prop := listUntouchedUptoRow.holds Try.pinned (OpenSpec.upto listUntouchedSpec)

/-- 'allotmentlaw09.PageOrders', WHERE WHAT IT READS IS OF BULK AT MOST 1048576: true; the input reads as it did. -/
def pageOrdersUptoRow : OpenClaim := { program := "ythginpedlfocpaa", sum := "141540be70ce45845e1f2f23e86d0d6d9b7da792e9aeac4bd2ce2684596e29a9", func := "allotment/allotmentlaw09.PageOrders", spec := "pageOrders", unfollowed := true, recurses := true, apart := false, narrowed := true }
def PageOrdersUptoSaid : Prop := pageOrdersUptoRow.holds Try.pinned (OpenSpec.upto pageOrdersSpec)

/-- 'allotmentlaw09.PageFills', WHERE WHAT IT READS IS OF BULK AT MOST 1048576: true; the input reads as it did. -/
def pageFillsUptoRow : OpenClaim := { program := "ythginpedlfocpaa", sum := "141540be70ce45845e1f2f23e86d0d6d9b7da792e9aeac4bd2ce2684596e29a9", func := "allotment/allotmentlaw09.PageFills", spec := "pageFills", unfollowed := true, recurses := true, apart := false, narrowed := true }
def PageFillsUptoSaid : Prop := pageFillsUptoRow.holds Try.pinned (OpenSpec.upto pageFillsSpec)

/-- 'allotmentlaw10.SegOwners', WHERE WHAT IT READS IS OF BULK AT MOST 1048576: true; the input reads as it did. -/
def segOwnersUptoRow : OpenClaim := { program := "ythginpedlfocpaa", sum := "141540be70ce45845e1f2f23e86d0d6d9b7da792e9aeac4bd2ce2684596e29a9", func := "allotment/allotmentlaw10.SegOwners", spec := "segOwners", unfollowed := true, recurses := true, apart := false, narrowed := true }
def SegOwnersUptoSaid : Prop := segOwnersUptoRow.holds Try.pinned (OpenSpec.upto segOwnersSpec)

/-- 'allotmentlaw10.SegFills', WHERE WHAT IT READS IS OF BULK AT MOST 1048576: true; the input reads as it did. -/
def segFillsUptoRow : OpenClaim := { program := "ythginpedlfocpaa", sum := "141540be70ce45845e1f2f23e86d0d6d9b7da792e9aeac4bd2ce2684596e29a9", func := "allotment/allotmentlaw10.SegFills", spec := "segFills", unfollowed := true, recurses := true, apart := false, narrowed := true }
def SegFillsUptoSaid : Prop := segFillsUptoRow.holds Try.pinned (OpenSpec.upto segFillsSpec)

/-- 'allotmentlaw15.LedgerApart', WHERE WHAT IT READS IS OF BULK AT MOST 1048576: true; the input reads as it did. -/
def ledgerApartUptoRow : OpenClaim := { program := "ythginpedlfocpaa", sum := "141540be70ce45845e1f2f23e86d0d6d9b7da792e9aeac4bd2ce2684596e29a9", func := "allotment/allotmentlaw15.LedgerApart", spec := "ledgerApart", inPlace := ["slices.overlaps[allotment/ledger.entry]"], unfollowed := true, recurses := true, apart := false, narrowed := true }
def LedgerApartUptoSaid : Prop := ledgerApartUptoRow.holds Try.pinned (OpenSpec.upto ledgerApartSpec)

/-- 'allotmentlaw15.LedgerSums', WHERE WHAT IT READS IS OF BULK AT MOST 1048576: true; the input reads as it did. -/
def ledgerSumsUptoRow : OpenClaim := { program := "ythginpedlfocpaa", sum := "141540be70ce45845e1f2f23e86d0d6d9b7da792e9aeac4bd2ce2684596e29a9", func := "allotment/allotmentlaw15.LedgerSums", spec := "ledgerSums", inPlace := ["slices.overlaps[allotment/ledger.entry]"], unfollowed := true, recurses := true, apart := false, narrowed := true }
def LedgerSumsUptoSaid : Prop := ledgerSumsUptoRow.holds Try.pinned (OpenSpec.upto ledgerSumsSpec)

/-- 'allotmentlaw15.LedgerOrders', WHERE WHAT IT READS IS OF BULK AT MOST 1048576: true; the input reads as it did. -/
def ledgerOrdersUptoRow : OpenClaim := { program := "ythginpedlfocpaa", sum := "141540be70ce45845e1f2f23e86d0d6d9b7da792e9aeac4bd2ce2684596e29a9", func := "allotment/allotmentlaw15.LedgerOrders", spec := "ledgerOrders", inPlace := ["slices.overlaps[allotment/ledger.entry]"], unfollowed := true, recurses := true, apart := false, narrowed := true }
def LedgerOrdersUptoSaid : Prop := ledgerOrdersUptoRow.holds Try.pinned (OpenSpec.upto ledgerOrdersSpec)

/-- 'allotmentlaw15.LedgerIn', WHERE WHAT IT READS IS OF BULK AT MOST 1048576: true; the input reads as it did. -/
def ledgerInUptoRow : OpenClaim := { program := "ythginpedlfocpaa", sum := "141540be70ce45845e1f2f23e86d0d6d9b7da792e9aeac4bd2ce2684596e29a9", func := "allotment/allotmentlaw15.LedgerIn", spec := "ledgerIn", inPlace := ["slices.overlaps[allotment/ledger.entry]"], unfollowed := true, recurses := true, apart := false, narrowed := true }
def LedgerInUptoSaid : Prop := ledgerInUptoRow.holds Try.pinned (OpenSpec.upto ledgerInSpec)

end Rows
end Go.Proofs.Ythginpedlfocpaa
