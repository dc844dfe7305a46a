/-
  No cell of these rows narrows 'for every input' (looked for: loops, veiled, ifaces, maps, wideKeys, modest, calm, conditions, laid).
  DERIVED. THE GIVEN ROWS OF THIS SEAT. 4 by the template 'for every input the law returns true; each argument reads behind the call as it read before'; 0 by the template 'total and deterministic' (their statements: YtgdahkddhecloaaTotals.lean).
  GIVEN WITH THE SEED: the statements are not yours to turn. If you find one false, say at which input.
  Laid BY PROGRAM, IN A SANDBOX (cutbox-rows.mjs): the forced cells as the released guide's own fill.sh prints them over the translation c2898477636ceab4… (all of the seat's roots in one cut). By AI agents, Wed Nov 11 2026. No macro, syntax, notation, axiom, sorry.
-/
import Derived.Test.YtgdahkddhecloaaChecked
import GoSem.Claim
import GoSem.ClaimJoined
import GoSem.ClaimMapViews
import Derived.JoinedTies
import Derived.KernelRfl
namespace Go.Proofs.Ytgdahkddhecloaa
/- THE CELL 'sum', in the pinned program and in every row, IS THE sha256 OF THE DUMP (.gsa) THAT YtgdahkddhecloaaProg.lean LOADS. Nothing in Lean hashes anything: it is a label: what it is worth is what the hold of that sum in a sandbox is worth. -/
noncomputable def Try.pinned : Pinned := { name := "ytgdahkddhecloaa", sum := "c2898477636ceab4f0dcb2113e0b52c0287c1a114c48031249dab17bd36f5a65", checked := Try.checked }
namespace Rows
def none {H : Type} : Left H := { results := [], args := [] }

/-- 'keyholelaw50.LedgerRecords': WHATEVER THE INPUT: true; the input reads as it did. -/
def ledgerRecordsSpec : ChangeSpec := { name := "ledgerRecords", fn := fun _ => fun
  | [d1, d2] => { results := [.lit (.bool true)], args := [d1, d2] }
  | _ => none }
def ledgerRecordsRow : OpenClaim := { program := "ytgdahkddhecloaa", sum := "c2898477636ceab4f0dcb2113e0b52c0287c1a114c48031249dab17bd36f5a65", func := "keyhole/keyholelaw50.LedgerRecords", spec := "ledgerRecords", unfollowed := true, recurses := true, apart := false }
def LedgerRecordsSaid : Prop := ledgerRecordsRow.holds Try.pinned (OpenSpec.ofChange ledgerRecordsSpec)

/-- ITS FALSE NEIGHBOUR: 'it returns false'. Refute it at one input. -/
def ledgerRecordsWrong : ChangeSpec := { name := "ledgerRecords", fn := fun _ => fun
  | [d1, d2] => { results := [.lit (.bool false)], args := [d1, d2] }
  | _ => none }
def LedgerRecordsWrongFalsely : Prop := ledgerRecordsRow.holds Try.pinned (OpenSpec.ofChange ledgerRecordsWrong)

/-- 'keyholelaw50.LedgerHeads': WHATEVER THE INPUT: true; the input reads as it did. -/
def ledgerHeadsSpec : ChangeSpec := { name := "ledgerHeads", fn := fun _ => fun
  | [d1, d2, d3] => { results := [.lit (.bool true)], args := [d1, d2, d3] }
  | _ => none }
def ledgerHeadsRow : OpenClaim := { program := "ytgdahkddhecloaa", sum := "c2898477636ceab4f0dcb2113e0b52c0287c1a114c48031249dab17bd36f5a65", func := "keyhole/keyholelaw50.LedgerHeads", spec := "ledgerHeads", unfollowed := true, recurses := true, apart := false }
def LedgerHeadsSaid : Prop := ledgerHeadsRow.holds Try.pinned (OpenSpec.ofChange ledgerHeadsSpec)

/-- ITS FALSE NEIGHBOUR: 'it returns false'. Refute it at one input. -/
def ledgerHeadsWrong : ChangeSpec := { name := "ledgerHeads", fn := fun _ => fun
  | [d1, d2, d3] => { results := [.lit (.bool false)], args := [d1, d2, d3] }
  | _ => none }
def LedgerHeadsWrongFalsely : Prop := ledgerHeadsRow.holds Try.pinned (OpenSpec.ofChange ledgerHeadsWrong)

/-- 'keyholelaw50.LedgerSurvives': WHATEVER THE INPUT: true; the input reads as it did. -/
def ledgerSurvivesSpec : ChangeSpec := { name := "ledgerSurvives", fn := fun _ => fun
  | [d] => { results := [.lit (.bool true)], args := [d] }
  | _ => none }
def ledgerSurvivesRow : OpenClaim := { program := "ytgdahkddhecloaa", sum := "c2898477636ceab4f0dcb2113e0b52c0287c1a114c48031249dab17bd36f5a65", func := "keyhole/keyholelaw50.LedgerSurvives", spec := "ledgerSurvives", unfollowed := true, recurses := true, apart := false }
def LedgerSurvivesSaid : Prop := ledgerSurvivesRow.holds Try.pinned (OpenSpec.ofChange ledgerSurvivesSpec)

/-- ITS FALSE NEIGHBOUR: 'it returns false'. Refute it at one input. -/
def ledgerSurvivesWrong : ChangeSpec := { name := "ledgerSurvives", fn := fun _ => fun
  | [d] => { results := [.lit (.bool false)], args := [d] }
  | _ => none }
def LedgerSurvivesWrongFalsely : Prop := ledgerSurvivesRow.holds Try.pinned (OpenSpec.ofChange ledgerSurvivesWrong)

/-- 'keyholelaw50.LedgerBlind': WHATEVER THE INPUT: true; the input reads as it did. -/
def ledgerBlindSpec : ChangeSpec := { name := "ledgerBlind", fn := fun _ => fun
  | [d1, d2] => { results := [.lit (.bool true)], args := [d1, d2] }
  | _ => none }
def ledgerBlindRow : OpenClaim := { program := "ytgdahkddhecloaa", sum := "c2898477636ceab4f0dcb2113e0b52c0287c1a114c48031249dab17bd36f5a65", func := "keyhole/keyholelaw50.LedgerBlind", spec := "ledgerBlind", unfollowed := true, recurses := true, apart := false }
def LedgerBlindSaid : Prop := ledgerBlindRow.holds Try.pinned (OpenSpec.ofChange ledgerBlindSpec)

/-- ITS FALSE NEIGHBOUR: 'it returns false'. Refute it at one input. -/
def ledgerBlindWrong : ChangeSpec := { name := "ledgerBlind", fn := fun _ => fun
  | [d1, d2] => { results := [.lit (.bool false)], args := [d1, d2] }
  | _ => none }
def LedgerBlindWrongFalsely : Prop := ledgerBlindRow.holds Try.pinned (OpenSpec.ofChange ledgerBlindWrong)

/- THE SECOND FORM. 'bulk': how many values and letters a reading holds, each counted each time it is reached (what is shared counts as often as it is met; a slice's spare places count too). A statement '..UptoSaid' is the law's where the arguments, and the package variables that the reading takes, are together of bulk at most 1048576: NARROWER than '..Said'. Prove '..Said' where nothing that the law and all that it calls make is longer than what came in: it says more and counts as full. Else prove '..UptoSaid'. A law counts once. -/
mutual
def uptoBulk {H : Type} : DataW H → Nat
  | .lit (.string bytes) => bytes.length + 1
  | .lit _ => 1
  | .nil => 1
  | .ptr d => uptoBulk d + 1
  | .slice elems spare => uptoBulkAll elems + uptoBulkAll spare + 1
  | .agg parts => uptoBulkAll parts + 1
  | .iface _ d => uptoBulk d + 1
  | .map entries => uptoBulkEntries entries + 1
  | .held _ => 1
def uptoBulkAll {H : Type} : List (DataW H) → Nat
  | [] => 0
  | d :: r => uptoBulk d + uptoBulkAll r
def uptoBulkEntries {H : Type} : List (Lit × DataW H) → Nat
  | [] => 0
  | x :: r => uptoBulkEntry x + uptoBulkEntries r
def uptoBulkEntry {H : Type} : Lit × DataW H → Nat
  | (.string bytes, d) => bytes.length + uptoBulk d + 1
  | (_, d) => uptoBulk d + 1
 end
def uptoSmall : (H : Type) → List (DataW H) → Bool := fun _ ds => decide (uptoBulkAll ds ≤ 1048576)
def OpenSpec.upto (s : _root_.Go.ChangeSpec) : _root_.Go.OpenSpec := { _root_.Go.OpenSpec.ofChange s with cond := some uptoSmall }

/-- 'keyholelaw50.LedgerRecords', WHERE WHAT IT READS IS OF BULK AT MOST 1048576: true; the input reads as it did. -/
def ledgerRecordsUptoRow : OpenClaim := { program := "ytgdahkddhecloaa", sum := "c2898477636ceab4f0dcb2113e0b52c0287c1a114c48031249dab17bd36f5a65", func := "keyhole/keyholelaw50.LedgerRecords", spec := "ledgerRecords", unfollowed := true, recurses := true, apart := false, narrowed := true }
def LedgerRecordsUptoSaid : Prop := ledgerRecordsUptoRow.holds Try.pinned (OpenSpec.upto ledgerRecordsSpec)

/-- 'keyholelaw50.LedgerHeads', WHERE WHAT IT READS IS OF BULK AT MOST 1048576: true; the input reads as it did. -/
def ledgerHeadsUptoRow : OpenClaim := { program := "ytgdahkddhecloaa", sum := "c2898477636ceab4f0dcb2113e0b52c0287c1a114c48031249dab17bd36f5a65", func := "keyhole/keyholelaw50.LedgerHeads", spec := "ledgerHeads", unfollowed := true, recurses := true, apart := false, narrowed := true }
def LedgerHeadsUptoSaid : Prop := ledgerHeadsUptoRow.holds Try.pinned (OpenSpec.upto ledgerHeadsSpec)

/-- 'keyholelaw50.LedgerSurvives', WHERE WHAT IT READS IS OF BULK AT MOST 1048576: true; the input reads as it did. -/
def ledgerSurvivesUptoRow : OpenClaim := { program := "ytgdahkddhecloaa", sum := "c2898477636ceab4f0dcb2113e0b52c0287c1a114c48031249dab17bd36f5a65", func := "keyhole/keyholelaw50.LedgerSurvives", spec := "ledgerSurvives", unfollowed := true, recurses := true, apart := false, narrowed := true }
def LedgerSurvivesUptoSaid : Prop := ledgerSurvivesUptoRow.holds Try.pinned (OpenSpec.upto ledgerSurvivesSpec)

/-- 'keyholelaw50.LedgerBlind', WHERE WHAT IT READS IS OF BULK AT MOST 1048576: true; the input reads as it did. -/
def ledgerBlindUptoRow : OpenClaim := { program := "ytgdahkddhecloaa", sum := "c2898477636ceab4f0dcb2113e0b52c0287c1a114c48031249dab17bd36f5a65", func := "keyhole/keyholelaw50.LedgerBlind", spec := "ledgerBlind", unfollowed := true, recurses := true, apart := false, narrowed := true }
def LedgerBlindUptoSaid : Prop := ledgerBlindUptoRow.holds Try.pinned (OpenSpec.upto ledgerBlindSpec)

end Rows
end Go.Proofs.Ytgdahkddhecloaa
