/-
  No cell of these rows narrows 'for every input' (looked for: loops, veiled, ifaces, maps, wideKeys, modest, calm, conditions, laid).
  DERIVED. THE GIVEN ROWS OF THIS SEAT. 9 by the template 'for every input the law returns true; each argument reads behind the call as it read before'; 0 by the template 'total and deterministic' (their statements: YtodeffidnipelaaTotals.lean).
  GIVEN WITH THE SEED: the statements are not yours to turn. If you find one false, say at which input.
  Laid BY PROGRAM, IN A SANDBOX (cutbox-rows.mjs): the forced cells as the released guide's own fill.sh prints them over the translation 34ff9e701f6e429e… (all of the seat's roots in one cut). By AI agents, Wed Nov 11 2026. No macro, syntax, notation, axiom, sorry.
-/
import Derived.Test.YtodeffidnipelaaChecked
import GoSem.Claim
import GoSem.ClaimJoined
import GoSem.ClaimMapViews
import Derived.JoinedTies
import Derived.KernelRfl
namespace Go.Proofs.Ytodeffidnipelaa
/- THE CELL 'sum', in the pinned program and in every row, IS THE sha256 OF THE DUMP (.gsa) THAT YtodeffidnipelaaProg.lean LOADS. Nothing in Lean hashes anything: it is a label: what it is worth is what the hold of that sum in a sandbox is worth. -/
noncomputable def Try.pinned : Pinned := { name := "ytodeffidnipelaa", sum := "34ff9e701f6e429ec6386260c0d0c2d1313567f2ffc634f033585d7cb7c31d11", checked := Try.checked }
namespace Rows
def none {H : Type} : Left H := { results := [], args := [] }

/-- 'keyholelaw41.ComposeCascades': WHATEVER THE INPUT: true; the input reads as it did. -/
def composeCascadesSpec : ChangeSpec := { name := "composeCascades", fn := fun _ => fun
  | [d1, d2] => { results := [.lit (.bool true)], args := [d1, d2] }
  | _ => none }
def composeCascadesRow : OpenClaim := { program := "ytodeffidnipelaa", sum := "34ff9e701f6e429ec6386260c0d0c2d1313567f2ffc634f033585d7cb7c31d11", func := "keyhole/keyholelaw41.ComposeCascades", spec := "composeCascades", unfollowed := true, recurses := true, apart := false }
def ComposeCascadesSaid : Prop := composeCascadesRow.holds Try.pinned (OpenSpec.ofChange composeCascadesSpec)

/-- ITS FALSE NEIGHBOUR: 'it returns false'. Refute it at one input. -/
def composeCascadesWrong : ChangeSpec := { name := "composeCascades", fn := fun _ => fun
  | [d1, d2] => { results := [.lit (.bool false)], args := [d1, d2] }
  | _ => none }
def ComposeCascadesWrongFalsely : Prop := composeCascadesRow.holds Try.pinned (OpenSpec.ofChange composeCascadesWrong)

/-- 'keyholelaw41.ComposeParallels': WHATEVER THE INPUT: true; the input reads as it did. -/
def composeParallelsSpec : ChangeSpec := { name := "composeParallels", fn := fun _ => fun
  | [d1, d2] => { results := [.lit (.bool true)], args := [d1, d2] }
  | _ => none }
def composeParallelsRow : OpenClaim := { program := "ytodeffidnipelaa", sum := "34ff9e701f6e429ec6386260c0d0c2d1313567f2ffc634f033585d7cb7c31d11", func := "keyhole/keyholelaw41.ComposeParallels", spec := "composeParallels", unfollowed := true, recurses := true, apart := false }
def ComposeParallelsSaid : Prop := composeParallelsRow.holds Try.pinned (OpenSpec.ofChange composeParallelsSpec)

/-- ITS FALSE NEIGHBOUR: 'it returns false'. Refute it at one input. -/
def composeParallelsWrong : ChangeSpec := { name := "composeParallels", fn := fun _ => fun
  | [d1, d2] => { results := [.lit (.bool false)], args := [d1, d2] }
  | _ => none }
def ComposeParallelsWrongFalsely : Prop := composeParallelsRow.holds Try.pinned (OpenSpec.ofChange composeParallelsWrong)

/-- 'keyholelaw41.ComposeLimits': WHATEVER THE INPUT: true; the input reads as it did. -/
def composeLimitsSpec : ChangeSpec := { name := "composeLimits", fn := fun _ => fun
  | [d1, d2] => { results := [.lit (.bool true)], args := [d1, d2] }
  | _ => none }
def composeLimitsRow : OpenClaim := { program := "ytodeffidnipelaa", sum := "34ff9e701f6e429ec6386260c0d0c2d1313567f2ffc634f033585d7cb7c31d11", func := "keyhole/keyholelaw41.ComposeLimits", spec := "composeLimits", unfollowed := true, recurses := true, apart := false }
def ComposeLimitsSaid : Prop := composeLimitsRow.holds Try.pinned (OpenSpec.ofChange composeLimitsSpec)

/-- ITS FALSE NEIGHBOUR: 'it returns false'. Refute it at one input. -/
def composeLimitsWrong : ChangeSpec := { name := "composeLimits", fn := fun _ => fun
  | [d1, d2] => { results := [.lit (.bool false)], args := [d1, d2] }
  | _ => none }
def ComposeLimitsWrongFalsely : Prop := composeLimitsRow.holds Try.pinned (OpenSpec.ofChange composeLimitsWrong)

/-- 'keyholelaw41.ComposeLaws': WHATEVER THE INPUT: true; the input reads as it did. -/
def composeLawsSpec : ChangeSpec := { name := "composeLaws", fn := fun _ => fun
  | [d1, d2, d3] => { results := [.lit (.bool true)], args := [d1, d2, d3] }
  | _ => none }
def composeLawsRow : OpenClaim := { program := "ytodeffidnipelaa", sum := "34ff9e701f6e429ec6386260c0d0c2d1313567f2ffc634f033585d7cb7c31d11", func := "keyhole/keyholelaw41.ComposeLaws", spec := "composeLaws", unfollowed := true, recurses := true, apart := false }
def ComposeLawsSaid : Prop := composeLawsRow.holds Try.pinned (OpenSpec.ofChange composeLawsSpec)

/-- ITS FALSE NEIGHBOUR: 'it returns false'. Refute it at one input. -/
def composeLawsWrong : ChangeSpec := { name := "composeLaws", fn := fun _ => fun
  | [d1, d2, d3] => { results := [.lit (.bool false)], args := [d1, d2, d3] }
  | _ => none }
def ComposeLawsWrongFalsely : Prop := composeLawsRow.holds Try.pinned (OpenSpec.ofChange composeLawsWrong)

/-- 'keyholelaw41.ComposeRepeats': WHATEVER THE INPUT: true; the input reads as it did. -/
def composeRepeatsSpec : ChangeSpec := { name := "composeRepeats", fn := fun _ => fun
  | [d1, d2] => { results := [.lit (.bool true)], args := [d1, d2] }
  | _ => none }
def composeRepeatsRow : OpenClaim := { program := "ytodeffidnipelaa", sum := "34ff9e701f6e429ec6386260c0d0c2d1313567f2ffc634f033585d7cb7c31d11", func := "keyhole/keyholelaw41.ComposeRepeats", spec := "composeRepeats", unfollowed := true, recurses := true, apart := false }
def ComposeRepeatsSaid : Prop := composeRepeatsRow.holds Try.pinned (OpenSpec.ofChange composeRepeatsSpec)

/-- ITS FALSE NEIGHBOUR: 'it returns false'. Refute it at one input. -/
def composeRepeatsWrong : ChangeSpec := { name := "composeRepeats", fn := fun _ => fun
  | [d1, d2] => { results := [.lit (.bool false)], args := [d1, d2] }
  | _ => none }
def ComposeRepeatsWrongFalsely : Prop := composeRepeatsRow.holds Try.pinned (OpenSpec.ofChange composeRepeatsWrong)

/-- 'keyholelaw41.ComposeHidden': WHATEVER THE INPUT: true; the input reads as it did. -/
def composeHiddenSpec : ChangeSpec := { name := "composeHidden", fn := fun _ => fun
  | [d1, d2, d3] => { results := [.lit (.bool true)], args := [d1, d2, d3] }
  | _ => none }
def composeHiddenRow : OpenClaim := { program := "ytodeffidnipelaa", sum := "34ff9e701f6e429ec6386260c0d0c2d1313567f2ffc634f033585d7cb7c31d11", func := "keyhole/keyholelaw41.ComposeHidden", spec := "composeHidden", unfollowed := true, recurses := true, apart := false }
def ComposeHiddenSaid : Prop := composeHiddenRow.holds Try.pinned (OpenSpec.ofChange composeHiddenSpec)

/-- ITS FALSE NEIGHBOUR: 'it returns false'. Refute it at one input. -/
def composeHiddenWrong : ChangeSpec := { name := "composeHidden", fn := fun _ => fun
  | [d1, d2, d3] => { results := [.lit (.bool false)], args := [d1, d2, d3] }
  | _ => none }
def ComposeHiddenWrongFalsely : Prop := composeHiddenRow.holds Try.pinned (OpenSpec.ofChange composeHiddenWrong)

/-- 'keyholelaw41.ComposeMerges': WHATEVER THE INPUT: true; the input reads as it did. -/
def composeMergesSpec : ChangeSpec := { name := "composeMerges", fn := fun _ => fun
  | [d1, d2] => { results := [.lit (.bool true)], args := [d1, d2] }
  | _ => none }
def composeMergesRow : OpenClaim := { program := "ytodeffidnipelaa", sum := "34ff9e701f6e429ec6386260c0d0c2d1313567f2ffc634f033585d7cb7c31d11", func := "keyhole/keyholelaw41.ComposeMerges", spec := "composeMerges", unfollowed := true, recurses := true, apart := false }
def ComposeMergesSaid : Prop := composeMergesRow.holds Try.pinned (OpenSpec.ofChange composeMergesSpec)

/-- ITS FALSE NEIGHBOUR: 'it returns false'. Refute it at one input. -/
def composeMergesWrong : ChangeSpec := { name := "composeMerges", fn := fun _ => fun
  | [d1, d2] => { results := [.lit (.bool false)], args := [d1, d2] }
  | _ => none }
def ComposeMergesWrongFalsely : Prop := composeMergesRow.holds Try.pinned (OpenSpec.ofChange composeMergesWrong)

/-- 'keyholelaw41.ComposeVisible': WHATEVER THE INPUT: true; the input reads as it did. -/
def composeVisibleSpec : ChangeSpec := { name := "composeVisible", fn := fun _ => fun
  | [d1, d2, d3] => { results := [.lit (.bool true)], args := [d1, d2, d3] }
  | _ => none }
def composeVisibleRow : OpenClaim := { program := "ytodeffidnipelaa", sum := "34ff9e701f6e429ec6386260c0d0c2d1313567f2ffc634f033585d7cb7c31d11", func := "keyhole/keyholelaw41.ComposeVisible", spec := "composeVisible", unfollowed := true, recurses := true, apart := false }
def ComposeVisibleSaid : Prop := composeVisibleRow.holds Try.pinned (OpenSpec.ofChange composeVisibleSpec)

/-- ITS FALSE NEIGHBOUR: 'it returns false'. Refute it at one input. -/
def composeVisibleWrong : ChangeSpec := { name := "composeVisible", fn := fun _ => fun
  | [d1, d2, d3] => { results := [.lit (.bool false)], args := [d1, d2, d3] }
  | _ => none }
def ComposeVisibleWrongFalsely : Prop := composeVisibleRow.holds Try.pinned (OpenSpec.ofChange composeVisibleWrong)

/-- 'keyholelaw41.ComposeRepetition': WHATEVER THE INPUT: true; the input reads as it did. -/
def composeRepetitionSpec : ChangeSpec := { name := "composeRepetition", fn := fun _ => fun
  | [d1, d2] => { results := [.lit (.bool true)], args := [d1, d2] }
  | _ => none }
def composeRepetitionRow : OpenClaim := { program := "ytodeffidnipelaa", sum := "34ff9e701f6e429ec6386260c0d0c2d1313567f2ffc634f033585d7cb7c31d11", func := "keyhole/keyholelaw41.ComposeRepetition", spec := "composeRepetition", unfollowed := true, recurses := true, apart := false }
def ComposeRepetitionSaid : Prop := composeRepetitionRow.holds Try.pinned (OpenSpec.ofChange composeRepetitionSpec)

/-- ITS FALSE NEIGHBOUR: 'it returns false'. Refute it at one input. -/
def composeRepetitionWrong : ChangeSpec := { name := "composeRepetition", fn := fun _ => fun
  | [d1, d2] => { results := [.lit (.bool false)], args := [d1, d2] }
  | _ => none }
def ComposeRepetitionWrongFalsely : Prop := composeRepetitionRow.holds Try.pinned (OpenSpec.ofChange composeRepetitionWrong)

/- THE SECOND FORM. 'bulk': how many values and letters a reading holds, each counted each time it is reached (what is shared counts as often as it is met; a slice's spare places count too). A statement '..UptoSaid' is the law's where the arguments, and the package variables that the reading takes, are together of bulk at most 1048576: NARROWER than '..Said'. Prove '..Said' where nothing that the law and all that it calls make is longer than what came in: it says more and counts as full. Else prove '..UptoSaid'. A law counts once. -/
mutual
def uptoBulk {H : Type} : DataW H → Nat
  | .lit (.string bytes) => bytes.length + 1
  | .lit _ => 1
  | .nil => 1
  | .ptr d => uptoBulk d + 1
  | .slice elems spare => uptoBulkAll elems + uptoBulkAll spare + 1
  | .agg parts => uptoBulkAll parts + 1
  | .iface _ d => uptoBulk d + 1
  | .map entries => uptoBulkEntries entries + 1
  | .held _ => 1
def uptoBulkAll {H : Type} : List (DataW H) → Nat
  | [] => 0
  | d :: r => uptoBulk d + uptoBulkAll r
def uptoBulkEntries {H : Type} : List (Lit × DataW H) → Nat
  | [] => 0
  | x :: r => uptoBulkEntry x + uptoBulkEntries r
def uptoBulkEntry {H : Type} : Lit × DataW H → Nat
  | (.string bytes, d) => bytes.length + uptoBulk d + 1
  | (_, d) => uptoBulk d + 1
 end
def uptoSmall : (H : Type) → List (DataW H) → Bool := fun _ ds => decide (uptoBulkAll ds ≤ 1048576)
def OpenSpec.upto (s : _root_.Go.ChangeSpec) : _root_.Go.OpenSpec := { _root_.Go.OpenSpec.ofChange s with cond := some uptoSmall }

/-- 'keyholelaw41.ComposeCascades', WHERE WHAT IT READS IS OF BULK AT MOST 1048576: true; the input reads as it did. -/
def composeCascadesUptoRow : OpenClaim := { program := "ytodeffidnipelaa", sum := "34ff9e701f6e429ec6386260c0d0c2d1313567f2ffc634f033585d7cb7c31d11", func := "keyhole/keyholelaw41.ComposeCascades", spec := "composeCascades", unfollowed := true, recurses := true, apart := false, narrowed := true }
def ComposeCascadesUptoSaid : Prop := composeCascadesUptoRow.holds Try.pinned (OpenSpec.upto composeCascadesSpec)

/-- 'keyholelaw41.ComposeParallels', WHERE WHAT IT READS IS OF BULK AT MOST 1048576: true; the input reads as it did. -/
def composeParallelsUptoRow : OpenClaim := { program := "ytodeffidnipelaa", sum := "34ff9e701f6e429ec6386260c0d0c2d1313567f2ffc634f033585d7cb7c31d11", func := "keyhole/keyholelaw41.ComposeParallels", spec := "composeParallels", unfollowed := true, recurses := true, apart := false, narrowed := true }
def ComposeParallelsUptoSaid : Prop := composeParallelsUptoRow.holds Try.pinned (OpenSpec.upto composeParallelsSpec)

/-- 'keyholelaw41.ComposeLimits', WHERE WHAT IT READS IS OF BULK AT MOST 1048576: true; the input reads as it did. -/
def composeLimitsUptoRow : OpenClaim := { program := "ytodeffidnipelaa", sum := "34ff9e701f6e429ec6386260c0d0c2d1313567f2ffc634f033585d7cb7c31d11", func := "keyhole/keyholelaw41.ComposeLimits", spec := "composeLimits", unfollowed := true, recurses := true, apart := false, narrowed := true }
def ComposeLimitsUptoSaid : Prop := composeLimitsUptoRow.holds Try.pinned (OpenSpec.upto composeLimitsSpec)

/-- 'keyholelaw41.ComposeLaws', WHERE WHAT IT READS IS OF BULK AT MOST 1048576: true; the input reads as it did. -/
def composeLawsUptoRow : OpenClaim := { program := "ytodeffidnipelaa", sum := "34ff9e701f6e429ec6386260c0d0c2d1313567f2ffc634f033585d7cb7c31d11", func := "keyhole/keyholelaw41.ComposeLaws", spec := "composeLaws", unfollowed := true, recurses := true, apart := false, narrowed := true }
def ComposeLawsUptoSaid : Prop := composeLawsUptoRow.holds Try.pinned (OpenSpec.upto composeLawsSpec)

/-- 'keyholelaw41.ComposeRepeats', WHERE WHAT IT READS IS OF BULK AT MOST 1048576: true; the input reads as it did. -/
def composeRepeatsUptoRow : OpenClaim := { program := "ytodeffidnipelaa", sum := "34ff9e701f6e429ec6386260c0d0c2d1313567f2ffc634f033585d7cb7c31d11", func := "keyhole/keyholelaw41.ComposeRepeats", spec := "composeRepeats", unfollowed := true, recurses := true, apart := false, narrowed := true }
def ComposeRepeatsUptoSaid : Prop := composeRepeatsUptoRow.holds Try.pinned (OpenSpec.upto composeRepeatsSpec)

/-- 'keyholelaw41.ComposeHidden', WHERE WHAT IT READS IS OF BULK AT MOST 1048576: true; the input reads as it did. -/
def composeHiddenUptoRow : OpenClaim := { program := "ytodeffidnipelaa", sum := "34ff9e701f6e429ec6386260c0d0c2d1313567f2ffc634f033585d7cb7c31d11", func := "keyhole/keyholelaw41.ComposeHidden", spec := "composeHidden", unfollowed := true, recurses := true, apart := false, narrowed := true }
def ComposeHiddenUptoSaid : Prop := composeHiddenUptoRow.holds Try.pinned (OpenSpec.upto composeHiddenSpec)

/-- 'keyholelaw41.ComposeMerges', WHERE WHAT IT READS IS OF BULK AT MOST 1048576: true; the input reads as it did. -/
def composeMergesUptoRow : OpenClaim := { program := "ytodeffidnipelaa", sum := "34ff9e701f6e429ec6386260c0d0c2d1313567f2ffc634f033585d7cb7c31d11", func := "keyhole/keyholelaw41.ComposeMerges", spec := "composeMerges", unfollowed := true, recurses := true, apart := false, narrowed := true }
def ComposeMergesUptoSaid : Prop := composeMergesUptoRow.holds Try.pinned (OpenSpec.upto composeMergesSpec)

/-- 'keyholelaw41.ComposeVisible', WHERE WHAT IT READS IS OF BULK AT MOST 1048576: true; the input reads as it did. -/
def composeVisibleUptoRow : OpenClaim := { program := "ytodeffidnipelaa", sum := "34ff9e701f6e429ec6386260c0d0c2d1313567f2ffc634f033585d7cb7c31d11", func := "keyhole/keyholelaw41.ComposeVisible", spec := "composeVisible", unfollowed := true, recurses := true, apart := false, narrowed := true }
def ComposeVisibleUptoSaid : Prop := composeVisibleUptoRow.holds Try.pinned (OpenSpec.upto composeVisibleSpec)

/-- 'keyholelaw41.ComposeRepetition', WHERE WHAT IT READS IS OF BULK AT MOST 1048576: true; the input reads as it did. -/
def composeRepetitionUptoRow : OpenClaim := { program := "ytodeffidnipelaa", sum := "34ff9e701f6e429ec6386260c0d0c2d1313567f2ffc634f033585d7cb7c31d11", func := "keyhole/keyholelaw41.ComposeRepetition", spec := "composeRepetition", unfollowed := true, recurses := true, apart := false, narrowed := true }
def ComposeRepetitionUptoSaid : Prop := composeRepetitionUptoRow.holds Try.pinned (OpenSpec.upto composeRepetitionSpec)

end Rows
end Go.Proofs.Ytodeffidnipelaa
