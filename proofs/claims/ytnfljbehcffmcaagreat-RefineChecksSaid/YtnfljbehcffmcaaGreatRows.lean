/-
  NARROWER THAN 'FOR EVERY INPUT', by the rows' own cells (each row's printed sentence says how): AbstractRuns: loops · AbstractSound: loops · AbstractExact: loops · AbstractBounds: loops · AbstractCovers: loops · RefineRefuses: loops · RefineFinds: loops · RefineStarts: loops · RefineChecks: loops · RefineSplits: loops · RefineSteps: loops · RefineMonotone: loops · RefineExact: loops · RefineBounds: loops · RefineReaches: loops.
  DERIVED. THE GIVEN ROWS OF THIS SEAT. 15 by the template 'for every input the law returns true; each argument reads behind the call as it read before'; 0 by the template 'total and deterministic' (their statements: YtnfljbehcffmcaaGreatTotals.lean).
  GIVEN WITH THE SEED: the statements are not yours to turn. If you find one false, say at which input.
  Laid BY PROGRAM, IN A SANDBOX (cutbox-rows.mjs): the forced cells as the released guide's own fill.sh prints them over the translation 0468e7e8472976c5… (all of the seat's roots in one cut). By AI agents, Wed Nov 11 2026. No macro, syntax, notation, axiom, sorry.
-/
import Derived.Test.YtnfljbehcffmcaaGreatChecked
import GoSem.Claim
import GoSem.ClaimJoined
import GoSem.ClaimMapViews
import Derived.JoinedTies
import Derived.KernelRfl
namespace Go.Proofs.YtnfljbehcffmcaaGreat
/- THE CELL 'sum', in the pinned program and in every row, IS THE sha256 OF THE DUMP (.gsa) THAT YtnfljbehcffmcaaGreatProg.lean LOADS. Nothing in Lean hashes anything: it is a label: what it is worth is what the hold of that sum in a sandbox is worth. -/
noncomputable def Tryz.pinned : Pinned := { name := "ytnfljbehcffmcaagreat", sum := "0468e7e8472976c5d5f6e7b9344e30a5a599fca2b765f5759ef84319390cafc2", checked := Tryz.checked }
namespace Rows
def none {H : Type} : Left H := { results := [], args := [] }

/-- 'keyholelaw36.AbstractRuns': WHATEVER THE INPUT: true; the input reads as it did. -/
def abstractRunsSpec : ChangeSpec := { name := "abstractRuns", fn := fun _ => fun
  | [d1, d2, d3] => { results := [.lit (.bool true)], args := [d1, d2, d3] }
  | _ => none }
def abstractRunsRow : OpenClaim := { program := "ytnfljbehcffmcaagreat", sum := "0468e7e8472976c5d5f6e7b9344e30a5a599fca2b765f5759ef84319390cafc2", func := "keyhole/keyholelaw36.AbstractRuns", spec := "abstractRuns", unfollowed := true, recurses := true, named := ["math/bits.divideError", "math/bits.overflowError"], loops := true, apart := false }
def AbstractRunsSaid : Prop := abstractRunsRow.holds Tryz.pinned (OpenSpec.ofChange abstractRunsSpec)

/-- ITS FALSE NEIGHBOUR: 'it returns false'. Refute it at one input. -/
def abstractRunsWrong : ChangeSpec := { name := "abstractRuns", fn := fun _ => fun
  | [d1, d2, d3] => { results := [.lit (.bool false)], args := [d1, d2, d3] }
  | _ => none }
def AbstractRunsWrongFalsely : Prop := abstractRunsRow.holds Tryz.pinned (OpenSpec.ofChange abstractRunsWrong)

/-- 'keyholelaw36.AbstractSound': WHATEVER THE INPUT: true; the input reads as it did. -/
def abstractSoundSpec : ChangeSpec := { name := "abstractSound", fn := fun _ => fun
  | [d1, d2, d3] => { results := [.lit (.bool true)], args := [d1, d2, d3] }
  | _ => none }
def abstractSoundRow : OpenClaim := { program := "ytnfljbehcffmcaagreat", sum := "0468e7e8472976c5d5f6e7b9344e30a5a599fca2b765f5759ef84319390cafc2", func := "keyhole/keyholelaw36.AbstractSound", spec := "abstractSound", unfollowed := true, recurses := true, named := ["math/bits.divideError", "math/bits.overflowError"], loops := true, apart := false }
def AbstractSoundSaid : Prop := abstractSoundRow.holds Tryz.pinned (OpenSpec.ofChange abstractSoundSpec)

/-- ITS FALSE NEIGHBOUR: 'it returns false'. Refute it at one input. -/
def abstractSoundWrong : ChangeSpec := { name := "abstractSound", fn := fun _ => fun
  | [d1, d2, d3] => { results := [.lit (.bool false)], args := [d1, d2, d3] }
  | _ => none }
def AbstractSoundWrongFalsely : Prop := abstractSoundRow.holds Tryz.pinned (OpenSpec.ofChange abstractSoundWrong)

/-- 'keyholelaw36.AbstractExact': WHATEVER THE INPUT: true; the input reads as it did. -/
def abstractExactSpec : ChangeSpec := { name := "abstractExact", fn := fun _ => fun
  | [d1, d2, d3] => { results := [.lit (.bool true)], args := [d1, d2, d3] }
  | _ => none }
def abstractExactRow : OpenClaim := { program := "ytnfljbehcffmcaagreat", sum := "0468e7e8472976c5d5f6e7b9344e30a5a599fca2b765f5759ef84319390cafc2", func := "keyhole/keyholelaw36.AbstractExact", spec := "abstractExact", unfollowed := true, recurses := true, named := ["math/bits.divideError", "math/bits.overflowError"], loops := true, apart := false }
def AbstractExactSaid : Prop := abstractExactRow.holds Tryz.pinned (OpenSpec.ofChange abstractExactSpec)

/-- ITS FALSE NEIGHBOUR: 'it returns false'. Refute it at one input. -/
def abstractExactWrong : ChangeSpec := { name := "abstractExact", fn := fun _ => fun
  | [d1, d2, d3] => { results := [.lit (.bool false)], args := [d1, d2, d3] }
  | _ => none }
def AbstractExactWrongFalsely : Prop := abstractExactRow.holds Tryz.pinned (OpenSpec.ofChange abstractExactWrong)

/-- 'keyholelaw36.AbstractBounds': WHATEVER THE INPUT: true; the input reads as it did. -/
def abstractBoundsSpec : ChangeSpec := { name := "abstractBounds", fn := fun _ => fun
  | [d1, d2, d3] => { results := [.lit (.bool true)], args := [d1, d2, d3] }
  | _ => none }
def abstractBoundsRow : OpenClaim := { program := "ytnfljbehcffmcaagreat", sum := "0468e7e8472976c5d5f6e7b9344e30a5a599fca2b765f5759ef84319390cafc2", func := "keyhole/keyholelaw36.AbstractBounds", spec := "abstractBounds", unfollowed := true, recurses := true, named := ["math/bits.divideError", "math/bits.overflowError"], loops := true, apart := false }
def AbstractBoundsSaid : Prop := abstractBoundsRow.holds Tryz.pinned (OpenSpec.ofChange abstractBoundsSpec)

/-- ITS FALSE NEIGHBOUR: 'it returns false'. Refute it at one input. -/
def abstractBoundsWrong : ChangeSpec := { name := "abstractBounds", fn := fun _ => fun
  | [d1, d2, d3] => { results := [.lit (.bool false)], args := [d1, d2, d3] }
  | _ => none }
def AbstractBoundsWrongFalsely : Prop := abstractBoundsRow.holds Tryz.pinned (OpenSpec.ofChange abstractBoundsWrong)

/-- 'keyholelaw36.AbstractCovers': WHATEVER THE INPUT: true; the input reads as it did. -/
def abstractCoversSpec : ChangeSpec := { name := "abstractCovers", fn := fun _ => fun
  | [d1, d2, d3] => { results := [.lit (.bool true)], args := [d1, d2, d3] }
  | _ => none }
def abstractCoversRow : OpenClaim := { program := "ytnfljbehcffmcaagreat", sum := "0468e7e8472976c5d5f6e7b9344e30a5a599fca2b765f5759ef84319390cafc2", func := "keyhole/keyholelaw36.AbstractCovers", spec := "abstractCovers", unfollowed := true, recurses := true, named := ["math/bits.divideError", "math/bits.overflowError"], loops := true, apart := false }
def AbstractCoversSaid : Prop := abstractCoversRow.holds Tryz.pinned (OpenSpec.ofChange abstractCoversSpec)

/-- ITS FALSE NEIGHBOUR: 'it returns false'. Refute it at one input. -/
def abstractCoversWrong : ChangeSpec := { name := "abstractCovers", fn := fun _ => fun
  | [d1, d2, d3] => { results := [.lit (.bool false)], args := [d1, d2, d3] }
  | _ => none }
def AbstractCoversWrongFalsely : Prop := abstractCoversRow.holds Tryz.pinned (OpenSpec.ofChange abstractCoversWrong)

/-- 'keyholelaw37.RefineRefuses': WHATEVER THE INPUT: true; the input reads as it did. -/
def refineRefusesSpec : ChangeSpec := { name := "refineRefuses", fn := fun _ => fun
  | [d1, d2, d3] => { results := [.lit (.bool true)], args := [d1, d2, d3] }
  | _ => none }
def refineRefusesRow : OpenClaim := { program := "ytnfljbehcffmcaagreat", sum := "0468e7e8472976c5d5f6e7b9344e30a5a599fca2b765f5759ef84319390cafc2", func := "keyhole/keyholelaw37.RefineRefuses", spec := "refineRefuses", unfollowed := true, recurses := true, named := ["math/bits.divideError", "math/bits.overflowError"], loops := true, apart := false }
def RefineRefusesSaid : Prop := refineRefusesRow.holds Tryz.pinned (OpenSpec.ofChange refineRefusesSpec)

/-- ITS FALSE NEIGHBOUR: 'it returns false'. Refute it at one input. -/
def refineRefusesWrong : ChangeSpec := { name := "refineRefuses", fn := fun _ => fun
  | [d1, d2, d3] => { results := [.lit (.bool false)], args := [d1, d2, d3] }
  | _ => none }
def RefineRefusesWrongFalsely : Prop := refineRefusesRow.holds Tryz.pinned (OpenSpec.ofChange refineRefusesWrong)

/-- 'keyholelaw37.RefineFinds': WHATEVER THE INPUT: true; the input reads as it did. -/
def refineFindsSpec : ChangeSpec := { name := "refineFinds", fn := fun _ => fun
  | [d1, d2, d3] => { results := [.lit (.bool true)], args := [d1, d2, d3] }
  | _ => none }
def refineFindsRow : OpenClaim := { program := "ytnfljbehcffmcaagreat", sum := "0468e7e8472976c5d5f6e7b9344e30a5a599fca2b765f5759ef84319390cafc2", func := "keyhole/keyholelaw37.RefineFinds", spec := "refineFinds", unfollowed := true, recurses := true, named := ["math/bits.divideError", "math/bits.overflowError"], loops := true, apart := false }
def RefineFindsSaid : Prop := refineFindsRow.holds Tryz.pinned (OpenSpec.ofChange refineFindsSpec)

/-- ITS FALSE NEIGHBOUR: 'it returns false'. Refute it at one input. -/
def refineFindsWrong : ChangeSpec := { name := "refineFinds", fn := fun _ => fun
  | [d1, d2, d3] => { results := [.lit (.bool false)], args := [d1, d2, d3] }
  | _ => none }
def RefineFindsWrongFalsely : Prop := refineFindsRow.holds Tryz.pinned (OpenSpec.ofChange refineFindsWrong)

/-- 'keyholelaw37.RefineStarts': WHATEVER THE INPUT: true; the input reads as it did. -/
def refineStartsSpec : ChangeSpec := { name := "refineStarts", fn := fun _ => fun
  | [d1, d2] => { results := [.lit (.bool true)], args := [d1, d2] }
  | _ => none }
def refineStartsRow : OpenClaim := { program := "ytnfljbehcffmcaagreat", sum := "0468e7e8472976c5d5f6e7b9344e30a5a599fca2b765f5759ef84319390cafc2", func := "keyhole/keyholelaw37.RefineStarts", spec := "refineStarts", inPlace := ["slices.overlaps[keyhole/api.Observation]"], unfollowed := true, recurses := true, named := ["math/bits.divideError", "math/bits.overflowError"], loops := true, apart := false }
def RefineStartsSaid : Prop := refineStartsRow.holds Tryz.pinned (OpenSpec.ofChange refineStartsSpec)

/-- ITS FALSE NEIGHBOUR: 'it returns false'. Refute it at one input. -/
def refineStartsWrong : ChangeSpec := { name := "refineStarts", fn := fun _ => fun
  | [d1, d2] => { results := [.lit (.bool false)], args := [d1, d2] }
  | _ => none }
def RefineStartsWrongFalsely : Prop := refineStartsRow.holds Tryz.pinned (OpenSpec.ofChange refineStartsWrong)

/-- 'keyholelaw37.RefineChecks': WHATEVER THE INPUT: true; the input reads as it did. -/
def refineChecksSpec : ChangeSpec := { name := "refineChecks", fn := fun _ => fun
  | [d1, d2, d3] => { results := [.lit (.bool true)], args := [d1, d2, d3] }
  | _ => none }
def refineChecksRow : OpenClaim := { program := "ytnfljbehcffmcaagreat", sum := "0468e7e8472976c5d5f6e7b9344e30a5a599fca2b765f5759ef84319390cafc2", func := "keyhole/keyholelaw37.RefineChecks", spec := "refineChecks", inPlace := ["slices.overlaps[keyhole/api.Observation]"], unfollowed := true, recurses := true, named := ["math/bits.divideError", "math/bits.overflowError"], loops := true, apart := false }
def RefineChecksSaid : Prop := refineChecksRow.holds Tryz.pinned (OpenSpec.ofChange refineChecksSpec)

/-- ITS FALSE NEIGHBOUR: 'it returns false'. Refute it at one input. -/
def refineChecksWrong : ChangeSpec := { name := "refineChecks", fn := fun _ => fun
  | [d1, d2, d3] => { results := [.lit (.bool false)], args := [d1, d2, d3] }
  | _ => none }
def RefineChecksWrongFalsely : Prop := refineChecksRow.holds Tryz.pinned (OpenSpec.ofChange refineChecksWrong)

/-- 'keyholelaw37.RefineSplits': WHATEVER THE INPUT: true; the input reads as it did. -/
def refineSplitsSpec : ChangeSpec := { name := "refineSplits", fn := fun _ => fun
  | [d1, d2, d3] => { results := [.lit (.bool true)], args := [d1, d2, d3] }
  | _ => none }
def refineSplitsRow : OpenClaim := { program := "ytnfljbehcffmcaagreat", sum := "0468e7e8472976c5d5f6e7b9344e30a5a599fca2b765f5759ef84319390cafc2", func := "keyhole/keyholelaw37.RefineSplits", spec := "refineSplits", inPlace := ["slices.overlaps[keyhole/api.Observation]"], unfollowed := true, recurses := true, named := ["math/bits.divideError", "math/bits.overflowError"], loops := true, apart := false }
def RefineSplitsSaid : Prop := refineSplitsRow.holds Tryz.pinned (OpenSpec.ofChange refineSplitsSpec)

/-- ITS FALSE NEIGHBOUR: 'it returns false'. Refute it at one input. -/
def refineSplitsWrong : ChangeSpec := { name := "refineSplits", fn := fun _ => fun
  | [d1, d2, d3] => { results := [.lit (.bool false)], args := [d1, d2, d3] }
  | _ => none }
def RefineSplitsWrongFalsely : Prop := refineSplitsRow.holds Tryz.pinned (OpenSpec.ofChange refineSplitsWrong)

/-- 'keyholelaw37.RefineSteps': WHATEVER THE INPUT: true; the input reads as it did. -/
def refineStepsSpec : ChangeSpec := { name := "refineSteps", fn := fun _ => fun
  | [d1, d2, d3] => { results := [.lit (.bool true)], args := [d1, d2, d3] }
  | _ => none }
def refineStepsRow : OpenClaim := { program := "ytnfljbehcffmcaagreat", sum := "0468e7e8472976c5d5f6e7b9344e30a5a599fca2b765f5759ef84319390cafc2", func := "keyhole/keyholelaw37.RefineSteps", spec := "refineSteps", inPlace := ["slices.overlaps[keyhole/api.Observation]"], unfollowed := true, recurses := true, named := ["math/bits.divideError", "math/bits.overflowError"], loops := true, apart := false }
def RefineStepsSaid : Prop := refineStepsRow.holds Tryz.pinned (OpenSpec.ofChange refineStepsSpec)

/-- ITS FALSE NEIGHBOUR: 'it returns false'. Refute it at one input. -/
def refineStepsWrong : ChangeSpec := { name := "refineSteps", fn := fun _ => fun
  | [d1, d2, d3] => { results := [.lit (.bool false)], args := [d1, d2, d3] }
  | _ => none }
def RefineStepsWrongFalsely : Prop := refineStepsRow.holds Tryz.pinned (OpenSpec.ofChange refineStepsWrong)

/-- 'keyholelaw37.RefineMonotone': WHATEVER THE INPUT: true; the input reads as it did. -/
def refineMonotoneSpec : ChangeSpec := { name := "refineMonotone", fn := fun _ => fun
  | [d1, d2, d3] => { results := [.lit (.bool true)], args := [d1, d2, d3] }
  | _ => none }
def refineMonotoneRow : OpenClaim := { program := "ytnfljbehcffmcaagreat", sum := "0468e7e8472976c5d5f6e7b9344e30a5a599fca2b765f5759ef84319390cafc2", func := "keyhole/keyholelaw37.RefineMonotone", spec := "refineMonotone", unfollowed := true, recurses := true, named := ["math/bits.divideError", "math/bits.overflowError"], loops := true, apart := false }
def RefineMonotoneSaid : Prop := refineMonotoneRow.holds Tryz.pinned (OpenSpec.ofChange refineMonotoneSpec)

/-- ITS FALSE NEIGHBOUR: 'it returns false'. Refute it at one input. -/
def refineMonotoneWrong : ChangeSpec := { name := "refineMonotone", fn := fun _ => fun
  | [d1, d2, d3] => { results := [.lit (.bool false)], args := [d1, d2, d3] }
  | _ => none }
def RefineMonotoneWrongFalsely : Prop := refineMonotoneRow.holds Tryz.pinned (OpenSpec.ofChange refineMonotoneWrong)

/-- 'keyholelaw37.RefineExact': WHATEVER THE INPUT: true; the input reads as it did. -/
def refineExactSpec : ChangeSpec := { name := "refineExact", fn := fun _ => fun
  | [d1, d2] => { results := [.lit (.bool true)], args := [d1, d2] }
  | _ => none }
def refineExactRow : OpenClaim := { program := "ytnfljbehcffmcaagreat", sum := "0468e7e8472976c5d5f6e7b9344e30a5a599fca2b765f5759ef84319390cafc2", func := "keyhole/keyholelaw37.RefineExact", spec := "refineExact", inPlace := ["slices.overlaps[keyhole/api.Observation]"], unfollowed := true, recurses := true, named := ["math/bits.divideError", "math/bits.overflowError"], loops := true, apart := false }
def RefineExactSaid : Prop := refineExactRow.holds Tryz.pinned (OpenSpec.ofChange refineExactSpec)

/-- ITS FALSE NEIGHBOUR: 'it returns false'. Refute it at one input. -/
def refineExactWrong : ChangeSpec := { name := "refineExact", fn := fun _ => fun
  | [d1, d2] => { results := [.lit (.bool false)], args := [d1, d2] }
  | _ => none }
def RefineExactWrongFalsely : Prop := refineExactRow.holds Tryz.pinned (OpenSpec.ofChange refineExactWrong)

/-- 'keyholelaw37.RefineBounds': WHATEVER THE INPUT: true; the input reads as it did. -/
def refineBoundsSpec : ChangeSpec := { name := "refineBounds", fn := fun _ => fun
  | [d1, d2, d3] => { results := [.lit (.bool true)], args := [d1, d2, d3] }
  | _ => none }
def refineBoundsRow : OpenClaim := { program := "ytnfljbehcffmcaagreat", sum := "0468e7e8472976c5d5f6e7b9344e30a5a599fca2b765f5759ef84319390cafc2", func := "keyhole/keyholelaw37.RefineBounds", spec := "refineBounds", inPlace := ["slices.overlaps[keyhole/api.Observation]"], unfollowed := true, recurses := true, named := ["math/bits.divideError", "math/bits.overflowError"], loops := true, apart := false }
def RefineBoundsSaid : Prop := refineBoundsRow.holds Tryz.pinned (OpenSpec.ofChange refineBoundsSpec)

/-- ITS FALSE NEIGHBOUR: 'it returns false'. Refute it at one input. -/
def refineBoundsWrong : ChangeSpec := { name := "refineBounds", fn := fun _ => fun
  | [d1, d2, d3] => { results := [.lit (.bool false)], args := [d1, d2, d3] }
  | _ => none }
def RefineBoundsWrongFalsely : Prop := refineBoundsRow.holds Tryz.pinned (OpenSpec.ofChange refineBoundsWrong)

/-- 'keyholelaw37.RefineReaches': WHATEVER THE INPUT: true; the input reads as it did. -/
def refineReachesSpec : ChangeSpec := { name := "refineReaches", fn := fun _ => fun
  | [d1, d2, d3] => { results := [.lit (.bool true)], args := [d1, d2, d3] }
  | _ => none }
def refineReachesRow : OpenClaim := { program := "ytnfljbehcffmcaagreat", sum := "0468e7e8472976c5d5f6e7b9344e30a5a599fca2b765f5759ef84319390cafc2", func := "keyhole/keyholelaw37.RefineReaches", spec := "refineReaches", inPlace := ["slices.overlaps[keyhole/api.Observation]"], unfollowed := true, recurses := true, named := ["math/bits.divideError", "math/bits.overflowError"], loops := true, apart := false }
def RefineReachesSaid : Prop := refineReachesRow.holds Tryz.pinned (OpenSpec.ofChange refineReachesSpec)

/-- ITS FALSE NEIGHBOUR: 'it returns false'. Refute it at one input. -/
def refineReachesWrong : ChangeSpec := { name := "refineReaches", fn := fun _ => fun
  | [d1, d2, d3] => { results := [.lit (.bool false)], args := [d1, d2, d3] }
  | _ => none }
def RefineReachesWrongFalsely : Prop := refineReachesRow.holds Tryz.pinned (OpenSpec.ofChange refineReachesWrong)

/- THE SECOND FORM. 'bulk': how many values and letters a reading holds, each counted each time it is reached (what is shared counts as often as it is met; a slice's spare places count too). A statement '..UptoSaid' is the law's where the arguments, and the package variables that the reading takes, are together of bulk at most 1048576: NARROWER than '..Said'. Prove '..Said' where nothing that the law and all that it calls make is longer than what came in: it says more and counts as full. Else prove '..UptoSaid'. A law counts once. -/
mutual
def uptoBulk {H : Type} : DataW H → Nat
  | .lit (.string bytes) => bytes.length + 1
  | .lit _ => 1
  | .nil => 1
  | .ptr d => uptoBulk d + 1
  | .slice elems spare => uptoBulkAll elems + uptoBulkAll spare + 1
  | .agg parts => uptoBulkAll parts + 1
  | .iface _ d => uptoBulk d + 1
  | .map entries => uptoBulkEntries entries + 1
  | .held _ => 1
def uptoBulkAll {H : Type} : List (DataW H) → Nat
  | [] => 0
  | d :: r => uptoBulk d + uptoBulkAll r
def uptoBulkEntries {H : Type} : List (Lit × DataW H) → Nat
  | [] => 0
  | x :: r => uptoBulkEntry x + uptoBulkEntries r
def uptoBulkEntry {H : Type} : Lit × DataW H → Nat
  | (.string bytes, d) => bytes.length + uptoBulk d + 1
  | (_, d) => uptoBulk d + 1
 end
def uptoSmall : (H : Type) → List (DataW H) → Bool := fun _ ds => decide (uptoBulkAll ds ≤ 1048576)
def OpenSpec.upto (s : _root_.Go.ChangeSpec) : _root_.Go.OpenSpec := { _root_.Go.OpenSpec.ofChange s with cond := some uptoSmall }

/-- 'keyholelaw36.AbstractRuns', WHERE WHAT IT READS IS OF BULK AT MOST 1048576: true; the input reads as it did. -/
def abstractRunsUptoRow : OpenClaim := { program := "ytnfljbehcffmcaagreat", sum := "0468e7e8472976c5d5f6e7b9344e30a5a599fca2b765f5759ef84319390cafc2", func := "keyhole/keyholelaw36.AbstractRuns", spec := "abstractRuns", unfollowed := true, recurses := true, named := ["math/bits.divideError", "math/bits.overflowError"], loops := true, apart := false, narrowed := true }
def AbstractRunsUptoSaid : Prop := abstractRunsUptoRow.holds Tryz.pinned (OpenSpec.upto abstractRunsSpec)

/-- 'keyholelaw36.AbstractSound', WHERE WHAT IT READS IS OF BULK AT MOST 1048576: true; the input reads as it did. -/
def abstractSoundUptoRow : OpenClaim := { program := "ytnfljbehcffmcaagreat", sum := "0468e7e8472976c5d5f6e7b9344e30a5a599fca2b765f5759ef84319390cafc2", func := "keyhole/keyholelaw36.AbstractSound", spec := "abstractSound", unfollowed := true, recurses := true, named := ["math/bits.divideError", "math/bits.overflowError"], loops := true, apart := false, narrowed := true }
def AbstractSoundUptoSaid : Prop := abstractSoundUptoRow.holds Tryz.pinned (OpenSpec.upto abstractSoundSpec)

/-- 'keyholelaw36.AbstractExact', WHERE WHAT IT READS IS OF BULK AT MOST 1048576: true; the input reads as it did. -/
def abstractExactUptoRow : OpenClaim := { program := "ytnfljbehcffmcaagreat", sum := "0468e7e8472976c5d5f6e7b9344e30a5a599fca2b765f5759ef84319390cafc2", func := "keyhole/keyholelaw36.AbstractExact", spec := "abstractExact", unfollowed := true, recurses := true, named := ["math/bits.divideError", "math/bits.overflowError"], loops := true, apart := false, narrowed := true }
def AbstractExactUptoSaid : Prop := abstractExactUptoRow.holds Tryz.pinned (OpenSpec.upto abstractExactSpec)

/-- 'keyholelaw36.AbstractBounds', WHERE WHAT IT READS IS OF BULK AT MOST 1048576: true; the input reads as it did. -/
def abstractBoundsUptoRow : OpenClaim := { program := "ytnfljbehcffmcaagreat", sum := "0468e7e8472976c5d5f6e7b9344e30a5a599fca2b765f5759ef84319390cafc2", func := "keyhole/keyholelaw36.AbstractBounds", spec := "abstractBounds", unfollowed := true, recurses := true, named := ["math/bits.divideError", "math/bits.overflowError"], loops := true, apart := false, narrowed := true }
def AbstractBoundsUptoSaid : Prop := abstractBoundsUptoRow.holds Tryz.pinned (OpenSpec.upto abstractBoundsSpec)

/-- 'keyholelaw36.AbstractCovers', WHERE WHAT IT READS IS OF BULK AT MOST 1048576: true; the input reads as it did. -/
def abstractCoversUptoRow : OpenClaim := { program := "ytnfljbehcffmcaagreat", sum := "0468e7e8472976c5d5f6e7b9344e30a5a599fca2b765f5759ef84319390cafc2", func := "keyhole/keyholelaw36.AbstractCovers", spec := "abstractCovers", unfollowed := true, recurses := true, named := ["math/bits.divideError", "math/bits.overflowError"], loops := true, apart := false, narrowed := true }
def AbstractCoversUptoSaid : Prop := abstractCoversUptoRow.holds Tryz.pinned (OpenSpec.upto abstractCoversSpec)

/-- 'keyholelaw37.RefineRefuses', WHERE WHAT IT READS IS OF BULK AT MOST 1048576: true; the input reads as it did. -/
def refineRefusesUptoRow : OpenClaim := { program := "ytnfljbehcffmcaagreat", sum := "0468e7e8472976c5d5f6e7b9344e30a5a599fca2b765f5759ef84319390cafc2", func := "keyhole/keyholelaw37.RefineRefuses", spec := "refineRefuses", unfollowed := true, recurses := true, named := ["math/bits.divideError", "math/bits.overflowError"], loops := true, apart := false, narrowed := true }
def RefineRefusesUptoSaid : Prop := refineRefusesUptoRow.holds Tryz.pinned (OpenSpec.upto refineRefusesSpec)

/-- 'keyholelaw37.RefineFinds', WHERE WHAT IT READS IS OF BULK AT MOST 1048576: true; the input reads as it did. -/
def refineFindsUptoRow : OpenClaim := { program := "ytnfljbehcffmcaagreat", sum := "0468e7e8472976c5d5f6e7b9344e30a5a599fca2b765f5759ef84319390cafc2", func := "keyhole/keyholelaw37.RefineFinds", spec := "refineFinds", unfollowed := true, recurses := true, named := ["math/bits.divideError", "math/bits.overflowError"], loops := true, apart := false, narrowed := true }
def RefineFindsUptoSaid : Prop := refineFindsUptoRow.holds Tryz.pinned (OpenSpec.upto refineFindsSpec)

/-- 'keyholelaw37.RefineStarts', WHERE WHAT IT READS IS OF BULK AT MOST 1048576: true; the input reads as it did. -/
def refineStartsUptoRow : OpenClaim := { program := "ytnfljbehcffmcaagreat", sum := "0468e7e8472976c5d5f6e7b9344e30a5a599fca2b765f5759ef84319390cafc2", func := "keyhole/keyholelaw37.RefineStarts", spec := "refineStarts", inPlace := ["slices.overlaps[keyhole/api.Observation]"], unfollowed := true, recurses := true, named := ["math/bits.divideError", "math/bits.overflowError"], loops := true, apart := false, narrowed := true }
def RefineStartsUptoSaid : Prop := refineStartsUptoRow.holds Tryz.pinned (OpenSpec.upto refineStartsSpec)

/-- 'keyholelaw37.RefineChecks', WHERE WHAT IT READS IS OF BULK AT MOST 1048576: true; the input reads as it did. -/
def refineChecksUptoRow : OpenClaim := { program := "ytnfljbehcffmcaagreat", sum := "0468e7e8472976c5d5f6e7b9344e30a5a599fca2b765f5759ef84319390cafc2", func := "keyhole/keyholelaw37.RefineChecks", spec := "refineChecks", inPlace := ["slices.overlaps[keyhole/api.Observation]"], unfollowed := true, recurses := true, named := ["math/bits.divideError", "math/bits.overflowError"], loops := true, apart := false, narrowed := true }
def RefineChecksUptoSaid : Prop := refineChecksUptoRow.holds Tryz.pinned (OpenSpec.upto refineChecksSpec)

/-- 'keyholelaw37.RefineSplits', WHERE WHAT IT READS IS OF BULK AT MOST 1048576: true; the input reads as it did. -/
def refineSplitsUptoRow : OpenClaim := { program := "ytnfljbehcffmcaagreat", sum := "0468e7e8472976c5d5f6e7b9344e30a5a599fca2b765f5759ef84319390cafc2", func := "keyhole/keyholelaw37.RefineSplits", spec := "refineSplits", inPlace := ["slices.overlaps[keyhole/api.Observation]"], unfollowed := true, recurses := true, named := ["math/bits.divideError", "math/bits.overflowError"], loops := true, apart := false, narrowed := true }
def RefineSplitsUptoSaid : Prop := refineSplitsUptoRow.holds Tryz.pinned (OpenSpec.upto refineSplitsSpec)

/-- 'keyholelaw37.RefineSteps', WHERE WHAT IT READS IS OF BULK AT MOST 1048576: true; the input reads as it did. -/
def refineStepsUptoRow : OpenClaim := { program := "ytnfljbehcffmcaagreat", sum := "0468e7e8472976c5d5f6e7b9344e30a5a599fca2b765f5759ef84319390cafc2", func := "keyhole/keyholelaw37.RefineSteps", spec := "refineSteps", inPlace := ["slices.overlaps[keyhole/api.Observation]"], unfollowed := true, recurses := true, named := ["math/bits.divideError", "math/bits.overflowError"], loops := true, apart := false, narrowed := true }
def RefineStepsUptoSaid : Prop := refineStepsUptoRow.holds Tryz.pinned (OpenSpec.upto refineStepsSpec)

/-- 'keyholelaw37.RefineMonotone', WHERE WHAT IT READS IS OF BULK AT MOST 1048576: true; the input reads as it did. -/
def refineMonotoneUptoRow : OpenClaim := { program := "ytnfljbehcffmcaagreat", sum := "0468e7e8472976c5d5f6e7b9344e30a5a599fca2b765f5759ef84319390cafc2", func := "keyhole/keyholelaw37.RefineMonotone", spec := "refineMonotone", unfollowed := true, recurses := true, named := ["math/bits.divideError", "math/bits.overflowError"], loops := true, apart := false, narrowed := true }
def RefineMonotoneUptoSaid : Prop := refineMonotoneUptoRow.holds Tryz.pinned (OpenSpec.upto refineMonotoneSpec)

/-- 'keyholelaw37.RefineExact', WHERE WHAT IT READS IS OF BULK AT MOST 1048576: true; the input reads as it did. -/
def refineExactUptoRow : OpenClaim := { program := "ytnfljbehcffmcaagreat", sum := "0468e7e8472976c5d5f6e7b9344e30a5a599fca2b765f5759ef84319390cafc2", func := "keyhole/keyholelaw37.RefineExact", spec := "refineExact", inPlace := ["slices.overlaps[keyhole/api.Observation]"], unfollowed := true, recurses := true, named := ["math/bits.divideError", "math/bits.overflowError"], loops := true, apart := false, narrowed := true }
def RefineExactUptoSaid : Prop := refineExactUptoRow.holds Tryz.pinned (OpenSpec.upto refineExactSpec)

/-- 'keyholelaw37.RefineBounds', WHERE WHAT IT READS IS OF BULK AT MOST 1048576: true; the input reads as it did. -/
def refineBoundsUptoRow : OpenClaim := { program := "ytnfljbehcffmcaagreat", sum := "0468e7e8472976c5d5f6e7b9344e30a5a599fca2b765f5759ef84319390cafc2", func := "keyhole/keyholelaw37.RefineBounds", spec := "refineBounds", inPlace := ["slices.overlaps[keyhole/api.Observation]"], unfollowed := true, recurses := true, named := ["math/bits.divideError", "math/bits.overflowError"], loops := true, apart := false, narrowed := true }
def RefineBoundsUptoSaid : Prop := refineBoundsUptoRow.holds Tryz.pinned (OpenSpec.upto refineBoundsSpec)

/-- 'keyholelaw37.RefineReaches', WHERE WHAT IT READS IS OF BULK AT MOST 1048576: true; the input reads as it did. -/
def refineReachesUptoRow : OpenClaim := { program := "ytnfljbehcffmcaagreat", sum := "0468e7e8472976c5d5f6e7b9344e30a5a599fca2b765f5759ef84319390cafc2", func := "keyhole/keyholelaw37.RefineReaches", spec := "refineReaches", inPlace := ["slices.overlaps[keyhole/api.Observation]"], unfollowed := true, recurses := true, named := ["math/bits.divideError", "math/bits.overflowError"], loops := true, apart := false, narrowed := true }
def RefineReachesUptoSaid : Prop := refineReachesUptoRow.holds Tryz.pinned (OpenSpec.upto refineReachesSpec)

end Rows
end Go.Proofs.YtnfljbehcffmcaaGreat
