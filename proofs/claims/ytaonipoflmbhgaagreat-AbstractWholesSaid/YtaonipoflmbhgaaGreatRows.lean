/-
  NARROWER THAN 'FOR EVERY INPUT', by the rows' own cells (each row's printed sentence says how): AbstractRuns: loops · AbstractWholes: loops · AbstractSound: loops · AbstractExact: loops · AbstractBounds: loops · AbstractCovers: loops.
  DERIVED. THE GIVEN ROWS OF THIS SEAT. 7 by the template 'for every input the law returns true; each argument reads behind the call as it read before'; 0 by the template 'total and deterministic' (their statements: YtaonipoflmbhgaaGreatTotals.lean).
  GIVEN WITH THE SEED: the statements are not yours to turn. If you find one false, say at which input.
  Laid BY PROGRAM, IN A SANDBOX (cutbox-rows.mjs): the forced cells as the released guide's own fill.sh prints them over the translation 0da439c58215dbe1… (all of the seat's roots in one cut). By AI agents, Wed Nov 11 2026. No macro, syntax, notation, axiom, sorry.
-/
import Derived.Test.YtaonipoflmbhgaaGreatChecked
import GoSem.Claim
import GoSem.ClaimJoined
import GoSem.ClaimMapViews
import Derived.JoinedTies
import Derived.KernelRfl
namespace Go.Proofs.YtaonipoflmbhgaaGreat
/- THE CELL 'sum', in the pinned program and in every row, IS THE sha256 OF THE DUMP (.gsa) THAT YtaonipoflmbhgaaGreatProg.lean LOADS. Nothing in Lean hashes anything: it is a label: what it is worth is what the hold of that sum in a sandbox is worth. -/
noncomputable def Tryz.pinned : Pinned := { name := "ytaonipoflmbhgaagreat", sum := "0da439c58215dbe1d7ed1c3a9489bc9ef9b07af5350aed837b3dab7264d44a81", checked := Tryz.checked }
namespace Rows
def none {H : Type} : Left H := { results := [], args := [] }

/-- 'keyholelaw36.AbstractRuns': WHATEVER THE INPUT: true; the input reads as it did. -/
def abstractRunsSpec : ChangeSpec := { name := "abstractRuns", fn := fun _ => fun
  | [d1, d2, d3] => { results := [.lit (.bool true)], args := [d1, d2, d3] }
  | _ => none }
def abstractRunsRow : OpenClaim := { program := "ytaonipoflmbhgaagreat", sum := "0da439c58215dbe1d7ed1c3a9489bc9ef9b07af5350aed837b3dab7264d44a81", func := "keyhole/keyholelaw36.AbstractRuns", spec := "abstractRuns", unfollowed := true, recurses := true, named := ["math/bits.divideError", "math/bits.overflowError"], loops := true, apart := false }
def AbstractRunsSaid : Prop := abstractRunsRow.holds Tryz.pinned (OpenSpec.ofChange abstractRunsSpec)

/-- ITS FALSE NEIGHBOUR: 'it returns false'. Refute it at one input. -/
def abstractRunsWrong : ChangeSpec := { name := "abstractRuns", fn := fun _ => fun
  | [d1, d2, d3] => { results := [.lit (.bool false)], args := [d1, d2, d3] }
  | _ => none }
def AbstractRunsWrongFalsely : Prop := abstractRunsRow.holds Tryz.pinned (OpenSpec.ofChange abstractRunsWrong)

/-- 'keyholelaw36.AbstractWholes': WHATEVER THE INPUT: true; the input reads as it did. -/
def abstractWholesSpec : ChangeSpec := { name := "abstractWholes", fn := fun _ => fun
  | [d] => { results := [.lit (.bool true)], args := [d] }
  | _ => none }
def abstractWholesRow : OpenClaim := { program := "ytaonipoflmbhgaagreat", sum := "0da439c58215dbe1d7ed1c3a9489bc9ef9b07af5350aed837b3dab7264d44a81", func := "keyhole/keyholelaw36.AbstractWholes", spec := "abstractWholes", unfollowed := true, recurses := true, named := ["math/bits.divideError", "math/bits.overflowError"], loops := true, apart := false }
def AbstractWholesSaid : Prop := abstractWholesRow.holds Tryz.pinned (OpenSpec.ofChange abstractWholesSpec)

/-- ITS FALSE NEIGHBOUR: 'it returns false'. Refute it at one input. -/
def abstractWholesWrong : ChangeSpec := { name := "abstractWholes", fn := fun _ => fun
  | [d] => { results := [.lit (.bool false)], args := [d] }
  | _ => none }
def AbstractWholesWrongFalsely : Prop := abstractWholesRow.holds Tryz.pinned (OpenSpec.ofChange abstractWholesWrong)

/-- 'keyholelaw36.AbstractHas': WHATEVER THE INPUT: true; the input reads as it did. -/
def abstractHasSpec : ChangeSpec := { name := "abstractHas", fn := fun _ => fun
  | [d1, d2] => { results := [.lit (.bool true)], args := [d1, d2] }
  | _ => none }
def abstractHasRow : OpenClaim := { program := "ytaonipoflmbhgaagreat", sum := "0da439c58215dbe1d7ed1c3a9489bc9ef9b07af5350aed837b3dab7264d44a81", func := "keyhole/keyholelaw36.AbstractHas", spec := "abstractHas", unfollowed := true, recurses := true, named := ["math/bits.divideError", "math/bits.overflowError"], apart := false }
def AbstractHasSaid : Prop := abstractHasRow.holds Tryz.pinned (OpenSpec.ofChange abstractHasSpec)

/-- ITS FALSE NEIGHBOUR: 'it returns false'. Refute it at one input. -/
def abstractHasWrong : ChangeSpec := { name := "abstractHas", fn := fun _ => fun
  | [d1, d2] => { results := [.lit (.bool false)], args := [d1, d2] }
  | _ => none }
def AbstractHasWrongFalsely : Prop := abstractHasRow.holds Tryz.pinned (OpenSpec.ofChange abstractHasWrong)

/-- 'keyholelaw36.AbstractSound': WHATEVER THE INPUT: true; the input reads as it did. -/
def abstractSoundSpec : ChangeSpec := { name := "abstractSound", fn := fun _ => fun
  | [d1, d2, d3] => { results := [.lit (.bool true)], args := [d1, d2, d3] }
  | _ => none }
def abstractSoundRow : OpenClaim := { program := "ytaonipoflmbhgaagreat", sum := "0da439c58215dbe1d7ed1c3a9489bc9ef9b07af5350aed837b3dab7264d44a81", func := "keyhole/keyholelaw36.AbstractSound", spec := "abstractSound", unfollowed := true, recurses := true, named := ["math/bits.divideError", "math/bits.overflowError"], loops := true, apart := false }
def AbstractSoundSaid : Prop := abstractSoundRow.holds Tryz.pinned (OpenSpec.ofChange abstractSoundSpec)

/-- ITS FALSE NEIGHBOUR: 'it returns false'. Refute it at one input. -/
def abstractSoundWrong : ChangeSpec := { name := "abstractSound", fn := fun _ => fun
  | [d1, d2, d3] => { results := [.lit (.bool false)], args := [d1, d2, d3] }
  | _ => none }
def AbstractSoundWrongFalsely : Prop := abstractSoundRow.holds Tryz.pinned (OpenSpec.ofChange abstractSoundWrong)

/-- 'keyholelaw36.AbstractExact': WHATEVER THE INPUT: true; the input reads as it did. -/
def abstractExactSpec : ChangeSpec := { name := "abstractExact", fn := fun _ => fun
  | [d1, d2, d3] => { results := [.lit (.bool true)], args := [d1, d2, d3] }
  | _ => none }
def abstractExactRow : OpenClaim := { program := "ytaonipoflmbhgaagreat", sum := "0da439c58215dbe1d7ed1c3a9489bc9ef9b07af5350aed837b3dab7264d44a81", func := "keyhole/keyholelaw36.AbstractExact", spec := "abstractExact", unfollowed := true, recurses := true, named := ["math/bits.divideError", "math/bits.overflowError"], loops := true, apart := false }
def AbstractExactSaid : Prop := abstractExactRow.holds Tryz.pinned (OpenSpec.ofChange abstractExactSpec)

/-- ITS FALSE NEIGHBOUR: 'it returns false'. Refute it at one input. -/
def abstractExactWrong : ChangeSpec := { name := "abstractExact", fn := fun _ => fun
  | [d1, d2, d3] => { results := [.lit (.bool false)], args := [d1, d2, d3] }
  | _ => none }
def AbstractExactWrongFalsely : Prop := abstractExactRow.holds Tryz.pinned (OpenSpec.ofChange abstractExactWrong)

/-- 'keyholelaw36.AbstractBounds': WHATEVER THE INPUT: true; the input reads as it did. -/
def abstractBoundsSpec : ChangeSpec := { name := "abstractBounds", fn := fun _ => fun
  | [d1, d2, d3] => { results := [.lit (.bool true)], args := [d1, d2, d3] }
  | _ => none }
def abstractBoundsRow : OpenClaim := { program := "ytaonipoflmbhgaagreat", sum := "0da439c58215dbe1d7ed1c3a9489bc9ef9b07af5350aed837b3dab7264d44a81", func := "keyhole/keyholelaw36.AbstractBounds", spec := "abstractBounds", unfollowed := true, recurses := true, named := ["math/bits.divideError", "math/bits.overflowError"], loops := true, apart := false }
def AbstractBoundsSaid : Prop := abstractBoundsRow.holds Tryz.pinned (OpenSpec.ofChange abstractBoundsSpec)

/-- ITS FALSE NEIGHBOUR: 'it returns false'. Refute it at one input. -/
def abstractBoundsWrong : ChangeSpec := { name := "abstractBounds", fn := fun _ => fun
  | [d1, d2, d3] => { results := [.lit (.bool false)], args := [d1, d2, d3] }
  | _ => none }
def AbstractBoundsWrongFalsely : Prop := abstractBoundsRow.holds Tryz.pinned (OpenSpec.ofChange abstractBoundsWrong)

/-- 'keyholelaw36.AbstractCovers': WHATEVER THE INPUT: true; the input reads as it did. -/
def abstractCoversSpec : ChangeSpec := { name := "abstractCovers", fn := fun _ => fun
  | [d1, d2, d3] => { results := [.lit (.bool true)], args := [d1, d2, d3] }
  | _ => none }
def abstractCoversRow : OpenClaim := { program := "ytaonipoflmbhgaagreat", sum := "0da439c58215dbe1d7ed1c3a9489bc9ef9b07af5350aed837b3dab7264d44a81", func := "keyhole/keyholelaw36.AbstractCovers", spec := "abstractCovers", unfollowed := true, recurses := true, named := ["math/bits.divideError", "math/bits.overflowError"], loops := true, apart := false }
def AbstractCoversSaid : Prop := abstractCoversRow.holds Tryz.pinned (OpenSpec.ofChange abstractCoversSpec)

/-- ITS FALSE NEIGHBOUR: 'it returns false'. Refute it at one input. -/
def abstractCoversWrong : ChangeSpec := { name := "abstractCovers", fn := fun _ => fun
  | [d1, d2, d3] => { results := [.lit (.bool false)], args := [d1, d2, d3] }
  | _ => none }
def AbstractCoversWrongFalsely : Prop := abstractCoversRow.holds Tryz.pinned (OpenSpec.ofChange abstractCoversWrong)

/- THE SECOND FORM. 'bulk': how many values and letters a reading holds, each counted each time it is reached (what is shared counts as often as it is met; a slice's spare places count too). A statement '..UptoSaid' is the law's where the arguments, and the package variables that the reading takes, are together of bulk at most 1048576: NARROWER than '..Said'. Prove '..Said' where nothing that the law and all that it calls make is longer than what came in: it says more and counts as full. Else prove '..UptoSaid'. A law counts once. -/
mutual
def uptoBulk {H : Type} : DataW H → Nat
  | .lit (.string bytes) => bytes.length + 1
  | .lit _ => 1
  | .nil => 1
  | .ptr d => uptoBulk d + 1
  | .slice elems spare => uptoBulkAll elems + uptoBulkAll spare + 1
  | .agg parts => uptoBulkAll parts + 1
  | .iface _ d => uptoBulk d + 1
  | .map entries => uptoBulkEntries entries + 1
  | .held _ => 1
def uptoBulkAll {H : Type} : List (DataW H) → Nat
  | [] => 0
  | d :: r => uptoBulk d + uptoBulkAll r
def uptoBulkEntries {H : Type} : List (Lit × DataW H) → Nat
  | [] => 0
  | x :: r => uptoBulkEntry x + uptoBulkEntries r
def uptoBulkEntry {H : Type} : Lit × DataW H → Nat
  | (.string bytes, d) => bytes.length + uptoBulk d + 1
  | (_, d) => uptoBulk d + 1
 end
def uptoSmall : (H : Type) → List (DataW H) → Bool := fun _ ds => decide (uptoBulkAll ds ≤ 1048576)
def OpenSpec.upto (s : _root_.Go.ChangeSpec) : _root_.Go.OpenSpec := { _root_.Go.OpenSpec.ofChange s with cond := some uptoSmall }

/-- 'keyholelaw36.AbstractRuns', WHERE WHAT IT READS IS OF BULK AT MOST 1048576: true; the input reads as it did. -/
def abstractRunsUptoRow : OpenClaim := { program := "ytaonipoflmbhgaagreat", sum := "0da439c58215dbe1d7ed1c3a9489bc9ef9b07af5350aed837b3dab7264d44a81", func := "keyhole/keyholelaw36.AbstractRuns", spec := "abstractRuns", unfollowed := true, recurses := true, named := ["math/bits.divideError", "math/bits.overflowError"], loops := true, apart := false, narrowed := true }
def AbstractRunsUptoSaid : Prop := abstractRunsUptoRow.holds Tryz.pinned (OpenSpec.upto abstractRunsSpec)

/-- 'keyholelaw36.AbstractWholes', WHERE WHAT IT READS IS OF BULK AT MOST 1048576: true; the input reads as it did. -/
def abstractWholesUptoRow : OpenClaim := { program := "ytaonipoflmbhgaagreat", sum := "0da439c58215dbe1d7ed1c3a9489bc9ef9b07af5350aed837b3dab7264d44a81", func := "keyhole/keyholelaw36.AbstractWholes", spec := "abstractWholes", unfollowed := true, recurses := true, named := ["math/bits.divideError", "math/bits.overflowError"], loops := true, apart := false, narrowed := true }
def AbstractWholesUptoSaid : Prop := abstractWholesUptoRow.holds Tryz.pinned (OpenSpec.upto abstractWholesSpec)

/-- 'keyholelaw36.AbstractHas', WHERE WHAT IT READS IS OF BULK AT MOST 1048576: true; the input reads as it did. -/
def abstractHasUptoRow : OpenClaim := { program := "ytaonipoflmbhgaagreat", sum := "0da439c58215dbe1d7ed1c3a9489bc9ef9b07af5350aed837b3dab7264d44a81", func := "keyhole/keyholelaw36.AbstractHas", spec := "abstractHas", unfollowed := true, recurses := true, named := ["math/bits.divideError", "math/bits.overflowError"], apart := false, narrowed := true }
def AbstractHasUptoSaid : Prop := abstractHasUptoRow.holds Tryz.pinned (OpenSpec.upto abstractHasSpec)

/-- 'keyholelaw36.AbstractSound', WHERE WHAT IT READS IS OF BULK AT MOST 1048576: true; the input reads as it did. -/
def abstractSoundUptoRow : OpenClaim := { program := "ytaonipoflmbhgaagreat", sum := "0da439c58215dbe1d7ed1c3a9489bc9ef9b07af5350aed837b3dab7264d44a81", func := "keyhole/keyholelaw36.AbstractSound", spec := "abstractSound", unfollowed := true, recurses := true, named := ["math/bits.divideError", "math/bits.overflowError"], loops := true, apart := false, narrowed := true }
def AbstractSoundUptoSaid : Prop := abstractSoundUptoRow.holds Tryz.pinned (OpenSpec.upto abstractSoundSpec)

/-- 'keyholelaw36.AbstractExact', WHERE WHAT IT READS IS OF BULK AT MOST 1048576: true; the input reads as it did. -/
def abstractExactUptoRow : OpenClaim := { program := "ytaonipoflmbhgaagreat", sum := "0da439c58215dbe1d7ed1c3a9489bc9ef9b07af5350aed837b3dab7264d44a81", func := "keyhole/keyholelaw36.AbstractExact", spec := "abstractExact", unfollowed := true, recurses := true, named := ["math/bits.divideError", "math/bits.overflowError"], loops := true, apart := false, narrowed := true }
def AbstractExactUptoSaid : Prop := abstractExactUptoRow.holds Tryz.pinned (OpenSpec.upto abstractExactSpec)

/-- 'keyholelaw36.AbstractBounds', WHERE WHAT IT READS IS OF BULK AT MOST 1048576: true; the input reads as it did. -/
def abstractBoundsUptoRow : OpenClaim := { program := "ytaonipoflmbhgaagreat", sum := "0da439c58215dbe1d7ed1c3a9489bc9ef9b07af5350aed837b3dab7264d44a81", func := "keyhole/keyholelaw36.AbstractBounds", spec := "abstractBounds", unfollowed := true, recurses := true, named := ["math/bits.divideError", "math/bits.overflowError"], loops := true, apart := false, narrowed := true }
def AbstractBoundsUptoSaid : Prop := abstractBoundsUptoRow.holds Tryz.pinned (OpenSpec.upto abstractBoundsSpec)

/-- 'keyholelaw36.AbstractCovers', WHERE WHAT IT READS IS OF BULK AT MOST 1048576: true; the input reads as it did. -/
def abstractCoversUptoRow : OpenClaim := { program := "ytaonipoflmbhgaagreat", sum := "0da439c58215dbe1d7ed1c3a9489bc9ef9b07af5350aed837b3dab7264d44a81", func := "keyhole/keyholelaw36.AbstractCovers", spec := "abstractCovers", unfollowed := true, recurses := true, named := ["math/bits.divideError", "math/bits.overflowError"], loops := true, apart := false, narrowed := true }
def AbstractCoversUptoSaid : Prop := abstractCoversUptoRow.holds Tryz.pinned (OpenSpec.upto abstractCoversSpec)

end Rows
end Go.Proofs.YtaonipoflmbhgaaGreat
