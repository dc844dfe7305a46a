/-
  NARROWER THAN 'FOR EVERY INPUT', by the rows' own cells (each row's printed sentence says how): SymbolicLayout: loops · SymbolicDomain: loops · SymbolicSecrets: loops · SymbolicEncodes: loops · SymbolicDecodes: loops · SymbolicCounts: loops · SymbolicFinals: loops · SymbolicMultiplicities: loops · SymbolicRuns: loops.
  DERIVED. THE GIVEN ROWS OF THIS SEAT. 9 by the template 'for every input the law returns true; each argument reads behind the call as it read before'; 0 by the template 'total and deterministic' (their statements: YtghilkcphindjaaGreatTotals.lean).
  GIVEN WITH THE SEED: the statements are not yours to turn. If you find one false, say at which input.
  Laid BY PROGRAM, IN A SANDBOX (cutbox-rows.mjs): the forced cells as the released guide's own fill.sh prints them over the translation e6fd4bca7dd8e632… (all of the seat's roots in one cut). By AI agents, Wed Nov 11 2026. No macro, syntax, notation, axiom, sorry.
-/
import Derived.Test.YtghilkcphindjaaGreatChecked
import GoSem.Claim
import GoSem.ClaimJoined
import GoSem.ClaimMapViews
import Derived.JoinedTies
import Derived.KernelRfl
namespace Go.Proofs.YtghilkcphindjaaGreat
/- THE CELL 'sum', in the pinned program and in every row, IS THE sha256 OF THE DUMP (.gsa) THAT YtghilkcphindjaaGreatProg.lean LOADS. Nothing in Lean hashes anything: it is a label: what it is worth is what the hold of that sum in a sandbox is worth. -/
noncomputable def Tryz.pinned : Pinned := { name := "ytghilkcphindjaagreat", sum := "e6fd4bca7dd8e632fc993ef574774c04c40efd71ce5923d670e9b9edb9fd108c", checked := Tryz.checked }
namespace Rows
def none {H : Type} : Left H := { results := [], args := [] }

/-- 'keyholelaw29.SymbolicLayout': WHATEVER THE INPUT: true; the input reads as it did. -/
def symbolicLayoutSpec : ChangeSpec := { name := "symbolicLayout", fn := fun _ => fun
  | [d] => { results := [.lit (.bool true)], args := [d] }
  | _ => none }
def symbolicLayoutRow : OpenClaim := { program := "ytghilkcphindjaagreat", sum := "e6fd4bca7dd8e632fc993ef574774c04c40efd71ce5923d670e9b9edb9fd108c", func := "keyhole/keyholelaw29.SymbolicLayout", spec := "symbolicLayout", unfollowed := true, recurses := true, loops := true, plainKeys := false, apart := false }
def SymbolicLayoutSaid : Prop := symbolicLayoutRow.holds Tryz.pinned (OpenSpec.ofChange symbolicLayoutSpec)

/-- ITS FALSE NEIGHBOUR: 'it returns false'. Refute it at one input. -/
def symbolicLayoutWrong : ChangeSpec := { name := "symbolicLayout", fn := fun _ => fun
  | [d] => { results := [.lit (.bool false)], args := [d] }
  | _ => none }
def SymbolicLayoutWrongFalsely : Prop := symbolicLayoutRow.holds Tryz.pinned (OpenSpec.ofChange symbolicLayoutWrong)

/-- 'keyholelaw29.SymbolicDomain': WHATEVER THE INPUT: true; the input reads as it did. -/
def symbolicDomainSpec : ChangeSpec := { name := "symbolicDomain", fn := fun _ => fun
  | [d] => { results := [.lit (.bool true)], args := [d] }
  | _ => none }
def symbolicDomainRow : OpenClaim := { program := "ytghilkcphindjaagreat", sum := "e6fd4bca7dd8e632fc993ef574774c04c40efd71ce5923d670e9b9edb9fd108c", func := "keyhole/keyholelaw29.SymbolicDomain", spec := "symbolicDomain", unfollowed := true, recurses := true, loops := true, plainKeys := false, apart := false }
def SymbolicDomainSaid : Prop := symbolicDomainRow.holds Tryz.pinned (OpenSpec.ofChange symbolicDomainSpec)

/-- ITS FALSE NEIGHBOUR: 'it returns false'. Refute it at one input. -/
def symbolicDomainWrong : ChangeSpec := { name := "symbolicDomain", fn := fun _ => fun
  | [d] => { results := [.lit (.bool false)], args := [d] }
  | _ => none }
def SymbolicDomainWrongFalsely : Prop := symbolicDomainRow.holds Tryz.pinned (OpenSpec.ofChange symbolicDomainWrong)

/-- 'keyholelaw29.SymbolicSecrets': WHATEVER THE INPUT: true; the input reads as it did. -/
def symbolicSecretsSpec : ChangeSpec := { name := "symbolicSecrets", fn := fun _ => fun
  | [d1, d2, d3] => { results := [.lit (.bool true)], args := [d1, d2, d3] }
  | _ => none }
def symbolicSecretsRow : OpenClaim := { program := "ytghilkcphindjaagreat", sum := "e6fd4bca7dd8e632fc993ef574774c04c40efd71ce5923d670e9b9edb9fd108c", func := "keyhole/keyholelaw29.SymbolicSecrets", spec := "symbolicSecrets", unfollowed := true, recurses := true, loops := true, plainKeys := false, apart := false }
def SymbolicSecretsSaid : Prop := symbolicSecretsRow.holds Tryz.pinned (OpenSpec.ofChange symbolicSecretsSpec)

/-- ITS FALSE NEIGHBOUR: 'it returns false'. Refute it at one input. -/
def symbolicSecretsWrong : ChangeSpec := { name := "symbolicSecrets", fn := fun _ => fun
  | [d1, d2, d3] => { results := [.lit (.bool false)], args := [d1, d2, d3] }
  | _ => none }
def SymbolicSecretsWrongFalsely : Prop := symbolicSecretsRow.holds Tryz.pinned (OpenSpec.ofChange symbolicSecretsWrong)

/-- 'keyholelaw29.SymbolicEncodes': WHATEVER THE INPUT: true; the input reads as it did. -/
def symbolicEncodesSpec : ChangeSpec := { name := "symbolicEncodes", fn := fun _ => fun
  | [d1, d2, d3] => { results := [.lit (.bool true)], args := [d1, d2, d3] }
  | _ => none }
def symbolicEncodesRow : OpenClaim := { program := "ytghilkcphindjaagreat", sum := "e6fd4bca7dd8e632fc993ef574774c04c40efd71ce5923d670e9b9edb9fd108c", func := "keyhole/keyholelaw29.SymbolicEncodes", spec := "symbolicEncodes", unfollowed := true, recurses := true, loops := true, plainKeys := false, apart := false }
def SymbolicEncodesSaid : Prop := symbolicEncodesRow.holds Tryz.pinned (OpenSpec.ofChange symbolicEncodesSpec)

/-- ITS FALSE NEIGHBOUR: 'it returns false'. Refute it at one input. -/
def symbolicEncodesWrong : ChangeSpec := { name := "symbolicEncodes", fn := fun _ => fun
  | [d1, d2, d3] => { results := [.lit (.bool false)], args := [d1, d2, d3] }
  | _ => none }
def SymbolicEncodesWrongFalsely : Prop := symbolicEncodesRow.holds Tryz.pinned (OpenSpec.ofChange symbolicEncodesWrong)

/-- 'keyholelaw29.SymbolicDecodes': WHATEVER THE INPUT: true; the input reads as it did. -/
def symbolicDecodesSpec : ChangeSpec := { name := "symbolicDecodes", fn := fun _ => fun
  | [d1, d2] => { results := [.lit (.bool true)], args := [d1, d2] }
  | _ => none }
def symbolicDecodesRow : OpenClaim := { program := "ytghilkcphindjaagreat", sum := "e6fd4bca7dd8e632fc993ef574774c04c40efd71ce5923d670e9b9edb9fd108c", func := "keyhole/keyholelaw29.SymbolicDecodes", spec := "symbolicDecodes", unfollowed := true, recurses := true, loops := true, plainKeys := false, apart := false }
def SymbolicDecodesSaid : Prop := symbolicDecodesRow.holds Tryz.pinned (OpenSpec.ofChange symbolicDecodesSpec)

/-- ITS FALSE NEIGHBOUR: 'it returns false'. Refute it at one input. -/
def symbolicDecodesWrong : ChangeSpec := { name := "symbolicDecodes", fn := fun _ => fun
  | [d1, d2] => { results := [.lit (.bool false)], args := [d1, d2] }
  | _ => none }
def SymbolicDecodesWrongFalsely : Prop := symbolicDecodesRow.holds Tryz.pinned (OpenSpec.ofChange symbolicDecodesWrong)

/-- 'keyholelaw29.SymbolicCounts': WHATEVER THE INPUT: true; the input reads as it did. -/
def symbolicCountsSpec : ChangeSpec := { name := "symbolicCounts", fn := fun _ => fun
  | [d1, d2] => { results := [.lit (.bool true)], args := [d1, d2] }
  | _ => none }
def symbolicCountsRow : OpenClaim := { program := "ytghilkcphindjaagreat", sum := "e6fd4bca7dd8e632fc993ef574774c04c40efd71ce5923d670e9b9edb9fd108c", func := "keyhole/keyholelaw29.SymbolicCounts", spec := "symbolicCounts", inPlace := ["slices.overlaps[keyhole/api.Observation]"], unfollowed := true, recurses := true, loops := true, plainKeys := false, apart := false }
def SymbolicCountsSaid : Prop := symbolicCountsRow.holds Tryz.pinned (OpenSpec.ofChange symbolicCountsSpec)

/-- ITS FALSE NEIGHBOUR: 'it returns false'. Refute it at one input. -/
def symbolicCountsWrong : ChangeSpec := { name := "symbolicCounts", fn := fun _ => fun
  | [d1, d2] => { results := [.lit (.bool false)], args := [d1, d2] }
  | _ => none }
def SymbolicCountsWrongFalsely : Prop := symbolicCountsRow.holds Tryz.pinned (OpenSpec.ofChange symbolicCountsWrong)

/-- 'keyholelaw29.SymbolicFinals': WHATEVER THE INPUT: true; the input reads as it did. -/
def symbolicFinalsSpec : ChangeSpec := { name := "symbolicFinals", fn := fun _ => fun
  | [d1, d2, d3] => { results := [.lit (.bool true)], args := [d1, d2, d3] }
  | _ => none }
def symbolicFinalsRow : OpenClaim := { program := "ytghilkcphindjaagreat", sum := "e6fd4bca7dd8e632fc993ef574774c04c40efd71ce5923d670e9b9edb9fd108c", func := "keyhole/keyholelaw29.SymbolicFinals", spec := "symbolicFinals", unfollowed := true, recurses := true, loops := true, plainKeys := false, apart := false }
def SymbolicFinalsSaid : Prop := symbolicFinalsRow.holds Tryz.pinned (OpenSpec.ofChange symbolicFinalsSpec)

/-- ITS FALSE NEIGHBOUR: 'it returns false'. Refute it at one input. -/
def symbolicFinalsWrong : ChangeSpec := { name := "symbolicFinals", fn := fun _ => fun
  | [d1, d2, d3] => { results := [.lit (.bool false)], args := [d1, d2, d3] }
  | _ => none }
def SymbolicFinalsWrongFalsely : Prop := symbolicFinalsRow.holds Tryz.pinned (OpenSpec.ofChange symbolicFinalsWrong)

/-- 'keyholelaw29.SymbolicMultiplicities': WHATEVER THE INPUT: true; the input reads as it did. -/
def symbolicMultiplicitiesSpec : ChangeSpec := { name := "symbolicMultiplicities", fn := fun _ => fun
  | [d1, d2, d3] => { results := [.lit (.bool true)], args := [d1, d2, d3] }
  | _ => none }
def symbolicMultiplicitiesRow : OpenClaim := { program := "ytghilkcphindjaagreat", sum := "e6fd4bca7dd8e632fc993ef574774c04c40efd71ce5923d670e9b9edb9fd108c", func := "keyhole/keyholelaw29.SymbolicMultiplicities", spec := "symbolicMultiplicities", unfollowed := true, recurses := true, loops := true, plainKeys := false, apart := false }
def SymbolicMultiplicitiesSaid : Prop := symbolicMultiplicitiesRow.holds Tryz.pinned (OpenSpec.ofChange symbolicMultiplicitiesSpec)

/-- ITS FALSE NEIGHBOUR: 'it returns false'. Refute it at one input. -/
def symbolicMultiplicitiesWrong : ChangeSpec := { name := "symbolicMultiplicities", fn := fun _ => fun
  | [d1, d2, d3] => { results := [.lit (.bool false)], args := [d1, d2, d3] }
  | _ => none }
def SymbolicMultiplicitiesWrongFalsely : Prop := symbolicMultiplicitiesRow.holds Tryz.pinned (OpenSpec.ofChange symbolicMultiplicitiesWrong)

/-- 'keyholelaw29.SymbolicRuns': WHATEVER THE INPUT: true; the input reads as it did. -/
def symbolicRunsSpec : ChangeSpec := { name := "symbolicRuns", fn := fun _ => fun
  | [d1, d2] => { results := [.lit (.bool true)], args := [d1, d2] }
  | _ => none }
def symbolicRunsRow : OpenClaim := { program := "ytghilkcphindjaagreat", sum := "e6fd4bca7dd8e632fc993ef574774c04c40efd71ce5923d670e9b9edb9fd108c", func := "keyhole/keyholelaw29.SymbolicRuns", spec := "symbolicRuns", inPlace := ["slices.overlaps[keyhole/api.Observation]"], unfollowed := true, recurses := true, loops := true, plainKeys := false, apart := false }
def SymbolicRunsSaid : Prop := symbolicRunsRow.holds Tryz.pinned (OpenSpec.ofChange symbolicRunsSpec)

/-- ITS FALSE NEIGHBOUR: 'it returns false'. Refute it at one input. -/
def symbolicRunsWrong : ChangeSpec := { name := "symbolicRuns", fn := fun _ => fun
  | [d1, d2] => { results := [.lit (.bool false)], args := [d1, d2] }
  | _ => none }
def SymbolicRunsWrongFalsely : Prop := symbolicRunsRow.holds Tryz.pinned (OpenSpec.ofChange symbolicRunsWrong)

/- THE SECOND FORM. 'bulk': how many values and letters a reading holds, each counted each time it is reached (what is shared counts as often as it is met; a slice's spare places count too). A statement '..UptoSaid' is the law's where the arguments, and the package variables that the reading takes, are together of bulk at most 1048576: NARROWER than '..Said'. Prove '..Said' where nothing that the law and all that it calls make is longer than what came in: it says more and counts as full. Else prove '..UptoSaid'. A law counts once. -/
mutual
def uptoBulk {H : Type} : DataW H → Nat
  | .lit (.string bytes) => bytes.length + 1
  | .lit _ => 1
  | .nil => 1
  | .ptr d => uptoBulk d + 1
  | .slice elems spare => uptoBulkAll elems + uptoBulkAll spare + 1
  | .agg parts => uptoBulkAll parts + 1
  | .iface _ d => uptoBulk d + 1
  | .map entries => uptoBulkEntries entries + 1
  | .held _ => 1
def uptoBulkAll {H : Type} : List (DataW H) → Nat
  | [] => 0
  | d :: r => uptoBulk d + uptoBulkAll r
def uptoBulkEntries {H : Type} : List (Lit × DataW H) → Nat
  | [] => 0
  | x :: r => uptoBulkEntry x + uptoBulkEntries r
def uptoBulkEntry {H : Type} : Lit × DataW H → Nat
  | (.string bytes, d) => bytes.length + uptoBulk d + 1
  | (_, d) => uptoBulk d + 1
 end
def uptoSmall : (H : Type) → List (DataW H) → Bool := fun _ ds => decide (uptoBulkAll ds ≤ 1048576)
def OpenSpec.upto (s : _root_.Go.ChangeSpec) : _root_.Go.OpenSpec := { _root_.Go.OpenSpec.ofChange s with cond := some uptoSmall }

/-- 'keyholelaw29.SymbolicLayout', WHERE WHAT IT READS IS OF BULK AT MOST 1048576: true; the input reads as it did. -/
def symbolicLayoutUptoRow : OpenClaim := { program := "ytghilkcphindjaagreat", sum := "e6fd4bca7dd8e632fc993ef574774c04c40efd71ce5923d670e9b9edb9fd108c", func := "keyhole/keyholelaw29.SymbolicLayout", spec := "symbolicLayout", unfollowed := true, recurses := true, loops := true, plainKeys := false, apart := false, narrowed := true }
def SymbolicLayoutUptoSaid : Prop := symbolicLayoutUptoRow.holds Tryz.pinned (OpenSpec.upto symbolicLayoutSpec)

/-- 'keyholelaw29.SymbolicDomain', WHERE WHAT IT READS IS OF BULK AT MOST 1048576: true; the input reads as it did. -/
def symbolicDomainUptoRow : OpenClaim := { program := "ytghilkcphindjaagreat", sum := "e6fd4bca7dd8e632fc993ef574774c04c40efd71ce5923d670e9b9edb9fd108c", func := "keyhole/keyholelaw29.SymbolicDomain", spec := "symbolicDomain", unfollowed := true, recurses := true, loops := true, plainKeys := false, apart := false, narrowed := true }
def SymbolicDomainUptoSaid : Prop := symbolicDomainUptoRow.holds Tryz.pinned (OpenSpec.upto symbolicDomainSpec)

/-- 'keyholelaw29.SymbolicSecrets', WHERE WHAT IT READS IS OF BULK AT MOST 1048576: true; the input reads as it did. -/
def symbolicSecretsUptoRow : OpenClaim := { program := "ytghilkcphindjaagreat", sum := "e6fd4bca7dd8e632fc993ef574774c04c40efd71ce5923d670e9b9edb9fd108c", func := "keyhole/keyholelaw29.SymbolicSecrets", spec := "symbolicSecrets", unfollowed := true, recurses := true, loops := true, plainKeys := false, apart := false, narrowed := true }
def SymbolicSecretsUptoSaid : Prop := symbolicSecretsUptoRow.holds Tryz.pinned (OpenSpec.upto symbolicSecretsSpec)

/-- 'keyholelaw29.SymbolicEncodes', WHERE WHAT IT READS IS OF BULK AT MOST 1048576: true; the input reads as it did. -/
def symbolicEncodesUptoRow : OpenClaim := { program := "ytghilkcphindjaagreat", sum := "e6fd4bca7dd8e632fc993ef574774c04c40efd71ce5923d670e9b9edb9fd108c", func := "keyhole/keyholelaw29.SymbolicEncodes", spec := "symbolicEncodes", unfollowed := true, recurses := true, loops := true, plainKeys := false, apart := false, narrowed := true }
def SymbolicEncodesUptoSaid : Prop := symbolicEncodesUptoRow.holds Tryz.pinned (OpenSpec.upto symbolicEncodesSpec)

/-- 'keyholelaw29.SymbolicDecodes', WHERE WHAT IT READS IS OF BULK AT MOST 1048576: true; the input reads as it did. -/
def symbolicDecodesUptoRow : OpenClaim := { program := "ytghilkcphindjaagreat", sum := "e6fd4bca7dd8e632fc993ef574774c04c40efd71ce5923d670e9b9edb9fd108c", func := "keyhole/keyholelaw29.SymbolicDecodes", spec := "symbolicDecodes", unfollowed := true, recurses := true, loops := true, plainKeys := false, apart := false, narrowed := true }
def SymbolicDecodesUptoSaid : Prop := symbolicDecodesUptoRow.holds Tryz.pinned (OpenSpec.upto symbolicDecodesSpec)

/-- 'keyholelaw29.SymbolicCounts', WHERE WHAT IT READS IS OF BULK AT MOST 1048576: true; the input reads as it did. -/
def symbolicCountsUptoRow : OpenClaim := { program := "ytghilkcphindjaagreat", sum := "e6fd4bca7dd8e632fc993ef574774c04c40efd71ce5923d670e9b9edb9fd108c", func := "keyhole/keyholelaw29.SymbolicCounts", spec := "symbolicCounts", inPlace := ["slices.overlaps[keyhole/api.Observation]"], unfollowed := true, recurses := true, loops := true, plainKeys := false, apart := false, narrowed := true }
def SymbolicCountsUptoSaid : Prop := symbolicCountsUptoRow.holds Tryz.pinned (OpenSpec.upto symbolicCountsSpec)

/-- 'keyholelaw29.SymbolicFinals', WHERE WHAT IT READS IS OF BULK AT MOST 1048576: true; the input reads as it did. -/
def symbolicFinalsUptoRow : OpenClaim := { program := "ytghilkcphindjaagreat", sum := "e6fd4bca7dd8e632fc993ef574774c04c40efd71ce5923d670e9b9edb9fd108c", func := "keyhole/keyholelaw29.SymbolicFinals", spec := "symbolicFinals", unfollowed := true, recurses := true, loops := true, plainKeys := false, apart := false, narrowed := true }
def SymbolicFinalsUptoSaid : Prop := symbolicFinalsUptoRow.holds Tryz.pinned (OpenSpec.upto symbolicFinalsSpec)

/-- 'keyholelaw29.SymbolicMultiplicities', WHERE WHAT IT READS IS OF BULK AT MOST 1048576: true; the input reads as it did. -/
def symbolicMultiplicitiesUptoRow : OpenClaim := { program := "ytghilkcphindjaagreat", sum := "e6fd4bca7dd8e632fc993ef574774c04c40efd71ce5923d670e9b9edb9fd108c", func := "keyhole/keyholelaw29.SymbolicMultiplicities", spec := "symbolicMultiplicities", unfollowed := true, recurses := true, loops := true, plainKeys := false, apart := false, narrowed := true }
def SymbolicMultiplicitiesUptoSaid : Prop := symbolicMultiplicitiesUptoRow.holds Tryz.pinned (OpenSpec.upto symbolicMultiplicitiesSpec)

/-- 'keyholelaw29.SymbolicRuns', WHERE WHAT IT READS IS OF BULK AT MOST 1048576: true; the input reads as it did. -/
def symbolicRunsUptoRow : OpenClaim := { program := "ytghilkcphindjaagreat", sum := "e6fd4bca7dd8e632fc993ef574774c04c40efd71ce5923d670e9b9edb9fd108c", func := "keyhole/keyholelaw29.SymbolicRuns", spec := "symbolicRuns", inPlace := ["slices.overlaps[keyhole/api.Observation]"], unfollowed := true, recurses := true, loops := true, plainKeys := false, apart := false, narrowed := true }
def SymbolicRunsUptoSaid : Prop := symbolicRunsUptoRow.holds Tryz.pinned (OpenSpec.upto symbolicRunsSpec)

end Rows
end Go.Proofs.YtghilkcphindjaaGreat
