/- From a function's contract to its law. Program-independent. -/
import Derived.Test.YtfipaakafcjjhaaAb8
namespace Go.Ab
open Go Go.RowKit
theorem fn_law {P : Program} {f : FuncId} {args : List AV} (h : Ab.Fn P f args [] (fun a s => a = .b true ∧ s = [])) {A : Nat → Prop} {w : World} {vs : List Value} (hr : RelL A w args vs) :
    Calls P f vs.toArray w fun e w' => ∃ v, e = .returned v ∧ v = .bool true ∧ Below w.heap.size w w' :=
  (h w A vs hr ⟨fun r hr => by simp at hr, fun b hb => by simp [blks] at hb⟩ (by simp [blks])).mono fun e w' ⟨v, av, σ', h1, ⟨h2, h3⟩, h4, h5⟩ => by
    subst h2
    exact ⟨v, h1, h5.litEq, h4.kp.below⟩
end Go.Ab
