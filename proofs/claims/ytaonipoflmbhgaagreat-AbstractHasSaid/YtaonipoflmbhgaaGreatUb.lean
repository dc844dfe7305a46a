/- known: it is so. -/
import Derived.Test.YtaonipoflmbhgaaGreatUa
set_option linter.unusedSectionVars false
set_option linter.unusedVariables false
set_option linter.unusedSimpArgs false
namespace Go.Proofs.YtaonipoflmbhgaaGreat
open Go Go.Iv
theorem t10 : callN Tryz.prog or0 (fun _ => false) 300 60 Bool 10 [] [] 0 (kRes asB) = some true := by kernel_rfl
theorem fn10 : fnOk Tryz.prog 10 ∧ Iv.Fn Tryz.prog 10 [] [] (fun v s => v = .b true ∧ s = []) := fn_run (callN_ok or0_ok 300 60) P0.b rfl (fun d hd => by cases hd) t10
end Go.Proofs.YtaonipoflmbhgaaGreat
