/- What has no data in it. -/
import Derived.Test.YtgdahkddhecloaaUa
import Derived.Test.YtgdahkddhecloaaIx4
set_option linter.unusedSectionVars false
set_option linter.unusedVariables false
set_option linter.unusedSimpArgs false
namespace Go.Proofs.Ytgdahkddhecloaa
open Go Go.Iv
def scK : Ky → Bool
  | .k3 => true
  | .k4 => true
  | .k5 => true
  | .k22 => true
  | .k23 => true
  | _ => false
def scU (t : Nat) : Bool := scK (ky t)
theorem scK_ok : (k : Ky) → scK k = true → (x : datK k) → ClL (cellsK k x) := by
  intro k h x
  cases k <;> first | (cases h; done) | exact clL_lit _ rfl
theorem scU_ok (t : Nat) (h : scU t = true) (x : uni.Dat t) : ClL (uni.cells t x) := scK_ok (ky t) h x
end Go.Proofs.Ytgdahkddhecloaa
