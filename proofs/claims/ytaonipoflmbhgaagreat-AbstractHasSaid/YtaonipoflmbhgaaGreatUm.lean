/- The law AbstractHas. -/
import Derived.Test.YtaonipoflmbhgaaGreatUl
import Derived.Test.YtaonipoflmbhgaaGreatUb
set_option linter.unusedSectionVars false
set_option linter.unusedVariables false
set_option linter.unusedSimpArgs false
namespace Go.Proofs.YtaonipoflmbhgaaGreat
open Go Go.Iv
theorem pkU : Pk pkN (fun _ => []) := .nil
noncomputable def F5 : Orc := orC 10 pkN (fun _ => .b true) (orC 21 rdAO (fun g => .b (modH g.1 g.2.1)) (orC 22 rdAO (fun g => .b (modH g.1 g.2.1)) or0))
theorem F5_ok : OrcOk Tryz.prog F5 := orC_ok (orC_ok (orC_ok or0_ok fnok22 pkAO (fun _ => rfl) fun g => fn22 _ _) fnok21 pkAO (fun _ => rfl) fun g => fn21 _ _) fn10.1 pkU (fun _ => rfl) fun _ => fn10.2
noncomputable def t5 (a : Abstract) (o : Observation) : Option Bool :=
  bif decide (20 < (a.fSlots.length : Int)) then some true
  else bif decide (20 < (o.fOutputs.length : Int)) then some true
  else some (modH a o == modH a o)
theorem c5 (a : Abstract) (o : Observation) : callN Tryz.prog F5 (fun f => Nat.beq f 10 || Nat.beq f 21 || Nat.beq f 22) 300 5 Bool 5 [.agg (uni.cells 36 a), .agg (uni.cells 51 o)] [] 0 (kRes asB) = t5 a o := by kernel_rfl
theorem t5_eq (a : Abstract) (o : Observation) : t5 a o = some true := by
  unfold t5
  by_cases h1 : 20 < (a.fSlots.length : Int)
  · rw [decide_eq_true h1]; rfl
  · by_cases h2 : 20 < (o.fOutputs.length : Int)
    · rw [decide_eq_false h1, decide_eq_true h2]; rfl
    · rw [decide_eq_false h1, decide_eq_false h2]
      simp
theorem fn5 (a : Abstract) (o : Observation) : Iv.Fn Tryz.prog 5 [.agg (uni.cells 36 a), .agg (uni.cells 51 o)] [] (fun v s => v = .b true ∧ s = []) :=
  (fn_run (callN_ok F5_ok 300 5) P0.b rfl (ltdAO a o) ((c5 a o).trans (t5_eq a o))).2
end Go.Proofs.YtaonipoflmbhgaaGreat
