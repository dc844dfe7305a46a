/- Functions without loops. -/
import Derived.Test.YtaonipoflmbhgaaGreatUa
set_option linter.unusedSectionVars false
set_option linter.unusedVariables false
set_option linter.unusedSimpArgs false
namespace Go.Proofs.YtaonipoflmbhgaaGreat
open Go Go.Iv
noncomputable def t66 (a : Num) (n : Int) : Option Bool :=
  bif bif decide (a.1 = 1) then bif decide (a.2 = 0) then bif decide (a.3 = 0) then true else false else false else false then
    bif bif decide (a.1 = 1) then bif decide (a.2 = 0) then bif decide (a.3 = 0) then true else false else false else false then some false
    else
      bif decide (n < a.1) then some false
      else
        bif decide (a.2 < n) then some false
        else bif decide (a.3 = 0) then some true else if ¬a.fStep = 0 then some (decide ((IntKind.i64.wrap (n - a.1)).tmod a.3 = 0)) else none
  else
    bif decide (-1099511627776 ≤ a.1) then
      bif bif decide (a.1 ≤ 1099511627776) then false else true then some false
      else
        bif decide (-1099511627776 ≤ a.2) then
          bif bif decide (a.2 ≤ 1099511627776) then false else true then some false
          else
            bif decide (a.2 < a.1) then some false
            else
              bif decide (a.1 = a.2) then
                bif decide (a.3 = 0) then
                  bif bif decide (a.1 = 1) then bif decide (a.2 = 0) then bif decide (a.3 = 0) then true else false else false else false then
                    some false
                  else
                    bif decide (n < a.1) then some false
                    else
                      bif decide (a.2 < n) then some false
                      else bif decide (a.3 = 0) then some true else if ¬a.fStep = 0 then some (decide ((IntKind.i64.wrap (n - a.1)).tmod a.3 = 0)) else none
                else some false
              else
                bif decide (1 ≤ a.3) then
                  if ¬a.fStep = 0 then
                    bif decide ((IntKind.i64.wrap (a.2 - a.1)).tmod a.3 = 0) then
                      bif bif decide (a.1 = 1) then bif decide (a.2 = 0) then bif decide (a.3 = 0) then true else false else false else false then
                        some false
                      else
                        bif decide (n < a.1) then some false
                        else
                          bif decide (a.2 < n) then some false
                          else bif decide (a.3 = 0) then some true else if ¬a.fStep = 0 then some (decide ((IntKind.i64.wrap (n - a.1)).tmod a.3 = 0)) else none
                    else some false
                  else none
                else some false
        else some false
    else some false
theorem c66 (a : Num) (n : Int) : callN Tryz.prog or0 (fun _ => false) 300 20 Bool 66 [.agg (uni.cells 34 a), .n .i64 n] [] 0 (kRes asB) = t66 a n := by kernel_rfl
noncomputable def t30 (a : Num) (n : Int) : Option Bool :=
  bif bif decide (a.1 = 1) then bif decide (a.2 = 0) then bif decide (a.3 = 0) then true else false else false else false then
    bif decide (n < a.1) then some false
    else
      bif decide (a.2 < n) then some false
      else bif decide (a.3 = 0) then some true else if ¬a.fStep = 0 then some (decide ((IntKind.i64.wrap (n - a.1)).tmod a.3 = 0)) else none
  else
    bif decide (-1099511627776 ≤ a.1) then
      bif bif decide (a.1 ≤ 1099511627776) then false else true then some false
      else
        bif decide (-1099511627776 ≤ a.2) then
          bif bif decide (a.2 ≤ 1099511627776) then false else true then some false
          else
            bif decide (a.1 = a.2) then
              bif bif decide (a.3 = 0) then false else true then some false
              else
                bif decide (n < a.1) then some false
                else
                  bif decide (a.2 < n) then some false
                  else bif decide (a.3 = 0) then some true else if ¬a.fStep = 0 then some (decide ((IntKind.i64.wrap (n - a.1)).tmod a.3 = 0)) else none
            else
              bif decide (a.1 < a.2) then
                bif decide (1 ≤ a.3) then
                  if ¬a.fStep = 0 then
                    bif bif decide ((IntKind.i64.wrap (a.2 - a.1)).tmod a.3 = 0) then false else true then some false
                    else
                      bif decide (n < a.1) then some false
                      else
                        bif decide (a.2 < n) then some false
                        else bif decide (a.3 = 0) then some true else if ¬a.fStep = 0 then some (decide ((IntKind.i64.wrap (n - a.1)).tmod a.3 = 0)) else none
                  else none
                else some false
              else some false
        else some false
    else some false
theorem c30 (a : Num) (n : Int) : callN Tryz.prog or0 (fun _ => false) 300 20 Bool 30 [.agg (uni.cells 34 a), .n .i64 n] [] 0 (kRes asB) = t30 a n := by kernel_rfl

theorem t30_some (a : Num) (n : Int) : ∃ b, t30 a n = some b := by
  unfold t30
  generalize IntKind.i64.wrap (a.fHigh - a.fLow) = u
  generalize IntKind.i64.wrap (n - a.fLow) = v
  simp only [Bool.cond_decide, Bool.cond_eq_ite, decide_eq_true_eq, Bool.ite_eq_true_distrib, if_false_right, if_false_left, if_true_left, if_true_right, and_true, Bool.false_eq_true, reduceIte, true_and, eq_self, imp_false, not_true, not_false_eq_true]
  generalize v.tmod a.fStep = v'
  generalize u.tmod a.fStep = u'
  generalize a.fLow = x, a.fHigh = y, a.fStep = z
  by_cases h1 : z = 0
  · subst h1; simp; repeat' split
    all_goals first | exact ⟨_, rfl⟩ | simp
  · simp only [h1, and_false, reduceIte, not_false_eq_true]; repeat' split
    all_goals first | exact ⟨_, rfl⟩ | simp
theorem t66_eq (a : Num) (n : Int) : t66 a n = t30 a n := by
  unfold t30 t66
  generalize IntKind.i64.wrap (a.fHigh - a.fLow) = u
  generalize IntKind.i64.wrap (n - a.fLow) = v
  simp only [Bool.cond_decide, Bool.cond_eq_ite, decide_eq_true_eq, Bool.ite_eq_true_distrib, if_false_right, if_false_left, if_true_left, if_true_right, and_true, Bool.false_eq_true, reduceIte, true_and, eq_self, imp_false, not_true, not_false_eq_true]
  grind
end Go.Proofs.YtaonipoflmbhgaaGreat
