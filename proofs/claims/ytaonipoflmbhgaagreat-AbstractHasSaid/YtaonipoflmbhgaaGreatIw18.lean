/- The notes on a function's code, one by one. Program-independent. -/
import Derived.Test.YtaonipoflmbhgaaGreatIw17
set_option linter.unusedSectionVars false
set_option linter.unusedVariables false
set_option linter.unusedSimpArgs false
namespace Go.Iv
variable [U : Uni] [L : UniL]
open Go Go.RowKit

noncomputable def obls (c : Code) : An → List (Code × An) :=
  Code.rec (fun _ => []) (fun _ _ _ _ => []) (fun _ _ x y an => x an.l ++ y an.r) (fun _ _ _ x y an => (match an with
      | .jn γ rd pat l r => [(.skip, .jn γ rd pat l r)]
      | _ => []) ++ (x an.l ++ y an.r)) (fun _ _ x => x)
    (fun c x an => match an with
      | .lp γ rd pat adv b => (c, .lp γ rd pat adv b) :: x b
      | an => x an) (fun _ _ _ _ _ _ _ => []) (fun _ _ => []) (fun _ _ _ => []) (fun _ _ => []) (fun _ _ => []) (fun _ => []) (fun _ _ => []) c
def OblOk (P : Program) (F : Orc) (n : Nat) (fuel : Nat) (p : Code × An) : Prop := match p.2 with
  | .lp _ rd pat adv b => RdOk n rd pat ∧ AdvOk (execA P F n fuel p.1) rd pat adv b
  | .jn _ rd pat _ _ => RdOk n rd pat
  | _ => True
theorem anOk_of {P : Program} {F : Orc} {n fuel : Nat} (c : Code) : ∀ an, (∀ p ∈ obls c an, OblOk P F n fuel p) → AnOk P F n fuel c an := by
  induction c with
  | seq x y hx hy =>
    intro an h
    exact ⟨hx an.l fun p hp => h p (List.mem_append_left _ hp), hy an.r fun p hp => h p (List.mem_append_right _ hp)⟩
  | cond c x y hx hy =>
    intro an h
    refine ⟨fun γ rd pat l r he => ?_, hx an.l fun p hp => h p (List.mem_append_right _ (List.mem_append_left _ hp)), hy an.r fun p hp => h p (List.mem_append_right _ (List.mem_append_right _ hp))⟩
    subst he
    exact h (.skip, .jn γ rd pat l r) (List.mem_append_left _ (List.mem_singleton.2 rfl))
  | block id x hx => exact fun an h => hx an h
  | loop c hc =>
    intro an h
    cases an with
    | lp γ rd pat adv b =>
      have h0 := h (c, .lp γ rd pat adv b) List.mem_cons_self
      exact ⟨h0.1, h0.2, hc b fun p hp => h p (List.mem_cons_of_mem _ hp)⟩
    | no => exact hc _ h
    | two l r => exact hc _ h
    | jn γ rd pat l r => exact hc _ h
  | _ => exact fun an h => trivial
theorem fnAn_of {P : Program} {F : Orc} {fuel f : Nat} {fn : Func} {c : Code} {an : An} {l : List (Code × An)} (hf : P.funcs[f]? = some fn) (hb : fn.body = some c) (ho : obls c an = l) (h : ∀ p ∈ l, OblOk P F fn.ntmps fuel p) : FnAn P F fuel f an := fun fn' c' h1 h2 => by
  rw [hf] at h1
  cases h1
  rw [hb] at h2
  cases h2
  exact anOk_of c an (by rw [ho]; exact h)
noncomputable def bodyOf (fn : Func) : Code := match fn.body with
  | some c => c
  | none => .skip
theorem bodyOf_eq {fn : Func} (h : fn.body.isNone = false) : fn.body = some (bodyOf fn) := by
  unfold bodyOf
  cases hb : fn.body with
  | none => rw [hb] at h; cases h
  | some c => rfl
noncomputable def loopsOf (c : Code) : List Code := Code.rec [] (fun _ _ _ => []) (fun _ _ x y => x ++ y) (fun _ _ _ x y => x ++ y) (fun _ _ x => x) (fun c x => c :: x) (fun _ _ _ _ _ _ => []) (fun _ => []) (fun _ _ => []) (fun _ => []) (fun _ => []) [] (fun _ => []) c
noncomputable def loopAt (fn : Func) (i : Nat) : Code := (loopsOf (bodyOf fn)).getD i .skip
end Go.Iv
