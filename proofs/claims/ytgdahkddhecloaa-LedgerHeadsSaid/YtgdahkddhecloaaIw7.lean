/- An interpreter over names of what is owned: code, loops, functions. Program-independent. -/
import Derived.Test.YtgdahkddhecloaaIw6
set_option linter.unusedSectionVars false
set_option linter.unusedVariables false
set_option linter.unusedSimpArgs false
namespace Go.Iv
variable [U : Uni] [L : UniL]
open Go Go.RowKit

/-! ### rounds of a loop -/

/-- At the end of a round of the loop over c. -/
def InL (P : Program) (c : Code) (Q : Exit → Act → World → Prop) (a : Act) (w : World) : Prop :=
  ∀ (b : Frame) (k : List Item) (cs : List Frame), ∃ e a' w', Q e a' w' ∧ Arrives P (lone (b.at a (.inLoop c :: k)) cs w) b k cs e a' w'

theorem inL_round {P : Program} {c : Code} {Q : Exit → Act → World → Prop} {a : Act} {w : World} (h : c.wp P (Exit.then (InL P c Q) Q) a w) (b : Frame) (k : List Item) (cs : List Frame) :
    ∃ e a' w', Q e a' w' ∧ Arrives P (lone (b.at a (.code c :: .inLoop c :: k)) cs w) b k cs e a' w' := by
  obtain ⟨e, a₁, w₁, hq, harr⟩ := h b (.inLoop c :: k) cs
  cases e with
  | normal =>
    obtain ⟨e₂, a₂, w₂, hq₂, harr₂⟩ := hq b k cs
    exact ⟨e₂, a₂, w₂, hq₂, .of_steps harr harr₂⟩
  | exit id => exact ⟨_, a₁, w₁, hq, .pass (x := .inLoop c) rfl (fun _ _ => .inl (by simp)) harr⟩
  | goto l => exact ⟨_, a₁, w₁, hq, .pass (x := .inLoop c) rfl (fun _ _ => .inl (by simp)) harr⟩
  | ret => exact ⟨_, a₁, w₁, hq, .pass (x := .inLoop c) rfl (fun _ _ => .inl (by simp)) harr⟩
  | panic ch => exact ⟨_, a₁, w₁, hq, .pass (x := .inLoop c) rfl (fun _ _ => .inl (by simp)) harr⟩
  | outgrown => exact ⟨_, a₁, w₁, hq, .pass (x := .inLoop c) rfl (fun _ _ => .inl (by simp)) harr⟩

theorem wp_unroll {P : Program} {c : Code} {Q : Exit → Act → World → Prop} {a : Act} {w : World} (h : c.wp P (Exit.then (InL P c Q) Q) a w) : (Code.loop c).wp P Q a w := fun b k cs =>
  let ⟨e, a', w', hq, harr⟩ := inL_round h b k cs
  ⟨e, a', w', hq, .of_steps (.one step_loop) harr⟩
theorem inL_step {P : Program} {c : Code} {Q : Exit → Act → World → Prop} {a : Act} {w : World} (h : c.wp P (Exit.then (InL P c Q) Q) a w) : InL P c Q a w := fun b k cs =>
  let ⟨e, a', w', hq, harr⟩ := inL_round h b k cs
  ⟨e, a', w', hq, .of_steps (.one step_inLoop) harr⟩

/-! ### code -/

section
variable {α : Type} {r : α} {P : Program} {F : Orc} {C : Cx} {n : Nat}

abbrev Kont (α : Type) := Exit → St → Option α

noncomputable def loopK (k : Kont α) (ih : St → Option α) : Kont α := fun e s => match e with
  | .normal => ih s
  | e => k e s
noncomputable def loopN (b : St → Kont α → Option α) (k : Kont α) (m : Nat) : St → Option α := Nat.rec (fun _ => none) (fun _ ih s => b s (loopK k ih)) m

noncomputable def condB (b : Bool) (t : Nat) (s : St) (x y : St → Option α) : Option α := match b with
  | true => x (s.putB t true)
  | false => y (s.putB t false)
noncomputable def condO (c : Operand) (s : St) (x y : St → Option α) : Option α := match c with
  | .tmp t => match eget s.E t with
    | some (.lit (.bool b)) => condB b t s x y
    | _ => none
  | .const (.bool true) => x s
  | .const (.bool false) => y s
  | _ => none

noncomputable def seqK (y : St → Kont α → Option α) (k : Kont α) : Kont α := fun e s => match e with
  | .normal => y s k
  | e => k e s
noncomputable def blockK (id : Nat) (k : Kont α) : Kont α := fun e s => match e with
  | .exit i => match Nat.beq i id with
    | true => k .normal s
    | false => k (.exit i) s
  | e => k e s
noncomputable def exSkip (s : St) (k : Kont α) : Option α := k .normal s
noncomputable def exSeq (x y : St → Kont α → Option α) (s : St) (k : Kont α) : Option α := x s (seqK y k)
noncomputable def exCond (c : Operand) (x y : St → Kont α → Option α) (s : St) (k : Kont α) : Option α := condO c s (fun s => x s k) (fun s => y s k)
noncomputable def exBlock (id : Nat) (x : St → Kont α → Option α) (s : St) (k : Kont α) : Option α := x s (blockK id k)
noncomputable def exLoop (fuel : Nat) (x : St → Kont α → Option α) (s : St) (k : Kont α) : Option α := loopN x k fuel s
noncomputable def exExit (i : Nat) (s : St) (k : Kont α) : Option α := k (.exit i) s
noncomputable def exRet (s : St) (k : Kont α) : Option α := k .ret s
noncomputable def exNo (_ : St) (_ : Kont α) : Option α := none
/-! ### functions -/

noncomputable def resV (P : Program) (s : St) : ResultVar → Option AV
  | .tmp t => eget s.E t
  | .cell t ty => match eget s.E t with
    | some (.ptr id 0) => match rget s.R id with
      | some (.box _ cs) => match oneB P ty with
        | true => cs[0]?
        | false => match manyB P ty with
          | some m => match Nat.beq cs.length m with
            | true => some (.agg cs)
            | false => none
          | none => none
      | _ => none
    | _ => none
noncomputable def resL (P : Program) (s : St) : List ResultVar → Option (List AV)
  | [] => some []
  | x :: xs => match resV P s x with
    | some d => (resL P s xs).map fun ds => d :: ds
    | none => none
def resA : List AV → AV
  | [d] => d
  | ds => .tup ds

/-- names that stand in d -/
def idsN : Nat → AV → List Nat
  | _, .own id => [id]
  | _, .ptr id _ => [id]
  | _, .ra id _ _ _ => [id]
  | n + 1, .agg cs => cs.flatMap (idsN n)
  | n + 1, .tup cs => cs.flatMap (idsN n)
  | n + 1, .fn _ cs => cs.flatMap (idsN n)
  | _, _ => []
def memB (i : Nat) : List Nat → Bool
  | [] => false
  | j :: js => match Nat.beq i j with
    | true => true
    | false => memB i js
noncomputable def idsR (R : IRs) (ids : List Nat) : List Nat := ids.flatMap fun i => match rget R i with
  | some (.box _ cs) => cs.flatMap (idsN 3)
  | _ => []
noncomputable def reach (R : IRs) : Nat → List Nat → List Nat
  | 0, ids => ids
  | m + 1, ids => ids ++ reach R m (idsR R ids)
/-- what came in, and what d names (the newest names stand first) -/
noncomputable def keepL (nx : Nat) (ids : List Nat) (R : IRs) : IRs := List.rec [] (fun p R ih => Bool.rec (Bool.rec ih (p :: ih) (memB p.1 ids)) (p :: R) (Nat.blt p.1 nx)) R
noncomputable def keepR (R : IRs) (nx : Nat) (d : AV) : IRs := keepL nx (reach R 3 (idsN 3 d)) R

noncomputable def argsT (i : Nat) (l : List AV) : ET → ET := List.rec (fun _ T => T) (fun d _ ih i T => ih (i + 1) (eput i d T)) l i
end
end Go.Iv
