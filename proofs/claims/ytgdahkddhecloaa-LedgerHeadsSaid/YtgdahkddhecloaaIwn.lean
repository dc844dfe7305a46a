/- What is done with an operation's answer may be put into it. Program-independent. -/
import Derived.Test.YtgdahkddhecloaaIw5
set_option linter.unusedSectionVars false
set_option linter.unusedVariables false
set_option linter.unusedSimpArgs false
namespace Go.Iv
variable [U : Uni] [L : UniL]
open Go Go.RowKit

section
variable {α β : Type} (D : α → Option β)
theorem binI_nat {b : BinOp} {k : IntKind} {m n : Int} {K : AV → Option α} : (binI b k m n K).bind D = binI b k m n (fun d => (K d).bind D) := by
  unfold binI
  cases b <;> first | rfl | (dsimp only; split <;> rfl)
theorem eqS_nat {P : Program} {b : BinOp} {T : TypeId} {cs ds : List AV} {K : AV → Option α} : (eqS P b T cs ds K).bind D = eqS P b T cs ds (fun d => (K d).bind D) := by
  unfold eqS
  split
  · split
    · cases b <;> first | rfl | exact Option.bind_assoc ..
    · rfl
  · rfl
theorem binV_nat {P : Program} {rd : Nat → Option IR} {b : BinOp} {T : TypeId} {x y : Option AV} {K : AV → Option α} : (binV P rd b T x y K).bind D = binV P rd b T x y (fun d => (K d).bind D) := by
  unfold binV
  repeat' split
  all_goals first | rfl | exact binI_nat D | exact eqS_nat D | simp_all
theorem unV_nat {b : UnOp} {x : Option AV} {K : AV → Option α} : (unV b x K).bind D = unV b x (fun d => (K d).bind D) := by
  unfold unV
  repeat' split
  all_goals first | rfl | simp_all
theorem nilV_nat {x : Option AV} {K : AV → Option α} : (nilV x K).bind D = nilV x (fun d => (K d).bind D) := by
  unfold nilV
  repeat' split
  all_goals first | rfl | simp_all
theorem fldV_nat {P : Program} {T : TypeId} {i : Nat} {x : Option AV} {K : AV → Option α} : (fldV P T i x K).bind D = fldV P T i x (fun d => (K d).bind D) := by
  unfold fldV
  repeat' split
  all_goals first | rfl | simp_all
theorem idxV_nat {P : Program} {rd : Nat → Option IR} {T : TypeId} {x y : Option AV} {K : AV → Option α} : (idxV P rd T x y K).bind D = idxV P rd T x y (fun d => (K d).bind D) := by
  unfold idxV
  repeat' split
  all_goals first | rfl | simp_all
theorem ldV_nat {P : Program} {rd : Nat → Option IR} {T : TypeId} {x : Option AV} {K : AV → Option α} : (ldV P rd T x K).bind D = ldV P rd T x (fun d => (K d).bind D) := by
  unfold ldV
  repeat' split
  all_goals first | rfl | exact Option.bind_assoc .. | simp_all
theorem bldV_nat {P : Program} {ev : Operand → Option AV} {rd : Nat → Option IR} {T : TypeId} {ps : List (Nat × Operand)} {K : AV → Option α} : (bldV P ev rd T ps K).bind D = bldV P ev rd T ps (fun d => (K d).bind D) := by
  unfold bldV
  repeat' split
  all_goals first | rfl | exact Option.bind_assoc .. | simp_all
theorem cnvV_nat {P : Program} {rd : Nat → Option IR} {T T' : TypeId} {x : Option AV} {K : AV → Option α} : (cnvV P rd T T' x K).bind D = cnvV P rd T T' x (fun d => (K d).bind D) := by
  unfold cnvV
  repeat' split
  all_goals first | rfl | exact Option.bind_assoc .. | simp_all
theorem extV_nat {i : Nat} {x : Option AV} {K : AV → Option α} : (extV i x K).bind D = extV i x (fun d => (K d).bind D) := by
  unfold extV
  repeat' split
  all_goals first | rfl | exact Option.bind_assoc .. | simp_all
theorem mkfV_nat {ev : Operand → Option AV} {f : Go.Fn} {fs cs : List Operand} {K : AV → Option α} : (mkfV ev f fs cs K).bind D = mkfV ev f fs cs (fun d => (K d).bind D) := by
  unfold mkfV
  repeat' split
  all_goals first | rfl | exact Option.bind_assoc .. | simp_all
theorem ixaV_nat {P : Program} {T : TypeId} {x y : Option AV} {K : AV → Option α} : (ixaV P T x y K).bind D = ixaV P T x y (fun d => (K d).bind D) := by
  unfold ixaV
  repeat' split
  all_goals first | rfl | exact Option.bind_assoc .. | simp_all
theorem cutV_nat {P : Program} {T : TypeId} {x : Option AV} {lo hi : Option (Option AV)} {K : AV → Option α} : (cutV P T x lo hi K).bind D = cutV P T x lo hi (fun d => (K d).bind D) := by
  unfold cutV
  repeat' split
  all_goals first | rfl | exact Option.bind_assoc .. | simp_all
theorem lenV_nat {P : Program} {rd : Nat → Option IR} {T : TypeId} {x : Option AV} {K : AV → Option α} : (lenV P rd T x K).bind D = lenV P rd T x (fun d => (K d).bind D) := by
  unfold lenV
  repeat' split
  all_goals first | rfl | exact Option.bind_assoc .. | simp_all
theorem aloE_nat {P : Program} {nx : Nat} {T : TypeId} {K : Eff → Option α} : (aloE P nx T K).bind D = aloE P nx T (fun d => (K d).bind D) := by
  unfold aloE
  exact Option.bind_assoc ..
theorem boxE_nat {rd : Nat → Option IR} {nx : Nat} {T : TypeId} {x : Option AV} {K : Eff → Option α} : (boxE rd nx T x K).bind D = boxE rd nx T x (fun d => (K d).bind D) := by
  unfold boxE
  repeat' split
  all_goals first | rfl | exact Option.bind_assoc .. | simp_all
theorem stoE_nat {P : Program} {rd : Nat → Option IR} {T : TypeId} {x y : Option AV} {K : Eff → Option α} : (stoE P rd T x y K).bind D = stoE P rd T x y (fun d => (K d).bind D) := by
  unfold stoE
  repeat' split
  all_goals first | rfl | exact Option.bind_assoc .. | simp_all
theorem litE_nat {P : Program} {ev : Operand → Option AV} {rd : Nat → Option IR} {nx : Nat} {T : TypeId} {n : Nat} {ps : List (Nat × Operand)} {K : Eff → Option α} : (litE P ev rd nx T n ps K).bind D = litE P ev rd nx T n ps (fun d => (K d).bind D) := by
  unfold litE
  split
  · split
    · split
      · split <;> rfl
      · split
        · split
          · rw [Option.bind_assoc]
            congr 1
            funext cs
            split
            · exact Option.bind_assoc ..
            · rfl
          · rfl
        · rfl
    · rfl
  · rfl
theorem mkE_nat {P : Program} {nx : Nat} {T : TypeId} {x y : Option AV} {K : Eff → Option α} : (mkE P nx T x y K).bind D = mkE P nx T x y (fun d => (K d).bind D) := by
  unfold mkE
  split
  · split
    · split
      · rw [Option.bind_assoc]
        congr 1
        funext d
        split <;> rfl
      · rfl
    · rfl
  · rfl
theorem emE_nat {P : Program} {nx : Nat} {T : TypeId} {x : Option AV} {K : Eff → Option α} : (emE P nx T x K).bind D = emE P nx T x (fun d => (K d).bind D) := by
  unfold emE
  repeat' split
  all_goals first | rfl | simp_all
theorem appT_nat {P : Program} {T : TypeId} {K : Nat → List Value → Option α} : (appT P T K).bind D = appT P T (fun e zs => (K e zs).bind D) := by
  unfold appT
  repeat' split
  all_goals first | rfl | simp_all
theorem addD_nat {P : Program} {rd : Nat → Option IR} {e : Nat} {zs : List Value} {T' T : TypeId} {y : Option AV} {K : List (U.Dat e) → Option α} : (addD P rd e zs T' T y K).bind D = addD P rd e zs T' T y (fun d => (K d).bind D) := by
  unfold addD
  split
  · exact Option.bind_assoc ..
  · split
    · split
      · rw [Option.bind_assoc]
        congr 1
        funext d
        split <;> rfl
      · rfl
    · rfl
theorem appE_nat {P : Program} {rd : Nat → Option IR} {nx : Nat} {T T' : TypeId} {x y : Option AV} {K : Eff → Option α} : (appE P rd nx T T' x y K).bind D = appE P rd nx T T' x y (fun d => (K d).bind D) := by
  unfold appE
  rw [appT_nat]
  congr 1
  funext e zs
  split
  · rw [addD_nat]
    congr 1
    funext l2
    split <;> rfl
  · split
    · rw [Option.bind_assoc]
      congr 1
      funext l
      rw [addD_nat]
      congr 1
      funext l2
      split <;> rfl
    · rfl
  · rfl
theorem mnV_nat {mx : Bool} {xs : List (Option AV)} {K : AV → Option α} : (mnV mx xs K).bind D = mnV mx xs (fun d => (K d).bind D) := by
  unfold mnV
  split
  · split
    · cases mx <;> rfl
    · rfl
  · rfl
/-- What is done with the answer of a call may be put into the call. -/
def OrcNat (F : Orc) : Prop := ∀ (α β : Type) f args R nx (k : AV → IRs → Nat → Option α) (D : α → Option β), (F α f args R nx k).bind D = F β f args R nx (fun d R nx => (k d R nx).bind D)
/-- What oracle F says is so, and it answers what it is asked. -/
structure OrcG (P : Program) (F : Orc) : Prop where
  ok : OrcOk P F
  nat : OrcNat F
theorem calE_nat {F : Orc} (hF : OrcNat F) {ev : Operand → Option AV} {R : IRs} {nx : Nat} {x : Option AV} {xs : List Operand} {K : Eff → Option α} : (calE F ev R nx x xs K).bind D = calE F ev R nx x xs (fun d => (K d).bind D) := by
  unfold calE
  split
  · rw [Option.bind_assoc]
    congr 1
    funext as
    exact hF ..
  · rfl
theorem stepF_nat {F : Orc} (hF : OrcNat F) (o : Op) (P : Program) (ev : Operand → Option AV) (rd : Nat → Option IR) (R : IRs) (nx : Nat) (K : Eff → Option α) : (stepF o P F ev rd R nx K).bind D = stepF o P F ev rd R nx (fun e => (K e).bind D) := by
  have hP : (fun d => (pureK K d).bind D) = pureK (fun e => (K e).bind D) := rfl
  cases o <;> first | rfl | exact Option.bind_assoc .. | exact unV_nat D | exact cnvV_nat D | exact nilV_nat D | exact fldV_nat D | exact idxV_nat D | exact ixaV_nat D | exact ldV_nat D | exact stoE_nat D | exact mkfV_nat D | exact extV_nat D | exact bldV_nat D | exact litE_nat D | exact mkE_nat D | exact aloE_nat D | exact boxE_nat D | skip
  case pick c a b =>
    show (stPic c a b P F ev rd R nx K).bind D = stPic c a b P F ev rd R nx _
    unfold stPic
    split
    · exact Option.bind_assoc ..
    · exact Option.bind_assoc ..
    · rfl
  case binOp b T x y t => exact binV_nat D
  case slice T x lo hi mx =>
    show (stSli T x lo hi mx P F ev rd R nx K).bind D = stSli T x lo hi mx P F ev rd R nx _
    unfold stSli
    split
    · exact cutV_nat D
    · split
      · exact emE_nat D
      · rfl
    · rfl
  case call c =>
    show (stCal c P F ev rd R nx K).bind D = stCal c P F ev rd R nx _
    unfold stCal
    split
    · exact calE_nat D hF
    · unfold stBui
      split
      · split
        · exact lenV_nat D
        · rfl
      · split
        · exact mnV_nat D
        · rfl
      · split
        · exact mnV_nat D
        · rfl
      · split
        · exact appE_nat D
        · rfl
      · rfl
    · rfl
end
end Go.Iv
