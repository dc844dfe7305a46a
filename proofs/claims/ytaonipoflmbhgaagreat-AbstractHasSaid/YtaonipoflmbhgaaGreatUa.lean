/- The data of the Go types. -/
import Derived.Test.YtaonipoflmbhgaaGreatIw18
import Derived.Test.YtaonipoflmbhgaaGreatProg
set_option linter.unusedSectionVars false
set_option linter.unusedVariables false
set_option linter.unusedSimpArgs false
namespace Go.Proofs.YtaonipoflmbhgaaGreat
open Go Go.Iv

structure GTerm where
  fOp : Int
  fN : Int
  fKids : List GTerm
instance : Inhabited GTerm := ⟨⟨0, 0, []⟩⟩
structure GStep where
  fDo : Int
  fCost : Int
  fVar : Int
  fN : Int
  fTerm : GTerm
  fThen : List GStep
  fElse : List GStep
  fBounds : List Int
instance : Inhabited GStep := ⟨⟨0, 0, 0, 0, ⟨0, 0, []⟩, [], [], []⟩⟩
structure GVar where
  fName : ByteArray
  fKind : Int
  fLow : Int
  fHigh : Int
  fInit : Int
  deriving Inhabited, DecidableEq
structure Hatch where
  fName : ByteArray
  fLow : Int
  fHigh : Int
  fTerm : GTerm
  deriving Inhabited
structure Flat where
  fVars : List GVar
  fHatches : List Hatch
  fBody : List GStep
  deriving Inhabited
structure View where
  fPublic : List Int
  fTimed : Bool
  deriving Inhabited, DecidableEq
structure Num where
  fLow : Int
  fHigh : Int
  fStep : Int
  deriving Inhabited, DecidableEq
structure Abstract where
  fCount : Num
  fSlots : List Num
  fTime : Num
  fFinal : List Num
  deriving Inhabited, DecidableEq
structure Observation where
  fOutputs : List Int
  fTime : Int
  deriving Inhabited, DecidableEq
structure Inputs where
  fSecret : List Int
  fPublic : List Int
  fRandom : List Int
  deriving Inhabited, DecidableEq
structure GState where
  fValues : List Int
  fOutputs : List Int
  fTime : Int
  deriving Inhabited, DecidableEq
structure GState2 where
  fVars : List Num
  fCount : Num
  fSlots : List Num
  fTime : Num
  deriving Inhabited, DecidableEq
structure Runner where
  fF : Flat
  fHatches : List Num
  deriving Inhabited
structure GState3 where
  fVars : List Num
  fCount : Num
  fSlots : List Num
  fTime : Num
  deriving Inhabited, DecidableEq
structure Measure where
  fNodes : Int
  fDeep : Bool
  deriving Inhabited, DecidableEq
structure Most where
  fSteps : Int
  fOutputs : Int
  fTime : Int
  deriving Inhabited, DecidableEq
structure Span where
  fLow : Int
  fHigh : Int
  deriving Inhabited, DecidableEq
inductive Ky
  | k3
  | k24
  | k26
  | k29
  | k34
  | k36
  | k51
  | k60
  | k64
  | k87
  | k88
  | k89
  | k91
  | k92
  | k93
  | k97
  | k99
  | k106
  | k107
  | k134
  | k153
  | k154
  | k157
  | k158
  | k217
  | k218
  | no
def ky : Nat → Ky
  | 3 => .k3
  | 24 => .k24
  | 26 => .k26
  | 29 => .k29
  | 34 => .k34
  | 36 => .k36
  | 51 => .k51
  | 60 => .k60
  | 64 => .k64
  | 87 => .k87
  | 88 => .k88
  | 89 => .k89
  | 91 => .k91
  | 92 => .k92
  | 93 => .k93
  | 97 => .k97
  | 99 => .k99
  | 106 => .k106
  | 107 => .k107
  | 134 => .k134
  | 153 => .k153
  | 154 => .k154
  | 157 => .k157
  | 158 => .k158
  | 217 => .k217
  | 218 => .k218
  | _ => .no
def datK : Ky → Type
  | .k3 => Int
  | .k24 => List GStep
  | .k26 => Flat
  | .k29 => View
  | .k34 => Num
  | .k36 => Abstract
  | .k51 => Observation
  | .k60 => Inputs
  | .k64 => GState
  | .k87 => GState2
  | .k88 => GState2
  | .k89 => Int
  | .k91 => GVar
  | .k92 => Runner
  | .k93 => Runner
  | .k97 => GTerm
  | .k99 => Hatch
  | .k106 => GState3
  | .k107 => GState3
  | .k134 => GStep
  | .k153 => Measure
  | .k154 => Measure
  | .k157 => Most
  | .k158 => Most
  | .k217 => Span
  | .k218 => Span
  | .no => Unit
abbrev datU (t : Nat) : Type := datK (ky t)
@[reducible] def inhK : (k : Ky) → Inhabited (datK k)
  | .k3 => ⟨(default : Int)⟩
  | .k24 => ⟨(default : List GStep)⟩
  | .k26 => ⟨(default : Flat)⟩
  | .k29 => ⟨(default : View)⟩
  | .k34 => ⟨(default : Num)⟩
  | .k36 => ⟨(default : Abstract)⟩
  | .k51 => ⟨(default : Observation)⟩
  | .k60 => ⟨(default : Inputs)⟩
  | .k64 => ⟨(default : GState)⟩
  | .k87 => ⟨(default : GState2)⟩
  | .k88 => ⟨(default : GState2)⟩
  | .k89 => ⟨(default : Int)⟩
  | .k91 => ⟨(default : GVar)⟩
  | .k92 => ⟨(default : Runner)⟩
  | .k93 => ⟨(default : Runner)⟩
  | .k97 => ⟨(default : GTerm)⟩
  | .k99 => ⟨(default : Hatch)⟩
  | .k106 => ⟨(default : GState3)⟩
  | .k107 => ⟨(default : GState3)⟩
  | .k134 => ⟨(default : GStep)⟩
  | .k153 => ⟨(default : Measure)⟩
  | .k154 => ⟨(default : Measure)⟩
  | .k157 => ⟨(default : Most)⟩
  | .k158 => ⟨(default : Most)⟩
  | .k217 => ⟨(default : Span)⟩
  | .k218 => ⟨(default : Span)⟩
  | .no => ⟨()⟩
def szK : Ky → Nat
  | .k3 => 1
  | .k24 => 1
  | .k26 => 3
  | .k29 => 2
  | .k34 => 3
  | .k36 => 8
  | .k51 => 2
  | .k60 => 3
  | .k64 => 3
  | .k87 => 8
  | .k88 => 8
  | .k89 => 1
  | .k91 => 5
  | .k92 => 4
  | .k93 => 4
  | .k97 => 3
  | .k99 => 6
  | .k106 => 8
  | .k107 => 8
  | .k134 => 10
  | .k153 => 2
  | .k154 => 2
  | .k157 => 3
  | .k158 => 3
  | .k217 => 2
  | .k218 => 2
  | .no => 0
def cellsK : (k : Ky) → datK k → List (AVq datU)
  | .k3, x => (fun x : Int => [.n .i64 x]) x
  | .k24, x => (fun x : List GStep => [.sl 134 x]) x
  | .k26, x => (fun x : Flat => [.sl 91 x.fVars, .sl 99 x.fHatches, .sl 134 x.fBody]) x
  | .k29, x => (fun x : View => [.sl 3 x.fPublic, .b x.fTimed]) x
  | .k34, x => (fun x : Num => [.n .i64 x.fLow, .n .i64 x.fHigh, .n .i64 x.fStep]) x
  | .k36, x => (fun x : Abstract => [.n .i64 x.fCount.fLow, .n .i64 x.fCount.fHigh, .n .i64 x.fCount.fStep, .sl 34 x.fSlots, .n .i64 x.fTime.fLow, .n .i64 x.fTime.fHigh, .n .i64 x.fTime.fStep, .sl 34 x.fFinal]) x
  | .k51, x => (fun x : Observation => [.sl 3 x.fOutputs, .n .i64 x.fTime]) x
  | .k60, x => (fun x : Inputs => [.sl 3 x.fSecret, .sl 3 x.fPublic, .sl 3 x.fRandom]) x
  | .k64, x => (fun x : GState => [.sl 3 x.fValues, .sl 3 x.fOutputs, .n .i64 x.fTime]) x
  | .k87, x => (fun x : GState2 => [.sl 34 x.fVars, .n .i64 x.fCount.fLow, .n .i64 x.fCount.fHigh, .n .i64 x.fCount.fStep, .sl 34 x.fSlots, .n .i64 x.fTime.fLow, .n .i64 x.fTime.fHigh, .n .i64 x.fTime.fStep]) x
  | .k88, x => (fun x : GState2 => [.sl 34 x.fVars, .n .i64 x.fCount.fLow, .n .i64 x.fCount.fHigh, .n .i64 x.fCount.fStep, .sl 34 x.fSlots, .n .i64 x.fTime.fLow, .n .i64 x.fTime.fHigh, .n .i64 x.fTime.fStep]) x
  | .k89, x => (fun x : Int => [.n .i64 x]) x
  | .k91, x => (fun x : GVar => [.s x.fName, .n .i64 x.fKind, .n .i64 x.fLow, .n .i64 x.fHigh, .n .i64 x.fInit]) x
  | .k92, x => (fun x : Runner => [.sl 91 x.fF.fVars, .sl 99 x.fF.fHatches, .sl 134 x.fF.fBody, .sl 34 x.fHatches]) x
  | .k93, x => (fun x : Runner => [.sl 91 x.fF.fVars, .sl 99 x.fF.fHatches, .sl 134 x.fF.fBody, .sl 34 x.fHatches]) x
  | .k97, x => (fun x : GTerm => [.n .i64 x.fOp, .n .i64 x.fN, .sl 97 x.fKids]) x
  | .k99, x => (fun x : Hatch => [.s x.fName, .n .i64 x.fLow, .n .i64 x.fHigh, .n .i64 x.fTerm.fOp, .n .i64 x.fTerm.fN, .sl 97 x.fTerm.fKids]) x
  | .k106, x => (fun x : GState3 => [.sl 34 x.fVars, .n .i64 x.fCount.fLow, .n .i64 x.fCount.fHigh, .n .i64 x.fCount.fStep, .sl 34 x.fSlots, .n .i64 x.fTime.fLow, .n .i64 x.fTime.fHigh, .n .i64 x.fTime.fStep]) x
  | .k107, x => (fun x : GState3 => [.sl 34 x.fVars, .n .i64 x.fCount.fLow, .n .i64 x.fCount.fHigh, .n .i64 x.fCount.fStep, .sl 34 x.fSlots, .n .i64 x.fTime.fLow, .n .i64 x.fTime.fHigh, .n .i64 x.fTime.fStep]) x
  | .k134, x => (fun x : GStep => [.n .i64 x.fDo, .n .i64 x.fCost, .n .i64 x.fVar, .n .i64 x.fN, .n .i64 x.fTerm.fOp, .n .i64 x.fTerm.fN, .sl 97 x.fTerm.fKids, .sl 134 x.fThen, .sl 134 x.fElse, .sl 3 x.fBounds]) x
  | .k153, x => (fun x : Measure => [.n .i64 x.fNodes, .b x.fDeep]) x
  | .k154, x => (fun x : Measure => [.n .i64 x.fNodes, .b x.fDeep]) x
  | .k157, x => (fun x : Most => [.n .i64 x.fSteps, .n .i64 x.fOutputs, .n .i64 x.fTime]) x
  | .k158, x => (fun x : Most => [.n .i64 x.fSteps, .n .i64 x.fOutputs, .n .i64 x.fTime]) x
  | .k217, x => (fun x : Span => [.n .i64 x.fLow, .n .i64 x.fHigh]) x
  | .k218, x => (fun x : Span => [.n .i64 x.fLow, .n .i64 x.fHigh]) x
  | .no, _ => []
instance uni : Uni := ⟨datU, fun t => inhK (ky t), fun t => szK (ky t), fun t => cellsK (ky t)⟩
def parseK : (k : Ky) → List AV → Option (datK k)
  | .k3 => fun cs => ((pkC (asI .i64) pkN) cs).map (fun g : Int × Unit => (g.1 : Int))
  | .k24 => fun cs => ((pkC (asL 134) pkN) cs).map (fun g : (List (datU 134)) × Unit => (g.1 : List GStep))
  | .k26 => fun cs => ((pkC (asL 91) (pkC (asL 99) (pkC (asL 134) pkN))) cs).map (fun g : (List (datU 91)) × (List (datU 99)) × (List (datU 134)) × Unit => ((Flat.mk g.1 g.2.1 g.2.2.1) : Flat))
  | .k29 => fun cs => ((pkC (asL 3) (pkC asB pkN)) cs).map (fun g : (List (datU 3)) × Bool × Unit => ((View.mk g.1 g.2.1) : View))
  | .k34 => fun cs => ((pkC (asI .i64) (pkC (asI .i64) (pkC (asI .i64) pkN))) cs).map (fun g : Int × Int × Int × Unit => ((Num.mk g.1 g.2.1 g.2.2.1) : Num))
  | .k36 => fun cs => ((pkC (asI .i64) (pkC (asI .i64) (pkC (asI .i64) (pkC (asL 34) (pkC (asI .i64) (pkC (asI .i64) (pkC (asI .i64) (pkC (asL 34) pkN)))))))) cs).map (fun g : Int × Int × Int × (List (datU 34)) × Int × Int × Int × (List (datU 34)) × Unit => ((Abstract.mk (Num.mk g.1 g.2.1 g.2.2.1) g.2.2.2.1 (Num.mk g.2.2.2.2.1 g.2.2.2.2.2.1 g.2.2.2.2.2.2.1) g.2.2.2.2.2.2.2.1) : Abstract))
  | .k51 => fun cs => ((pkC (asL 3) (pkC (asI .i64) pkN)) cs).map (fun g : (List (datU 3)) × Int × Unit => ((Observation.mk g.1 g.2.1) : Observation))
  | .k60 => fun cs => ((pkC (asL 3) (pkC (asL 3) (pkC (asL 3) pkN))) cs).map (fun g : (List (datU 3)) × (List (datU 3)) × (List (datU 3)) × Unit => ((Inputs.mk g.1 g.2.1 g.2.2.1) : Inputs))
  | .k64 => fun cs => ((pkC (asL 3) (pkC (asL 3) (pkC (asI .i64) pkN))) cs).map (fun g : (List (datU 3)) × (List (datU 3)) × Int × Unit => ((GState.mk g.1 g.2.1 g.2.2.1) : GState))
  | .k87 => fun cs => ((pkC (asL 34) (pkC (asI .i64) (pkC (asI .i64) (pkC (asI .i64) (pkC (asL 34) (pkC (asI .i64) (pkC (asI .i64) (pkC (asI .i64) pkN)))))))) cs).map (fun g : (List (datU 34)) × Int × Int × Int × (List (datU 34)) × Int × Int × Int × Unit => ((GState2.mk g.1 (Num.mk g.2.1 g.2.2.1 g.2.2.2.1) g.2.2.2.2.1 (Num.mk g.2.2.2.2.2.1 g.2.2.2.2.2.2.1 g.2.2.2.2.2.2.2.1)) : GState2))
  | .k88 => fun cs => ((pkC (asL 34) (pkC (asI .i64) (pkC (asI .i64) (pkC (asI .i64) (pkC (asL 34) (pkC (asI .i64) (pkC (asI .i64) (pkC (asI .i64) pkN)))))))) cs).map (fun g : (List (datU 34)) × Int × Int × Int × (List (datU 34)) × Int × Int × Int × Unit => ((GState2.mk g.1 (Num.mk g.2.1 g.2.2.1 g.2.2.2.1) g.2.2.2.2.1 (Num.mk g.2.2.2.2.2.1 g.2.2.2.2.2.2.1 g.2.2.2.2.2.2.2.1)) : GState2))
  | .k89 => fun cs => ((pkC (asI .i64) pkN) cs).map (fun g : Int × Unit => (g.1 : Int))
  | .k91 => fun cs => ((pkC asS (pkC (asI .i64) (pkC (asI .i64) (pkC (asI .i64) (pkC (asI .i64) pkN))))) cs).map (fun g : ByteArray × Int × Int × Int × Int × Unit => ((GVar.mk g.1 g.2.1 g.2.2.1 g.2.2.2.1 g.2.2.2.2.1) : GVar))
  | .k92 => fun cs => ((pkC (asL 91) (pkC (asL 99) (pkC (asL 134) (pkC (asL 34) pkN)))) cs).map (fun g : (List (datU 91)) × (List (datU 99)) × (List (datU 134)) × (List (datU 34)) × Unit => ((Runner.mk (Flat.mk g.1 g.2.1 g.2.2.1) g.2.2.2.1) : Runner))
  | .k93 => fun cs => ((pkC (asL 91) (pkC (asL 99) (pkC (asL 134) (pkC (asL 34) pkN)))) cs).map (fun g : (List (datU 91)) × (List (datU 99)) × (List (datU 134)) × (List (datU 34)) × Unit => ((Runner.mk (Flat.mk g.1 g.2.1 g.2.2.1) g.2.2.2.1) : Runner))
  | .k97 => fun cs => ((pkC (asI .i64) (pkC (asI .i64) (pkC (asL 97) pkN))) cs).map (fun g : Int × Int × (List (datU 97)) × Unit => ((GTerm.mk g.1 g.2.1 g.2.2.1) : GTerm))
  | .k99 => fun cs => ((pkC asS (pkC (asI .i64) (pkC (asI .i64) (pkC (asI .i64) (pkC (asI .i64) (pkC (asL 97) pkN)))))) cs).map (fun g : ByteArray × Int × Int × Int × Int × (List (datU 97)) × Unit => ((Hatch.mk g.1 g.2.1 g.2.2.1 (GTerm.mk g.2.2.2.1 g.2.2.2.2.1 g.2.2.2.2.2.1)) : Hatch))
  | .k106 => fun cs => ((pkC (asL 34) (pkC (asI .i64) (pkC (asI .i64) (pkC (asI .i64) (pkC (asL 34) (pkC (asI .i64) (pkC (asI .i64) (pkC (asI .i64) pkN)))))))) cs).map (fun g : (List (datU 34)) × Int × Int × Int × (List (datU 34)) × Int × Int × Int × Unit => ((GState3.mk g.1 (Num.mk g.2.1 g.2.2.1 g.2.2.2.1) g.2.2.2.2.1 (Num.mk g.2.2.2.2.2.1 g.2.2.2.2.2.2.1 g.2.2.2.2.2.2.2.1)) : GState3))
  | .k107 => fun cs => ((pkC (asL 34) (pkC (asI .i64) (pkC (asI .i64) (pkC (asI .i64) (pkC (asL 34) (pkC (asI .i64) (pkC (asI .i64) (pkC (asI .i64) pkN)))))))) cs).map (fun g : (List (datU 34)) × Int × Int × Int × (List (datU 34)) × Int × Int × Int × Unit => ((GState3.mk g.1 (Num.mk g.2.1 g.2.2.1 g.2.2.2.1) g.2.2.2.2.1 (Num.mk g.2.2.2.2.2.1 g.2.2.2.2.2.2.1 g.2.2.2.2.2.2.2.1)) : GState3))
  | .k134 => fun cs => ((pkC (asI .i64) (pkC (asI .i64) (pkC (asI .i64) (pkC (asI .i64) (pkC (asI .i64) (pkC (asI .i64) (pkC (asL 97) (pkC (asL 134) (pkC (asL 134) (pkC (asL 3) pkN)))))))))) cs).map (fun g : Int × Int × Int × Int × Int × Int × (List (datU 97)) × (List (datU 134)) × (List (datU 134)) × (List (datU 3)) × Unit => ((GStep.mk g.1 g.2.1 g.2.2.1 g.2.2.2.1 (GTerm.mk g.2.2.2.2.1 g.2.2.2.2.2.1 g.2.2.2.2.2.2.1) g.2.2.2.2.2.2.2.1 g.2.2.2.2.2.2.2.2.1 g.2.2.2.2.2.2.2.2.2.1) : GStep))
  | .k153 => fun cs => ((pkC (asI .i64) (pkC asB pkN)) cs).map (fun g : Int × Bool × Unit => ((Measure.mk g.1 g.2.1) : Measure))
  | .k154 => fun cs => ((pkC (asI .i64) (pkC asB pkN)) cs).map (fun g : Int × Bool × Unit => ((Measure.mk g.1 g.2.1) : Measure))
  | .k157 => fun cs => ((pkC (asI .i64) (pkC (asI .i64) (pkC (asI .i64) pkN))) cs).map (fun g : Int × Int × Int × Unit => ((Most.mk g.1 g.2.1 g.2.2.1) : Most))
  | .k158 => fun cs => ((pkC (asI .i64) (pkC (asI .i64) (pkC (asI .i64) pkN))) cs).map (fun g : Int × Int × Int × Unit => ((Most.mk g.1 g.2.1 g.2.2.1) : Most))
  | .k217 => fun cs => ((pkC (asI .i64) (pkC (asI .i64) pkN)) cs).map (fun g : Int × Int × Unit => ((Span.mk g.1 g.2.1) : Span))
  | .k218 => fun cs => ((pkC (asI .i64) (pkC (asI .i64) pkN)) cs).map (fun g : Int × Int × Unit => ((Span.mk g.1 g.2.1) : Span))
  | .no => fun _ => none
theorem parseK_ok : (k : Ky) → Pk (parseK k) (cellsK k)
  | .k3 => Pk.map (fun g : Int × Unit => (g.1 : Int)) (.cons (.i .i64) .nil) (fun _ => rfl)
  | .k24 => Pk.map (fun g : (List (datU 134)) × Unit => (g.1 : List GStep)) (.cons (.l 134) .nil) (fun _ => rfl)
  | .k26 => Pk.map (fun g : (List (datU 91)) × (List (datU 99)) × (List (datU 134)) × Unit => ((Flat.mk g.1 g.2.1 g.2.2.1) : Flat)) (.cons (.l 91) (.cons (.l 99) (.cons (.l 134) .nil))) (fun _ => rfl)
  | .k29 => Pk.map (fun g : (List (datU 3)) × Bool × Unit => ((View.mk g.1 g.2.1) : View)) (.cons (.l 3) (.cons .b .nil)) (fun _ => rfl)
  | .k34 => Pk.map (fun g : Int × Int × Int × Unit => ((Num.mk g.1 g.2.1 g.2.2.1) : Num)) (.cons (.i .i64) (.cons (.i .i64) (.cons (.i .i64) .nil))) (fun _ => rfl)
  | .k36 => Pk.map (fun g : Int × Int × Int × (List (datU 34)) × Int × Int × Int × (List (datU 34)) × Unit => ((Abstract.mk (Num.mk g.1 g.2.1 g.2.2.1) g.2.2.2.1 (Num.mk g.2.2.2.2.1 g.2.2.2.2.2.1 g.2.2.2.2.2.2.1) g.2.2.2.2.2.2.2.1) : Abstract)) (.cons (.i .i64) (.cons (.i .i64) (.cons (.i .i64) (.cons (.l 34) (.cons (.i .i64) (.cons (.i .i64) (.cons (.i .i64) (.cons (.l 34) .nil)))))))) (fun _ => rfl)
  | .k51 => Pk.map (fun g : (List (datU 3)) × Int × Unit => ((Observation.mk g.1 g.2.1) : Observation)) (.cons (.l 3) (.cons (.i .i64) .nil)) (fun _ => rfl)
  | .k60 => Pk.map (fun g : (List (datU 3)) × (List (datU 3)) × (List (datU 3)) × Unit => ((Inputs.mk g.1 g.2.1 g.2.2.1) : Inputs)) (.cons (.l 3) (.cons (.l 3) (.cons (.l 3) .nil))) (fun _ => rfl)
  | .k64 => Pk.map (fun g : (List (datU 3)) × (List (datU 3)) × Int × Unit => ((GState.mk g.1 g.2.1 g.2.2.1) : GState)) (.cons (.l 3) (.cons (.l 3) (.cons (.i .i64) .nil))) (fun _ => rfl)
  | .k87 => Pk.map (fun g : (List (datU 34)) × Int × Int × Int × (List (datU 34)) × Int × Int × Int × Unit => ((GState2.mk g.1 (Num.mk g.2.1 g.2.2.1 g.2.2.2.1) g.2.2.2.2.1 (Num.mk g.2.2.2.2.2.1 g.2.2.2.2.2.2.1 g.2.2.2.2.2.2.2.1)) : GState2)) (.cons (.l 34) (.cons (.i .i64) (.cons (.i .i64) (.cons (.i .i64) (.cons (.l 34) (.cons (.i .i64) (.cons (.i .i64) (.cons (.i .i64) .nil)))))))) (fun _ => rfl)
  | .k88 => Pk.map (fun g : (List (datU 34)) × Int × Int × Int × (List (datU 34)) × Int × Int × Int × Unit => ((GState2.mk g.1 (Num.mk g.2.1 g.2.2.1 g.2.2.2.1) g.2.2.2.2.1 (Num.mk g.2.2.2.2.2.1 g.2.2.2.2.2.2.1 g.2.2.2.2.2.2.2.1)) : GState2)) (.cons (.l 34) (.cons (.i .i64) (.cons (.i .i64) (.cons (.i .i64) (.cons (.l 34) (.cons (.i .i64) (.cons (.i .i64) (.cons (.i .i64) .nil)))))))) (fun _ => rfl)
  | .k89 => Pk.map (fun g : Int × Unit => (g.1 : Int)) (.cons (.i .i64) .nil) (fun _ => rfl)
  | .k91 => Pk.map (fun g : ByteArray × Int × Int × Int × Int × Unit => ((GVar.mk g.1 g.2.1 g.2.2.1 g.2.2.2.1 g.2.2.2.2.1) : GVar)) (.cons .s (.cons (.i .i64) (.cons (.i .i64) (.cons (.i .i64) (.cons (.i .i64) .nil))))) (fun _ => rfl)
  | .k92 => Pk.map (fun g : (List (datU 91)) × (List (datU 99)) × (List (datU 134)) × (List (datU 34)) × Unit => ((Runner.mk (Flat.mk g.1 g.2.1 g.2.2.1) g.2.2.2.1) : Runner)) (.cons (.l 91) (.cons (.l 99) (.cons (.l 134) (.cons (.l 34) .nil)))) (fun _ => rfl)
  | .k93 => Pk.map (fun g : (List (datU 91)) × (List (datU 99)) × (List (datU 134)) × (List (datU 34)) × Unit => ((Runner.mk (Flat.mk g.1 g.2.1 g.2.2.1) g.2.2.2.1) : Runner)) (.cons (.l 91) (.cons (.l 99) (.cons (.l 134) (.cons (.l 34) .nil)))) (fun _ => rfl)
  | .k97 => Pk.map (fun g : Int × Int × (List (datU 97)) × Unit => ((GTerm.mk g.1 g.2.1 g.2.2.1) : GTerm)) (.cons (.i .i64) (.cons (.i .i64) (.cons (.l 97) .nil))) (fun _ => rfl)
  | .k99 => Pk.map (fun g : ByteArray × Int × Int × Int × Int × (List (datU 97)) × Unit => ((Hatch.mk g.1 g.2.1 g.2.2.1 (GTerm.mk g.2.2.2.1 g.2.2.2.2.1 g.2.2.2.2.2.1)) : Hatch)) (.cons .s (.cons (.i .i64) (.cons (.i .i64) (.cons (.i .i64) (.cons (.i .i64) (.cons (.l 97) .nil)))))) (fun _ => rfl)
  | .k106 => Pk.map (fun g : (List (datU 34)) × Int × Int × Int × (List (datU 34)) × Int × Int × Int × Unit => ((GState3.mk g.1 (Num.mk g.2.1 g.2.2.1 g.2.2.2.1) g.2.2.2.2.1 (Num.mk g.2.2.2.2.2.1 g.2.2.2.2.2.2.1 g.2.2.2.2.2.2.2.1)) : GState3)) (.cons (.l 34) (.cons (.i .i64) (.cons (.i .i64) (.cons (.i .i64) (.cons (.l 34) (.cons (.i .i64) (.cons (.i .i64) (.cons (.i .i64) .nil)))))))) (fun _ => rfl)
  | .k107 => Pk.map (fun g : (List (datU 34)) × Int × Int × Int × (List (datU 34)) × Int × Int × Int × Unit => ((GState3.mk g.1 (Num.mk g.2.1 g.2.2.1 g.2.2.2.1) g.2.2.2.2.1 (Num.mk g.2.2.2.2.2.1 g.2.2.2.2.2.2.1 g.2.2.2.2.2.2.2.1)) : GState3)) (.cons (.l 34) (.cons (.i .i64) (.cons (.i .i64) (.cons (.i .i64) (.cons (.l 34) (.cons (.i .i64) (.cons (.i .i64) (.cons (.i .i64) .nil)))))))) (fun _ => rfl)
  | .k134 => Pk.map (fun g : Int × Int × Int × Int × Int × Int × (List (datU 97)) × (List (datU 134)) × (List (datU 134)) × (List (datU 3)) × Unit => ((GStep.mk g.1 g.2.1 g.2.2.1 g.2.2.2.1 (GTerm.mk g.2.2.2.2.1 g.2.2.2.2.2.1 g.2.2.2.2.2.2.1) g.2.2.2.2.2.2.2.1 g.2.2.2.2.2.2.2.2.1 g.2.2.2.2.2.2.2.2.2.1) : GStep)) (.cons (.i .i64) (.cons (.i .i64) (.cons (.i .i64) (.cons (.i .i64) (.cons (.i .i64) (.cons (.i .i64) (.cons (.l 97) (.cons (.l 134) (.cons (.l 134) (.cons (.l 3) .nil)))))))))) (fun _ => rfl)
  | .k153 => Pk.map (fun g : Int × Bool × Unit => ((Measure.mk g.1 g.2.1) : Measure)) (.cons (.i .i64) (.cons .b .nil)) (fun _ => rfl)
  | .k154 => Pk.map (fun g : Int × Bool × Unit => ((Measure.mk g.1 g.2.1) : Measure)) (.cons (.i .i64) (.cons .b .nil)) (fun _ => rfl)
  | .k157 => Pk.map (fun g : Int × Int × Int × Unit => ((Most.mk g.1 g.2.1 g.2.2.1) : Most)) (.cons (.i .i64) (.cons (.i .i64) (.cons (.i .i64) .nil))) (fun _ => rfl)
  | .k158 => Pk.map (fun g : Int × Int × Int × Unit => ((Most.mk g.1 g.2.1 g.2.2.1) : Most)) (.cons (.i .i64) (.cons (.i .i64) (.cons (.i .i64) .nil))) (fun _ => rfl)
  | .k217 => Pk.map (fun g : Int × Int × Unit => ((Span.mk g.1 g.2.1) : Span)) (.cons (.i .i64) (.cons (.i .i64) .nil)) (fun _ => rfl)
  | .k218 => Pk.map (fun g : Int × Int × Unit => ((Span.mk g.1 g.2.1) : Span)) (.cons (.i .i64) (.cons (.i .i64) .nil)) (fun _ => rfl)
  | .no => .none
def numsK : (k : Ky) → List (datK k) → Option (List Int)

  | _, _ => none
theorem flat_one (l : List Int) : l.flatMap (fun x => [AVq.n (Dat := datU) .u8 x]) = l.map (.n .u8) := by
  induction l with
  | nil => rfl
  | cons a l ih => rw [List.flatMap_cons, ih]; rfl
theorem numsK_ok : (k : Ky) → (l : List (datK k)) → (ns : List Int) → numsK k l = some ns → l.flatMap (cellsK k) = ns.map (.n .u8) ∧ szK k = 1 := by
  intro k l ns h
  cases k <;> first | (cases h; done) | (cases h; exact ⟨flat_one _, rfl⟩)
theorem lenK (k : Ky) (x : datK k) : (cellsK k x).length = szK k := by cases k <;> rfl
theorem oneK (k : Ky) (x : datK k) : (cellsK k x).all acell1 = true := by cases k <;> rfl
theorem cloK (k : Ky) (x : datK k) (ρ : Gh) : (cellsK k x).map (AVq.sub ρ) = cellsK k x := sub_flat _ (by cases k <;> rfl) ρ
theorem ltdK (k : Ky) (x : datK k) (n : Nat) : ∀ c ∈ cellsK k x, Ltd n c := ltd_flat _ (by cases k <;> rfl) n
instance uniL : UniL where
  len := fun t x => lenK (ky t) x
  one := fun t x => oneK (ky t) x
  clo := fun t x ρ => cloK (ky t) x ρ
  ltd := fun t x n => ltdK (ky t) x n
  parse := fun t => parseK (ky t)
  parse_ok := fun t => parseK_ok (ky t)
  nums := fun t => numsK (ky t)
  nums_ok := fun t => numsK_ok (ky t)

end Go.Proofs.YtaonipoflmbhgaaGreat
