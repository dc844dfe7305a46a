/- The data of the Go types. -/
import Derived.Test.YtgdahkddhecloaaIx2
import Derived.Test.YtgdahkddhecloaaProg
set_option linter.unusedSectionVars false
set_option linter.unusedVariables false
set_option linter.unusedSimpArgs false
namespace Go.Proofs.Ytgdahkddhecloaa
open Go Go.Iv

structure Record where
  fEpoch : Int
  fSeq : Int
  fSecret : Int
  fClient : Int
  fNumber : Int
  fProgram : Int
  fPublic : Int
  fAnswer : Int
  fCharge : Int
  deriving Inhabited, DecidableEq
structure Head where
  fMode : Int
  fBudgets : List Int
  deriving Inhabited, DecidableEq
structure Outcome where
  fCode : Int
  fOpened : Bool
  fList : List Record
  fEpoch : Int
  deriving Inhabited, DecidableEq
structure GEvent where
  fRecords : List Record
  fLeft : Int
  fCrash : Bool
  fKeep : List Bool
  deriving Inhabited, DecidableEq
structure Write where
  fAt : Int
  fData : List Int
  deriving Inhabited, DecidableEq
structure Disk where
  fDurable : List (List Int)
  fPending : List Write
  fLeft : Int
  fDown : Bool
  deriving Inhabited, DecidableEq
inductive Ky
  | k3
  | k4
  | k5
  | k22
  | k23
  | k24
  | k37
  | k38
  | k53
  | k54
  | k56
  | k57
  | k62
  | k63
  | k89
  | k90
  | no
def ky : Nat → Ky
  | 3 => .k3
  | 4 => .k4
  | 5 => .k5
  | 22 => .k22
  | 23 => .k23
  | 24 => .k24
  | 37 => .k37
  | 38 => .k38
  | 53 => .k53
  | 54 => .k54
  | 56 => .k56
  | 57 => .k57
  | 62 => .k62
  | 63 => .k63
  | 89 => .k89
  | 90 => .k90
  | _ => .no
def datK : Ky → Type
  | .k3 => Int
  | .k4 => Bool
  | .k5 => Int
  | .k22 => Record
  | .k23 => Record
  | .k24 => List Int
  | .k37 => Head
  | .k38 => Head
  | .k53 => Outcome
  | .k54 => Outcome
  | .k56 => GEvent
  | .k57 => GEvent
  | .k62 => Disk
  | .k63 => Disk
  | .k89 => Write
  | .k90 => Write
  | .no => Unit
abbrev datU (t : Nat) : Type := datK (ky t)
@[reducible] def inhK : (k : Ky) → Inhabited (datK k)
  | .k3 => ⟨(default : Int)⟩
  | .k4 => ⟨(default : Bool)⟩
  | .k5 => ⟨(default : Int)⟩
  | .k22 => ⟨(default : Record)⟩
  | .k23 => ⟨(default : Record)⟩
  | .k24 => ⟨(default : List Int)⟩
  | .k37 => ⟨(default : Head)⟩
  | .k38 => ⟨(default : Head)⟩
  | .k53 => ⟨(default : Outcome)⟩
  | .k54 => ⟨(default : Outcome)⟩
  | .k56 => ⟨(default : GEvent)⟩
  | .k57 => ⟨(default : GEvent)⟩
  | .k62 => ⟨(default : Disk)⟩
  | .k63 => ⟨(default : Disk)⟩
  | .k89 => ⟨(default : Write)⟩
  | .k90 => ⟨(default : Write)⟩
  | .no => ⟨()⟩
def szK : Ky → Nat
  | .k3 => 1
  | .k4 => 1
  | .k5 => 1
  | .k22 => 9
  | .k23 => 9
  | .k24 => 1
  | .k37 => 2
  | .k38 => 2
  | .k53 => 4
  | .k54 => 4
  | .k56 => 4
  | .k57 => 4
  | .k62 => 4
  | .k63 => 4
  | .k89 => 2
  | .k90 => 2
  | .no => 0
def cellsK : (k : Ky) → datK k → List (AVq datU)
  | .k3, x => (fun x : Int => [.n .i64 x]) x
  | .k4, x => (fun x : Bool => [.b x]) x
  | .k5, x => (fun x : Int => [.n .u8 x]) x
  | .k22, x => (fun x : Record => [.n .i64 x.fEpoch, .n .i64 x.fSeq, .n .i64 x.fSecret, .n .i64 x.fClient, .n .i64 x.fNumber, .n .i64 x.fProgram, .n .i64 x.fPublic, .n .i64 x.fAnswer, .n .i64 x.fCharge]) x
  | .k23, x => (fun x : Record => [.n .i64 x.fEpoch, .n .i64 x.fSeq, .n .i64 x.fSecret, .n .i64 x.fClient, .n .i64 x.fNumber, .n .i64 x.fProgram, .n .i64 x.fPublic, .n .i64 x.fAnswer, .n .i64 x.fCharge]) x
  | .k24, x => (fun x : List Int => [.sl 5 x]) x
  | .k37, x => (fun x : Head => [.n .i64 x.fMode, .sl 3 x.fBudgets]) x
  | .k38, x => (fun x : Head => [.n .i64 x.fMode, .sl 3 x.fBudgets]) x
  | .k53, x => (fun x : Outcome => [.n .i64 x.fCode, .b x.fOpened, .sl 23 x.fList, .n .i64 x.fEpoch]) x
  | .k54, x => (fun x : Outcome => [.n .i64 x.fCode, .b x.fOpened, .sl 23 x.fList, .n .i64 x.fEpoch]) x
  | .k56, x => (fun x : GEvent => [.sl 23 x.fRecords, .n .i64 x.fLeft, .b x.fCrash, .sl 4 x.fKeep]) x
  | .k57, x => (fun x : GEvent => [.sl 23 x.fRecords, .n .i64 x.fLeft, .b x.fCrash, .sl 4 x.fKeep]) x
  | .k62, x => (fun x : Disk => [.sl 24 x.fDurable, .sl 90 x.fPending, .n .i64 x.fLeft, .b x.fDown]) x
  | .k63, x => (fun x : Disk => [.sl 24 x.fDurable, .sl 90 x.fPending, .n .i64 x.fLeft, .b x.fDown]) x
  | .k89, x => (fun x : Write => [.n .i64 x.fAt, .sl 5 x.fData]) x
  | .k90, x => (fun x : Write => [.n .i64 x.fAt, .sl 5 x.fData]) x
  | .no, _ => []
instance uni : Uni := ⟨datU, fun t => inhK (ky t), fun t => szK (ky t), fun t => cellsK (ky t)⟩
def parseK : (k : Ky) → List AV → Option (datK k)
  | .k3 => fun cs => ((pkC (asI .i64) pkN) cs).map (fun g : Int × Unit => (g.1 : Int))
  | .k4 => fun cs => ((pkC asB pkN) cs).map (fun g : Bool × Unit => (g.1 : Bool))
  | .k5 => fun cs => ((pkC (asI .u8) pkN) cs).map (fun g : Int × Unit => (g.1 : Int))
  | .k22 => fun cs => ((pkC (asI .i64) (pkC (asI .i64) (pkC (asI .i64) (pkC (asI .i64) (pkC (asI .i64) (pkC (asI .i64) (pkC (asI .i64) (pkC (asI .i64) (pkC (asI .i64) pkN))))))))) cs).map (fun g : Int × Int × Int × Int × Int × Int × Int × Int × Int × Unit => ((Record.mk g.1 g.2.1 g.2.2.1 g.2.2.2.1 g.2.2.2.2.1 g.2.2.2.2.2.1 g.2.2.2.2.2.2.1 g.2.2.2.2.2.2.2.1 g.2.2.2.2.2.2.2.2.1) : Record))
  | .k23 => fun cs => ((pkC (asI .i64) (pkC (asI .i64) (pkC (asI .i64) (pkC (asI .i64) (pkC (asI .i64) (pkC (asI .i64) (pkC (asI .i64) (pkC (asI .i64) (pkC (asI .i64) pkN))))))))) cs).map (fun g : Int × Int × Int × Int × Int × Int × Int × Int × Int × Unit => ((Record.mk g.1 g.2.1 g.2.2.1 g.2.2.2.1 g.2.2.2.2.1 g.2.2.2.2.2.1 g.2.2.2.2.2.2.1 g.2.2.2.2.2.2.2.1 g.2.2.2.2.2.2.2.2.1) : Record))
  | .k24 => fun cs => ((pkC (asL 5) pkN) cs).map (fun g : (List (datU 5)) × Unit => (g.1 : List Int))
  | .k37 => fun cs => ((pkC (asI .i64) (pkC (asL 3) pkN)) cs).map (fun g : Int × (List (datU 3)) × Unit => ((Head.mk g.1 g.2.1) : Head))
  | .k38 => fun cs => ((pkC (asI .i64) (pkC (asL 3) pkN)) cs).map (fun g : Int × (List (datU 3)) × Unit => ((Head.mk g.1 g.2.1) : Head))
  | .k53 => fun cs => ((pkC (asI .i64) (pkC asB (pkC (asL 23) (pkC (asI .i64) pkN)))) cs).map (fun g : Int × Bool × (List (datU 23)) × Int × Unit => ((Outcome.mk g.1 g.2.1 g.2.2.1 g.2.2.2.1) : Outcome))
  | .k54 => fun cs => ((pkC (asI .i64) (pkC asB (pkC (asL 23) (pkC (asI .i64) pkN)))) cs).map (fun g : Int × Bool × (List (datU 23)) × Int × Unit => ((Outcome.mk g.1 g.2.1 g.2.2.1 g.2.2.2.1) : Outcome))
  | .k56 => fun cs => ((pkC (asL 23) (pkC (asI .i64) (pkC asB (pkC (asL 4) pkN)))) cs).map (fun g : (List (datU 23)) × Int × Bool × (List (datU 4)) × Unit => ((GEvent.mk g.1 g.2.1 g.2.2.1 g.2.2.2.1) : GEvent))
  | .k57 => fun cs => ((pkC (asL 23) (pkC (asI .i64) (pkC asB (pkC (asL 4) pkN)))) cs).map (fun g : (List (datU 23)) × Int × Bool × (List (datU 4)) × Unit => ((GEvent.mk g.1 g.2.1 g.2.2.1 g.2.2.2.1) : GEvent))
  | .k62 => fun cs => ((pkC (asL 24) (pkC (asL 90) (pkC (asI .i64) (pkC asB pkN)))) cs).map (fun g : (List (datU 24)) × (List (datU 90)) × Int × Bool × Unit => ((Disk.mk g.1 g.2.1 g.2.2.1 g.2.2.2.1) : Disk))
  | .k63 => fun cs => ((pkC (asL 24) (pkC (asL 90) (pkC (asI .i64) (pkC asB pkN)))) cs).map (fun g : (List (datU 24)) × (List (datU 90)) × Int × Bool × Unit => ((Disk.mk g.1 g.2.1 g.2.2.1 g.2.2.2.1) : Disk))
  | .k89 => fun cs => ((pkC (asI .i64) (pkC (asL 5) pkN)) cs).map (fun g : Int × (List (datU 5)) × Unit => ((Write.mk g.1 g.2.1) : Write))
  | .k90 => fun cs => ((pkC (asI .i64) (pkC (asL 5) pkN)) cs).map (fun g : Int × (List (datU 5)) × Unit => ((Write.mk g.1 g.2.1) : Write))
  | .no => fun _ => none
theorem parseK_ok : (k : Ky) → Pk (parseK k) (cellsK k)
  | .k3 => Pk.map (fun g : Int × Unit => (g.1 : Int)) (.cons (.i .i64) .nil) (fun _ => rfl)
  | .k4 => Pk.map (fun g : Bool × Unit => (g.1 : Bool)) (.cons .b .nil) (fun _ => rfl)
  | .k5 => Pk.map (fun g : Int × Unit => (g.1 : Int)) (.cons (.i .u8) .nil) (fun _ => rfl)
  | .k22 => Pk.map (fun g : Int × Int × Int × Int × Int × Int × Int × Int × Int × Unit => ((Record.mk g.1 g.2.1 g.2.2.1 g.2.2.2.1 g.2.2.2.2.1 g.2.2.2.2.2.1 g.2.2.2.2.2.2.1 g.2.2.2.2.2.2.2.1 g.2.2.2.2.2.2.2.2.1) : Record)) (.cons (.i .i64) (.cons (.i .i64) (.cons (.i .i64) (.cons (.i .i64) (.cons (.i .i64) (.cons (.i .i64) (.cons (.i .i64) (.cons (.i .i64) (.cons (.i .i64) .nil))))))))) (fun _ => rfl)
  | .k23 => Pk.map (fun g : Int × Int × Int × Int × Int × Int × Int × Int × Int × Unit => ((Record.mk g.1 g.2.1 g.2.2.1 g.2.2.2.1 g.2.2.2.2.1 g.2.2.2.2.2.1 g.2.2.2.2.2.2.1 g.2.2.2.2.2.2.2.1 g.2.2.2.2.2.2.2.2.1) : Record)) (.cons (.i .i64) (.cons (.i .i64) (.cons (.i .i64) (.cons (.i .i64) (.cons (.i .i64) (.cons (.i .i64) (.cons (.i .i64) (.cons (.i .i64) (.cons (.i .i64) .nil))))))))) (fun _ => rfl)
  | .k24 => Pk.map (fun g : (List (datU 5)) × Unit => (g.1 : List Int)) (.cons (.l 5) .nil) (fun _ => rfl)
  | .k37 => Pk.map (fun g : Int × (List (datU 3)) × Unit => ((Head.mk g.1 g.2.1) : Head)) (.cons (.i .i64) (.cons (.l 3) .nil)) (fun _ => rfl)
  | .k38 => Pk.map (fun g : Int × (List (datU 3)) × Unit => ((Head.mk g.1 g.2.1) : Head)) (.cons (.i .i64) (.cons (.l 3) .nil)) (fun _ => rfl)
  | .k53 => Pk.map (fun g : Int × Bool × (List (datU 23)) × Int × Unit => ((Outcome.mk g.1 g.2.1 g.2.2.1 g.2.2.2.1) : Outcome)) (.cons (.i .i64) (.cons .b (.cons (.l 23) (.cons (.i .i64) .nil)))) (fun _ => rfl)
  | .k54 => Pk.map (fun g : Int × Bool × (List (datU 23)) × Int × Unit => ((Outcome.mk g.1 g.2.1 g.2.2.1 g.2.2.2.1) : Outcome)) (.cons (.i .i64) (.cons .b (.cons (.l 23) (.cons (.i .i64) .nil)))) (fun _ => rfl)
  | .k56 => Pk.map (fun g : (List (datU 23)) × Int × Bool × (List (datU 4)) × Unit => ((GEvent.mk g.1 g.2.1 g.2.2.1 g.2.2.2.1) : GEvent)) (.cons (.l 23) (.cons (.i .i64) (.cons .b (.cons (.l 4) .nil)))) (fun _ => rfl)
  | .k57 => Pk.map (fun g : (List (datU 23)) × Int × Bool × (List (datU 4)) × Unit => ((GEvent.mk g.1 g.2.1 g.2.2.1 g.2.2.2.1) : GEvent)) (.cons (.l 23) (.cons (.i .i64) (.cons .b (.cons (.l 4) .nil)))) (fun _ => rfl)
  | .k62 => Pk.map (fun g : (List (datU 24)) × (List (datU 90)) × Int × Bool × Unit => ((Disk.mk g.1 g.2.1 g.2.2.1 g.2.2.2.1) : Disk)) (.cons (.l 24) (.cons (.l 90) (.cons (.i .i64) (.cons .b .nil)))) (fun _ => rfl)
  | .k63 => Pk.map (fun g : (List (datU 24)) × (List (datU 90)) × Int × Bool × Unit => ((Disk.mk g.1 g.2.1 g.2.2.1 g.2.2.2.1) : Disk)) (.cons (.l 24) (.cons (.l 90) (.cons (.i .i64) (.cons .b .nil)))) (fun _ => rfl)
  | .k89 => Pk.map (fun g : Int × (List (datU 5)) × Unit => ((Write.mk g.1 g.2.1) : Write)) (.cons (.i .i64) (.cons (.l 5) .nil)) (fun _ => rfl)
  | .k90 => Pk.map (fun g : Int × (List (datU 5)) × Unit => ((Write.mk g.1 g.2.1) : Write)) (.cons (.i .i64) (.cons (.l 5) .nil)) (fun _ => rfl)
  | .no => .none
def numsK : (k : Ky) → List (datK k) → Option (List Int)
  | .k5, l => some l
  | _, _ => none
theorem flat_one (l : List Int) : l.flatMap (fun x => [AVq.n (Dat := datU) .u8 x]) = l.map (.n .u8) := by
  induction l with
  | nil => rfl
  | cons a l ih => rw [List.flatMap_cons, ih]; rfl
theorem numsK_ok : (k : Ky) → (l : List (datK k)) → (ns : List Int) → numsK k l = some ns → l.flatMap (cellsK k) = ns.map (.n .u8) ∧ szK k = 1 := by
  intro k l ns h
  cases k <;> first | (cases h; done) | (cases h; exact ⟨flat_one _, rfl⟩)
theorem lenK (k : Ky) (x : datK k) : (cellsK k x).length = szK k := by cases k <;> rfl
theorem oneK (k : Ky) (x : datK k) : (cellsK k x).all acell1 = true := by cases k <;> rfl
theorem cloK (k : Ky) (x : datK k) (ρ : Gh) : (cellsK k x).map (AVq.sub ρ) = cellsK k x := sub_flat _ (by cases k <;> rfl) ρ
theorem ltdK (k : Ky) (x : datK k) (n : Nat) : ∀ c ∈ cellsK k x, Ltd n c := ltd_flat _ (by cases k <;> rfl) n
instance uniL : UniL where
  len := fun t x => lenK (ky t) x
  one := fun t x => oneK (ky t) x
  clo := fun t x ρ => cloK (ky t) x ρ
  ltd := fun t x n => ltdK (ky t) x n
  parse := fun t => parseK (ky t)
  parse_ok := fun t => parseK_ok (ky t)
  nums := fun t => numsK (ky t)
  nums_ok := fun t => numsK_ok (ky t)
  fz := fun f => Nat.beq f 48

end Go.Proofs.Ytgdahkddhecloaa
