/- The data of the Go types, and facts on the tables of types. -/
import Derived.Test.YtgdahkddhecloaaAb8
import Derived.Test.YtgdahkddhecloaaProg
set_option linter.unusedSectionVars false
set_option linter.unusedVariables false
set_option linter.unusedSimpArgs false
namespace Go.Proofs.YtgdahkddhecloaaD
open Go.RowKit Go.Ab

structure Write where
  fAt : Int
  fData : List Int
  deriving Inhabited, DecidableEq
def Write.cells (x : Write) : List AV := [.i x.fAt, .sl 1 (cN .u8) x.fData]
structure Disk where
  fDurable : List (List Int)
  fPending : List Write
  fLeft : Int
  fDown : Bool
  deriving Inhabited, DecidableEq
def Disk.cells (x : Disk) : List AV := [.sl 1 (cL 1 (cN .u8)) x.fDurable, .sl 2 Write.cells x.fPending, .i x.fLeft, .b x.fDown]
structure Record where
  fEpoch : Int
  fSeq : Int
  fSecret : Int
  fClient : Int
  fNumber : Int
  fProgram : Int
  fPublic : Int
  fAnswer : Int
  fCharge : Int
  deriving Inhabited, DecidableEq
def Record.cells (x : Record) : List AV := [.i x.fEpoch, .i x.fSeq, .i x.fSecret, .i x.fClient, .i x.fNumber, .i x.fProgram, .i x.fPublic, .i x.fAnswer, .i x.fCharge]
theorem many63 : isMany Try.prog 63 4 := ⟨⟨_, Try.underlying63, trivial⟩, by kernel_rfl⟩
theorem many72 : isMany Try.prog 72 9 := ⟨⟨_, Try.underlying72, trivial⟩, by kernel_rfl⟩
theorem many90 : isMany Try.prog 90 2 := ⟨⟨_, Try.underlying90, trivial⟩, by kernel_rfl⟩
theorem ok29 : fnOk Try.prog 29 := ⟨_, Try.func29, by kernel_rfl, rfl⟩
theorem ok30 : fnOk Try.prog 30 := ⟨_, Try.func30, by kernel_rfl, rfl⟩
theorem ok31 : fnOk Try.prog 31 := ⟨_, Try.func31, by kernel_rfl, rfl⟩
theorem ok32 : fnOk Try.prog 32 := ⟨_, Try.func32, by kernel_rfl, rfl⟩
theorem ok45 : fnOk Try.prog 45 := ⟨_, Try.func45, by kernel_rfl, rfl⟩
theorem ok53 : fnOk Try.prog 53 := ⟨_, Try.func53, by kernel_rfl, rfl⟩
theorem ok54 : fnOk Try.prog 54 := ⟨_, Try.func54, by kernel_rfl, rfl⟩
theorem ok55 : fnOk Try.prog 55 := ⟨_, Try.func55, by kernel_rfl, rfl⟩
theorem ok56 : fnOk Try.prog 56 := ⟨_, Try.func56, by kernel_rfl, rfl⟩
theorem ok57 : fnOk Try.prog 57 := ⟨_, Try.func57, by kernel_rfl, rfl⟩
theorem ok60 : fnOk Try.prog 60 := ⟨_, Try.func60, by kernel_rfl, rfl⟩
theorem ok64 : fnOk Try.prog 64 := ⟨_, Try.func64, by kernel_rfl, rfl⟩
theorem ok65 : fnOk Try.prog 65 := ⟨_, Try.func65, by kernel_rfl, rfl⟩
theorem one24 : isOne Try.prog 24 := ⟨_, Try.underlying24, trivial⟩
theorem one26 : isOne Try.prog 26 := ⟨_, Try.underlying26, trivial⟩
theorem one3 : isOne Try.prog 3 := ⟨_, Try.underlying3, trivial⟩
theorem one4 : isOne Try.prog 4 := ⟨_, Try.underlying4, trivial⟩
theorem one60 : isOne Try.prog 60 := ⟨_, Try.underlying60, trivial⟩
theorem one61 : isOne Try.prog 61 := ⟨_, Try.underlying61, trivial⟩
theorem one71 : isOne Try.prog 71 := ⟨_, Try.underlying71, trivial⟩
theorem one93 : isOne Try.prog 93 := ⟨_, Try.underlying93, trivial⟩
theorem sz24 : (Try.prog.info? 24).map (·.size) = some 1 := by kernel_rfl
theorem sz26 : (Try.prog.info? 26).map (·.size) = some 1 := by kernel_rfl
theorem sz3 : (Try.prog.info? 3).map (·.size) = some 1 := by kernel_rfl
theorem sz4 : (Try.prog.info? 4).map (·.size) = some 1 := by kernel_rfl
theorem sz5 : (Try.prog.info? 5).map (·.size) = some 1 := by kernel_rfl
theorem sz60 : (Try.prog.info? 60).map (·.size) = some 1 := by kernel_rfl
theorem sz61 : (Try.prog.info? 61).map (·.size) = some 1 := by kernel_rfl
theorem sz63 : (Try.prog.info? 63).map (·.size) = some 4 := by kernel_rfl
theorem sz71 : (Try.prog.info? 71).map (·.size) = some 1 := by kernel_rfl
theorem sz72 : (Try.prog.info? 72).map (·.size) = some 9 := by kernel_rfl
theorem sz90 : (Try.prog.info? 90).map (·.size) = some 2 := by kernel_rfl
theorem sz93 : (Try.prog.info? 93).map (·.size) = some 1 := by kernel_rfl
theorem szb5 : (Try.prog.info? 5).map (fun i => (i.size, i.bytes)) = some (1, 1) := by kernel_rfl
theorem zer3 : zerosOf Try.prog 3 = some [.int .i64 0] := by kernel_rfl
theorem zer5 : zerosOf Try.prog 5 = some [.int .u8 0] := by kernel_rfl
theorem zer72 : zerosOf Try.prog 72 = some [.pointer none, .pointer none, .pointer none, .pointer none, .pointer none, .pointer none, .pointer none, .pointer none, .pointer none] := by kernel_rfl
theorem zerb3 : (Try.prog.info? 3).bind (fun i => i.zero.map (·.cells)) = some ([.int .i64 0] : List Value).toArray := by kernel_rfl
theorem zerb72 : (Try.prog.info? 72).bind (fun i => i.zero.map (·.cells)) = some ([.pointer none, .pointer none, .pointer none, .pointer none, .pointer none, .pointer none, .pointer none, .pointer none, .pointer none] : List Value).toArray := by kernel_rfl
theorem zerb90 : (Try.prog.info? 90).bind (fun i => i.zero.map (·.cells)) = some ([.int .i64 0, .slice none 0 0] : List Value).toArray := by kernel_rfl
theorem zerb93 : (Try.prog.info? 93).bind (fun i => i.zero.map (·.cells)) = some ([.nilFunc] : List Value).toArray := by kernel_rfl
end Go.Proofs.YtgdahkddhecloaaD
