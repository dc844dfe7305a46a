/- The data of the Go types, and facts on the tables of types. -/
import Derived.Test.YtfipaakafcjjhaaAb7
import Derived.Test.YtfipaakafcjjhaaProg
set_option linter.unusedSectionVars false
set_option linter.unusedVariables false
set_option linter.unusedSimpArgs false
namespace Go.Proofs.Ytfipaakafcjjhaa
open Go.RowKit Go.Ab

structure Write where
  fAt : Int
  fData : List Int
  deriving Inhabited, DecidableEq
def Write.cells (x : Write) : List AV := [.i x.fAt, .sl 1 (cN .u8) x.fData]
structure Disk where
  fDurable : List (List Int)
  fPending : List Write
  fLeft : Int
  fDown : Bool
  deriving Inhabited, DecidableEq
def Disk.cells (x : Disk) : List AV := [.sl 1 (cL 1 (cN .u8)) x.fDurable, .sl 2 Write.cells x.fPending, .i x.fLeft, .b x.fDown]
theorem many26 : isMany Try.prog 26 4 := ⟨⟨_, Try.underlying26, trivial⟩, by kernel_rfl⟩
theorem many56 : isMany Try.prog 56 2 := ⟨⟨_, Try.underlying56, trivial⟩, by kernel_rfl⟩
theorem ok11 : fnOk Try.prog 11 := ⟨_, Try.func11, by kernel_rfl, rfl⟩
theorem ok12 : fnOk Try.prog 12 := ⟨_, Try.func12, by kernel_rfl, rfl⟩
theorem ok13 : fnOk Try.prog 13 := ⟨_, Try.func13, by kernel_rfl, rfl⟩
theorem ok14 : fnOk Try.prog 14 := ⟨_, Try.func14, by kernel_rfl, rfl⟩
theorem ok15 : fnOk Try.prog 15 := ⟨_, Try.func15, by kernel_rfl, rfl⟩
theorem ok16 : fnOk Try.prog 16 := ⟨_, Try.func16, by kernel_rfl, rfl⟩
theorem ok17 : fnOk Try.prog 17 := ⟨_, Try.func17, by kernel_rfl, rfl⟩
theorem ok18 : fnOk Try.prog 18 := ⟨_, Try.func18, by kernel_rfl, rfl⟩
theorem ok19 : fnOk Try.prog 19 := ⟨_, Try.func19, by kernel_rfl, rfl⟩
theorem ok20 : fnOk Try.prog 20 := ⟨_, Try.func20, by kernel_rfl, rfl⟩
theorem ok21 : fnOk Try.prog 21 := ⟨_, Try.func21, by kernel_rfl, rfl⟩
theorem ok22 : fnOk Try.prog 22 := ⟨_, Try.func22, by kernel_rfl, rfl⟩
theorem ok23 : fnOk Try.prog 23 := ⟨_, Try.func23, by kernel_rfl, rfl⟩
theorem ok24 : fnOk Try.prog 24 := ⟨_, Try.func24, by kernel_rfl, rfl⟩
theorem ok25 : fnOk Try.prog 25 := ⟨_, Try.func25, by kernel_rfl, rfl⟩
theorem ok26 : fnOk Try.prog 26 := ⟨_, Try.func26, by kernel_rfl, rfl⟩
theorem ok27 : fnOk Try.prog 27 := ⟨_, Try.func27, by kernel_rfl, rfl⟩
theorem ok28 : fnOk Try.prog 28 := ⟨_, Try.func28, by kernel_rfl, rfl⟩
theorem ok29 : fnOk Try.prog 29 := ⟨_, Try.func29, by kernel_rfl, rfl⟩
theorem ok30 : fnOk Try.prog 30 := ⟨_, Try.func30, by kernel_rfl, rfl⟩
theorem ok31 : fnOk Try.prog 31 := ⟨_, Try.func31, by kernel_rfl, rfl⟩
theorem ok32 : fnOk Try.prog 32 := ⟨_, Try.func32, by kernel_rfl, rfl⟩
theorem ok33 : fnOk Try.prog 33 := ⟨_, Try.func33, by kernel_rfl, rfl⟩
theorem ok34 : fnOk Try.prog 34 := ⟨_, Try.func34, by kernel_rfl, rfl⟩
theorem ok35 : fnOk Try.prog 35 := ⟨_, Try.func35, by kernel_rfl, rfl⟩
theorem ok36 : fnOk Try.prog 36 := ⟨_, Try.func36, by kernel_rfl, rfl⟩
theorem ok37 : fnOk Try.prog 37 := ⟨_, Try.func37, by kernel_rfl, rfl⟩
theorem ok39 : fnOk Try.prog 39 := ⟨_, Try.func39, by kernel_rfl, rfl⟩
theorem ok40 : fnOk Try.prog 40 := ⟨_, Try.func40, by kernel_rfl, rfl⟩
theorem ok41 : fnOk Try.prog 41 := ⟨_, Try.func41, by kernel_rfl, rfl⟩
theorem ok42 : fnOk Try.prog 42 := ⟨_, Try.func42, by kernel_rfl, rfl⟩
theorem ok43 : fnOk Try.prog 43 := ⟨_, Try.func43, by kernel_rfl, rfl⟩
theorem ok44 : fnOk Try.prog 44 := ⟨_, Try.func44, by kernel_rfl, rfl⟩
theorem ok45 : fnOk Try.prog 45 := ⟨_, Try.func45, by kernel_rfl, rfl⟩
theorem ok46 : fnOk Try.prog 46 := ⟨_, Try.func46, by kernel_rfl, rfl⟩
theorem ok47 : fnOk Try.prog 47 := ⟨_, Try.func47, by kernel_rfl, rfl⟩
theorem ok48 : fnOk Try.prog 48 := ⟨_, Try.func48, by kernel_rfl, rfl⟩
theorem ok49 : fnOk Try.prog 49 := ⟨_, Try.func49, by kernel_rfl, rfl⟩
theorem ok50 : fnOk Try.prog 50 := ⟨_, Try.func50, by kernel_rfl, rfl⟩
theorem ok54 : fnOk Try.prog 54 := ⟨_, Try.func54, by kernel_rfl, rfl⟩
theorem one23 : isOne Try.prog 23 := ⟨_, Try.underlying23, trivial⟩
theorem one24 : isOne Try.prog 24 := ⟨_, Try.underlying24, trivial⟩
theorem one29 : isOne Try.prog 29 := ⟨_, Try.underlying29, trivial⟩
theorem one3 : isOne Try.prog 3 := ⟨_, Try.underlying3, trivial⟩
theorem one4 : isOne Try.prog 4 := ⟨_, Try.underlying4, trivial⟩
theorem one5 : isOne Try.prog 5 := ⟨_, Try.underlying5, trivial⟩
theorem one57 : isOne Try.prog 57 := ⟨_, Try.underlying57, trivial⟩
theorem plc26 : placesOf Try.prog 26 = some [(0, 1), (1, 1), (2, 1), (3, 1)] := by kernel_rfl
theorem plc56 : placesOf Try.prog 56 = some [(0, 1), (1, 1)] := by kernel_rfl
theorem sz23 : (Try.prog.info? 23).map (·.size) = some 1 := by kernel_rfl
theorem sz24 : (Try.prog.info? 24).map (·.size) = some 1 := by kernel_rfl
theorem sz26 : (Try.prog.info? 26).map (·.size) = some 4 := by kernel_rfl
theorem sz29 : (Try.prog.info? 29).map (·.size) = some 1 := by kernel_rfl
theorem sz3 : (Try.prog.info? 3).map (·.size) = some 1 := by kernel_rfl
theorem sz4 : (Try.prog.info? 4).map (·.size) = some 1 := by kernel_rfl
theorem sz5 : (Try.prog.info? 5).map (·.size) = some 1 := by kernel_rfl
theorem sz56 : (Try.prog.info? 56).map (·.size) = some 2 := by kernel_rfl
theorem sz57 : (Try.prog.info? 57).map (·.size) = some 1 := by kernel_rfl
theorem szb29 : (Try.prog.info? 29).map (fun i => (i.size, i.bytes)) = some (1, 24) := by kernel_rfl
theorem szb5 : (Try.prog.info? 5).map (fun i => (i.size, i.bytes)) = some (1, 1) := by kernel_rfl
theorem szb56 : (Try.prog.info? 56).map (fun i => (i.size, i.bytes)) = some (2, 32) := by kernel_rfl
theorem zer26 : zerosOf Try.prog 26 = some [.slice none 0 0, .slice none 0 0, .int .i64 0, .bool false] := by kernel_rfl
theorem zer29 : zerosOf Try.prog 29 = some [.slice none 0 0] := by kernel_rfl
theorem zer5 : zerosOf Try.prog 5 = some [.int .u8 0] := by kernel_rfl
theorem zer56 : zerosOf Try.prog 56 = some [.int .i64 0, .slice none 0 0] := by kernel_rfl
theorem zerb26 : (Try.prog.info? 26).bind (fun i => i.zero.map (·.cells)) = some ([.slice none 0 0, .slice none 0 0, .int .i64 0, .bool false] : List Value).toArray := by kernel_rfl
theorem zerb3 : (Try.prog.info? 3).bind (fun i => i.zero.map (·.cells)) = some ([.int .i64 0] : List Value).toArray := by kernel_rfl
theorem zerb56 : (Try.prog.info? 56).bind (fun i => i.zero.map (·.cells)) = some ([.int .i64 0, .slice none 0 0] : List Value).toArray := by kernel_rfl
theorem zerb57 : (Try.prog.info? 57).bind (fun i => i.zero.map (·.cells)) = some ([.nilFunc] : List Value).toArray := by kernel_rfl
end Go.Proofs.Ytfipaakafcjjhaa
