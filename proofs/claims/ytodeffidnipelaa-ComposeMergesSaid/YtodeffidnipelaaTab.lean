/- Facts on the tables of types. -/
import Derived.Test.YtodeffidnipelaaEvRep
import Derived.Test.YtodeffidnipelaaProg
namespace Go.Proofs.Ytodeffidnipelaa
open Go.RowKit Go.Ev

theorem info24 : (Try.prog.info? 24).map (fun i => (i.zero, i.size, i.bytes)) = some (some (.agg #[.slice none 0 0]), 1, 24) := by kernel_rfl
theorem info3 : (Try.prog.info? 3).map (fun i => (i.zero, i.size, i.bytes)) = some (some (.int .i64 0), 1, 8) := by kernel_rfl
theorem info31 : (Try.prog.info? 31).map (fun i => (i.zero, i.size, i.bytes)) = some (some (.slice none 0 0), 1, 24) := by kernel_rfl
theorem built124 (p : Option Addr) (n c : Nat) : Try.prog.built 24 [(0, .slice p n c)] = some #[.slice p n c] := by kernel_rfl
theorem built24 : Try.prog.built 24 [] = some #[.slice none 0 0] := by kernel_rfl
theorem many24 : isMany Try.prog 24 1 := ⟨⟨_, Try.underlying24, trivial⟩, by kernel_rfl⟩
theorem mk3 : ∃ i, Try.prog.info? 3 = some i ∧ i.size = 1 ∧ i.zero = some (.int .i64 0) ∧ i.bytes ≤ 64 := let ⟨i, h1, h2, h3, h4⟩ := info_of info3; ⟨i, h1, h3, h2, by rw [h4]; decide⟩
theorem mkx3 : ∃ i, Try.prog.info? 3 = some i ∧ i.size = 1 ∧ i.bytes ≤ 64 ∧ ∃ z, i.zero = some z ∧ z.cells.size = 1 := let ⟨i, h1, h2, h3, h4⟩ := info_of info3; ⟨i, h1, h3, by rw [h4]; decide, _, h2, rfl⟩
theorem mkx31 : ∃ i, Try.prog.info? 31 = some i ∧ i.size = 1 ∧ i.bytes ≤ 64 ∧ ∃ z, i.zero = some z ∧ z.cells.size = 1 := let ⟨i, h1, h2, h3, h4⟩ := info_of info31; ⟨i, h1, h3, by rw [h4]; decide, _, h2, rfl⟩
theorem ok12 : fnOk Try.prog 12 := ⟨_, Try.func12, by kernel_rfl, rfl⟩
theorem ok13 : fnOk Try.prog 13 := ⟨_, Try.func13, by kernel_rfl, rfl⟩
theorem ok14 : fnOk Try.prog 14 := ⟨_, Try.func14, by kernel_rfl, rfl⟩
theorem ok15 : fnOk Try.prog 15 := ⟨_, Try.func15, by kernel_rfl, rfl⟩
theorem ok16 : fnOk Try.prog 16 := ⟨_, Try.func16, by kernel_rfl, rfl⟩
theorem ok17 : fnOk Try.prog 17 := ⟨_, Try.func17, by kernel_rfl, rfl⟩
theorem ok18 : fnOk Try.prog 18 := ⟨_, Try.func18, by kernel_rfl, rfl⟩
theorem ok19 : fnOk Try.prog 19 := ⟨_, Try.func19, by kernel_rfl, rfl⟩
theorem ok20 : fnOk Try.prog 20 := ⟨_, Try.func20, by kernel_rfl, rfl⟩
theorem ok21 : fnOk Try.prog 21 := ⟨_, Try.func21, by kernel_rfl, rfl⟩
theorem ok27 : fnOk Try.prog 27 := ⟨_, Try.func27, by kernel_rfl, rfl⟩
theorem ok28 : fnOk Try.prog 28 := ⟨_, Try.func28, by kernel_rfl, rfl⟩
theorem ok32 : fnOk Try.prog 32 := ⟨_, Try.func32, by kernel_rfl, rfl⟩
theorem ok34 : fnOk Try.prog 34 := ⟨_, Try.func34, by kernel_rfl, rfl⟩
theorem ok35 : fnOk Try.prog 35 := ⟨_, Try.func35, by kernel_rfl, rfl⟩
theorem ok37 : fnOk Try.prog 37 := ⟨_, Try.func37, by kernel_rfl, rfl⟩
theorem ok39 : fnOk Try.prog 39 := ⟨_, Try.func39, by kernel_rfl, rfl⟩
theorem ok40 : fnOk Try.prog 40 := ⟨_, Try.func40, by kernel_rfl, rfl⟩
theorem ok41 : fnOk Try.prog 41 := ⟨_, Try.func41, by kernel_rfl, rfl⟩
theorem ok42 : fnOk Try.prog 42 := ⟨_, Try.func42, by kernel_rfl, rfl⟩
theorem ok43 : fnOk Try.prog 43 := ⟨_, Try.func43, by kernel_rfl, rfl⟩
theorem ok44 : fnOk Try.prog 44 := ⟨_, Try.func44, by kernel_rfl, rfl⟩
theorem ok45 : fnOk Try.prog 45 := ⟨_, Try.func45, by kernel_rfl, rfl⟩
theorem ok46 : fnOk Try.prog 46 := ⟨_, Try.func46, by kernel_rfl, rfl⟩
theorem ok47 : fnOk Try.prog 47 := ⟨_, Try.func47, by kernel_rfl, rfl⟩
theorem ok48 : fnOk Try.prog 48 := ⟨_, Try.func48, by kernel_rfl, rfl⟩
theorem ok49 : fnOk Try.prog 49 := ⟨_, Try.func49, by kernel_rfl, rfl⟩
theorem ok50 : fnOk Try.prog 50 := ⟨_, Try.func50, by kernel_rfl, rfl⟩
theorem ok51 : fnOk Try.prog 51 := ⟨_, Try.func51, by kernel_rfl, rfl⟩
theorem ok53 : fnOk Try.prog 53 := ⟨_, Try.func53, by kernel_rfl, rfl⟩
theorem ok55 : fnOk Try.prog 55 := ⟨_, Try.func55, by kernel_rfl, rfl⟩
theorem ok56 : fnOk Try.prog 56 := ⟨_, Try.func56, by kernel_rfl, rfl⟩
theorem ok57 : fnOk Try.prog 57 := ⟨_, Try.func57, by kernel_rfl, rfl⟩
theorem ok58 : fnOk Try.prog 58 := ⟨_, Try.func58, by kernel_rfl, rfl⟩
theorem one22 : isOne Try.prog 22 := ⟨_, Try.underlying22, trivial⟩
theorem one3 : isOne Try.prog 3 := ⟨_, Try.underlying3, trivial⟩
theorem one31 : isOne Try.prog 31 := ⟨_, Try.underlying31, trivial⟩
theorem sz22 : (Try.prog.info? 22).map (·.size) = some 1 := by kernel_rfl
theorem sz24 : (Try.prog.info? 24).map (·.size) = some 1 := by kernel_rfl
theorem sz3 : (Try.prog.info? 3).map (·.size) = some 1 := by kernel_rfl
theorem sz31 : (Try.prog.info? 31).map (·.size) = some 1 := by kernel_rfl
theorem zero24 : ∃ i, Try.prog.info? 24 = some i ∧ i.zero = some (.agg #[.slice none 0 0]) := let ⟨i, h1, h2, _, _⟩ := info_of info24; ⟨i, h1, h2⟩
theorem zero3 : ∃ i, Try.prog.info? 3 = some i ∧ i.zero = some (.int .i64 0) := let ⟨i, h1, h2, _, _⟩ := info_of info3; ⟨i, h1, h2⟩

end Go.Proofs.Ytodeffidnipelaa
