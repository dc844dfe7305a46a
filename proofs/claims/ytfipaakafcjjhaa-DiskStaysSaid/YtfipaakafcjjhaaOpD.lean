/- Disks, bytes, truth values: what came in, opened. -/
import Derived.Test.YtfipaakafcjjhaaTy
import Derived.Test.YtfipaakafcjjhaaOp
set_option linter.unusedSectionVars false
set_option linter.unusedVariables false
set_option linter.unusedSimpArgs false
namespace Go.Proofs.Ytfipaakafcjjhaa
open Go Go.RowKit Go.Ab Go.Deep Go.ChangeShapes Go.WideShapes Go.Joins
section
variable {H : Type} {enc : TypeId × Value → H} {w : World}
def okB (l : List Int) : Prop := l.length ≤ 9223372036854775807 ∧ ∀ a ∈ l, (Lit.int .u8 a).wf = true
def okW (x : Write) : Prop := (Lit.int .i64 x.fAt).wf = true ∧ okB x.fData
def okD (x : Disk) : Prop := (x.fDurable.length ≤ 9223372036854775807 ∧ ∀ a ∈ x.fDurable, okB a) ∧ (x.fPending.length ≤ 9223372036854775807 ∧ ∀ a ∈ x.fPending, okW a) ∧ (Lit.int .i64 x.fLeft).wf = true
theorem opn29 : Opn enc Try.prog w 29 (cL 1 (cN .u8)) okB := Opn.slice Try.underlying29 (by kernel_rfl) (Opn.int Try.underlying5)
theorem opn23 : Opn enc Try.prog w 23 (cL 1 (cL 1 (cN .u8))) (fun l => l.length ≤ 9223372036854775807 ∧ ∀ a ∈ l, okB a) := Opn.slice Try.underlying23 (by kernel_rfl) opn29
theorem opn56 : Opn enc Try.prog w 56 Write.cells okW := fun base fuel cs x h => by
  obtain ⟨y0, y1, n, _, hl, h0, h1⟩ := trod_struct2 Try.underlying56 h
  rw [show Try.prog.cellsOf 56 = 2 from by kernel_rfl] at hl
  match cs, hl with
  | [c0, c1], _ =>
    dsimp only at h0 h1
    rw [show Try.prog.cellsOf 3 = 1 from by kernel_rfl] at h0
    rw [show Try.prog.cellsOf 29 = 1 from by kernel_rfl] at h1
    obtain ⟨a0, k0, r0⟩ := Opn.int Try.underlying3 _ _ _ _ h0
    obtain ⟨a1, k1, r1⟩ := opn29 _ _ _ _ h1
    exact ⟨⟨a0, a1⟩, ⟨k0, k1⟩, RelL.app r0 r1⟩
theorem opn24 : Opn enc Try.prog w 24 (cL 2 Write.cells) (fun l => l.length ≤ 9223372036854775807 ∧ ∀ a ∈ l, okW a) := Opn.slice Try.underlying24 (by kernel_rfl) opn56
theorem opn26 : Opn enc Try.prog w 26 Disk.cells okD := fun base fuel cs x h => by
  obtain ⟨y0, y1, y2, y3, n, _, hl, h0, h1, h2, h3⟩ := trod_struct4 Try.underlying26 h
  rw [show Try.prog.cellsOf 26 = 4 from by kernel_rfl] at hl
  match cs, hl with
  | [c0, c1, c2, c3], _ =>
    dsimp only at h0 h1 h2 h3
    rw [show Try.prog.cellsOf 23 = 1 from by kernel_rfl] at h0
    rw [show Try.prog.cellsOf 24 = 1 from by kernel_rfl] at h1
    rw [show Try.prog.cellsOf 3 = 1 from by kernel_rfl] at h2
    rw [show Try.prog.cellsOf 4 = 1 from by kernel_rfl] at h3
    obtain ⟨a0, k0, r0⟩ := opn23 _ _ _ _ h0
    obtain ⟨a1, k1, r1⟩ := opn24 _ _ _ _ h1
    obtain ⟨a2, k2, r2⟩ := Opn.int Try.underlying3 _ _ _ _ h2
    obtain ⟨a3, _, r3⟩ := Opn.bool Try.underlying4 _ _ _ _ h3
    exact ⟨⟨a0, a1, a2, a3⟩, ⟨k0, k1, k2⟩, RelL.app r0 (RelL.app r1 (RelL.app r2 r3))⟩
theorem opn44 : Opn enc Try.prog w 44 (cL 1 cB) (fun l => l.length ≤ 9223372036854775807 ∧ ∀ a ∈ l, True) := Opn.slice Try.underlying44 (by kernel_rfl) (Opn.bool Try.underlying4)
end
end Go.Proofs.Ytfipaakafcjjhaa
