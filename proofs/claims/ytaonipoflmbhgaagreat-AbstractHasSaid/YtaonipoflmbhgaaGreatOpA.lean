/- Abstract observations and observations: what came in, opened. -/
import Derived.Test.YtaonipoflmbhgaaGreatUa
import Derived.Test.YtaonipoflmbhgaaGreatIw19
set_option linter.unusedSectionVars false
set_option linter.unusedVariables false
set_option linter.unusedSimpArgs false
namespace Go.Proofs.YtaonipoflmbhgaaGreat
open Go Go.Iv Go.RowKit Go.Deep Go.ChangeShapes Go.WideShapes Go.Joins
theorem list2 {α : Type} : ∀ {l : List α}, l.length = 2 → ∃ a b, l = [a, b]
  | [a, b], _ => ⟨a, b, rfl⟩
theorem list3 {α : Type} : ∀ {l : List α}, l.length = 3 → ∃ a b c, l = [a, b, c]
  | [a, b, c], _ => ⟨a, b, c, rfl⟩
theorem list8 {α : Type} : ∀ {l : List α}, l.length = 8 → ∃ a b c d e f g h, l = [a, b, c, d, e, f, g, h]
  | [a, b, c, d, e, f, g, h], _ => ⟨a, b, c, d, e, f, g, h, rfl⟩
set_option maxRecDepth 100000
section
variable {H : Type} {enc : TypeId × Value → H} {w : World}
def okI (n : Int) : Prop := (Lit.int .i64 n).wf = true
def okN (x : Num) : Prop := okI x.fLow ∧ okI x.fHigh ∧ okI x.fStep
theorem opn3 : Opn enc Tryz.prog w 3 (uni.cells 3) okI := Opn.int Tryz.underlying3
theorem opn34 : Opn enc Tryz.prog w 34 (uni.cells 34) okN := fun base fuel cs x h => by
  obtain ⟨y0, y1, y2, n, _, hl, h0, h1, h2⟩ := trod_struct3 Tryz.underlying34 h
  rw [show Tryz.prog.cellsOf 34 = 3 from by kernel_rfl] at hl
  obtain ⟨c0, c1, c2, rfl⟩ := list3 hl
  dsimp only at h0 h1 h2
  rw [show Tryz.prog.cellsOf 3 = 1 from by kernel_rfl] at h0 h1 h2
  obtain ⟨a0, k0, r0⟩ := opn3 _ _ _ _ h0
  obtain ⟨a1, k1, r1⟩ := opn3 _ _ _ _ h1
  obtain ⟨a2, k2, r2⟩ := opn3 _ _ _ _ h2
  exact ⟨(⟨a0, a1, a2⟩ : Num), ⟨k0, k1, k2⟩, RelL.app r0 (RelL.app r1 r2)⟩
theorem opn27 : Opn enc Tryz.prog w 27 (fun l : List (uni.Dat 3) => [.sl 3 l]) (fun l => l.length ≤ 9223372036854775807 ∧ ∀ a ∈ l, okI a) := Opn.slice (sz := 0) Tryz.underlying27 (by kernel_rfl) rfl opn3
theorem opn30 : Opn enc Tryz.prog w 30 (fun l : List (uni.Dat 34) => [.sl 34 l]) (fun l => l.length ≤ 9223372036854775807 ∧ ∀ a ∈ l, okN a) := Opn.slice (sz := 2) Tryz.underlying30 (by kernel_rfl) rfl opn34
theorem opn51 : Opn enc Tryz.prog w 51 (uni.cells 51) (fun _ => True) := fun base fuel cs x h => by
  obtain ⟨y0, y1, n, _, hl, h0, h1⟩ := trod_struct2 Tryz.underlying51 h
  rw [show Tryz.prog.cellsOf 51 = 2 from by kernel_rfl] at hl
  obtain ⟨c0, c1, rfl⟩ := list2 hl
  dsimp only at h0 h1
  rw [show Tryz.prog.cellsOf 27 = 1 from by kernel_rfl] at h0
  rw [show Tryz.prog.cellsOf 3 = 1 from by kernel_rfl] at h1
  obtain ⟨a0, _, r0⟩ := opn27 _ _ _ _ h0
  obtain ⟨a1, _, r1⟩ := opn3 _ _ _ _ h1
  exact ⟨(⟨a0, a1⟩ : Observation), trivial, RelL.app r0 r1⟩
theorem opn36 : Opn enc Tryz.prog w 36 (uni.cells 36) (fun _ => True) := fun base fuel cs x h => by
  obtain ⟨y0, y1, y2, y3, n, _, hl, h0, h1, h2, h3⟩ := trod_struct4 Tryz.underlying36 h
  rw [show Tryz.prog.cellsOf 36 = 8 from by kernel_rfl] at hl
  obtain ⟨c0, c1, c2, c3, c4, c5, c6, c7, rfl⟩ := list8 hl
  dsimp only at h0 h1 h2 h3
  rw [show Tryz.prog.cellsOf 34 = 3 from by kernel_rfl] at h0 h2
  rw [show Tryz.prog.cellsOf 30 = 1 from by kernel_rfl] at h1 h3
  obtain ⟨a0, _, r0⟩ := opn34 _ _ _ _ h0
  obtain ⟨a1, _, r1⟩ := opn30 _ _ _ _ h1
  obtain ⟨a2, _, r2⟩ := opn34 _ _ _ _ h2
  obtain ⟨a3, _, r3⟩ := opn30 _ _ _ _ h3
  exact ⟨(⟨a0, a1, a2, a3⟩ : Abstract), trivial, RelL.app r0 (RelL.app r1 (RelL.app r2 r3))⟩
end
end Go.Proofs.YtaonipoflmbhgaaGreat
