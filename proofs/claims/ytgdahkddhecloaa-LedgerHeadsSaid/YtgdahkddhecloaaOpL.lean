/- Records, heads, bytes: what came in, opened. -/
import Derived.Test.YtgdahkddhecloaaUs
import Derived.Test.YtgdahkddhecloaaIy1
set_option linter.unusedSectionVars false
set_option linter.unusedVariables false
set_option linter.unusedSimpArgs false
namespace Go.Proofs.Ytgdahkddhecloaa
open Go Go.Iv Go.RowKit Go.Deep Go.ChangeShapes Go.WideShapes Go.Joins
theorem list9 {α : Type} : ∀ {l : List α}, l.length = 9 → ∃ a b c d e f g h i, l = [a, b, c, d, e, f, g, h, i]
  | [a, b, c, d, e, f, g, h, i], _ => ⟨a, b, c, d, e, f, g, h, i, rfl⟩
theorem list2 {α : Type} : ∀ {l : List α}, l.length = 2 → ∃ a b, l = [a, b]
  | [a, b], _ => ⟨a, b, rfl⟩
set_option maxRecDepth 100000
section
variable {H : Type} {enc : TypeId × Value → H} {w : World}
def okI (n : Int) : Prop := (Lit.int .i64 n).wf = true
def okB (n : Int) : Prop := (Lit.int .u8 n).wf = true
theorem opn3 : Opn enc Try.prog w 3 (uni.cells 3) okI := Opn.int Try.underlying3
theorem opn35 : Opn enc Try.prog w 35 (cN .i64) okI := Opn.int Try.underlying35
theorem opn5 : Opn enc Try.prog w 5 (uni.cells 5) okB := Opn.int Try.underlying5
theorem opn24 : Opn enc Try.prog w 24 (fun l : List (uni.Dat 5) => [.sl 5 l]) (fun l => l.length ≤ 9223372036854775807 ∧ ∀ a ∈ l, okB a) := Opn.slice (sz := 0) Try.underlying24 (by kernel_rfl) rfl opn5
theorem opn36 : Opn enc Try.prog w 36 (fun l : List (uni.Dat 3) => [.sl 3 l]) (fun l => l.length ≤ 9223372036854775807 ∧ ∀ a ∈ l, okI a) := Opn.slice (sz := 0) Try.underlying36 (by kernel_rfl) rfl opn3
theorem opnF {base n : Nat} {cs : List Value} {xs : List (DataW H × List MemPlace)} {i : Nat} (hi : i < xs.length) {v : Value} (hv : (cs.drop i).take 1 = [v])
    (h : DataW.trod enc Try.prog w base (fun _ => true) true n 3 ((cs.drop i).take (Try.prog.cellsOf 3)) = xs[i]?) : ∃ a, okI a ∧ Rel anyB w (.n .i64 a) v := by
  rw [show Try.prog.cellsOf 3 = 1 from by kernel_rfl, hv, List.getElem?_eq_getElem hi] at h
  obtain ⟨a, k, r⟩ := opn3 _ _ _ _ h
  exact ⟨a, k, r.2 0 _ _ rfl rfl⟩
theorem opn23 : Opn enc Try.prog w 23 (uni.cells 23) (fun _ => True) := fun base fuel cs x h => by
  obtain ⟨xs, n, _, rfl, hl, hlen, hf⟩ := DataW.trod_struct Try.underlying23 h
  rw [show Try.prog.cellsOf 23 = 9 from by kernel_rfl] at hl
  have hlen : xs.length = 9 := hlen
  obtain ⟨c0, c1, c2, c3, c4, c5, c6, c7, c8, rfl⟩ := list9 hl
  obtain ⟨a0, _, r0⟩ := opnF (i := 0) (by omega) rfl (hf 0 _ rfl)
  obtain ⟨a1, _, r1⟩ := opnF (i := 1) (by omega) rfl (hf 1 _ rfl)
  obtain ⟨a2, _, r2⟩ := opnF (i := 2) (by omega) rfl (hf 2 _ rfl)
  obtain ⟨a3, _, r3⟩ := opnF (i := 3) (by omega) rfl (hf 3 _ rfl)
  obtain ⟨a4, _, r4⟩ := opnF (i := 4) (by omega) rfl (hf 4 _ rfl)
  obtain ⟨a5, _, r5⟩ := opnF (i := 5) (by omega) rfl (hf 5 _ rfl)
  obtain ⟨a6, _, r6⟩ := opnF (i := 6) (by omega) rfl (hf 6 _ rfl)
  obtain ⟨a7, _, r7⟩ := opnF (i := 7) (by omega) rfl (hf 7 _ rfl)
  obtain ⟨a8, _, r8⟩ := opnF (i := 8) (by omega) rfl (hf 8 _ rfl)
  exact ⟨(⟨a0, a1, a2, a3, a4, a5, a6, a7, a8⟩ : Record), trivial, RelL.cons r0 (RelL.cons r1 (RelL.cons r2 (RelL.cons r3 (RelL.cons r4 (RelL.cons r5 (RelL.cons r6 (RelL.cons r7 (RelL.cons r8 RelL.nil))))))))⟩
theorem opn38 : Opn enc Try.prog w 38 (uni.cells 38) (fun _ => True) := fun base fuel cs x h => by
  obtain ⟨y0, y1, n, _, hl, h0, h1⟩ := trod_struct2 Try.underlying38 h
  rw [show Try.prog.cellsOf 38 = 2 from by kernel_rfl] at hl
  obtain ⟨c0, c1, rfl⟩ := list2 hl
  dsimp only at h0 h1
  rw [show Try.prog.cellsOf 35 = 1 from by kernel_rfl] at h0
  rw [show Try.prog.cellsOf 36 = 1 from by kernel_rfl] at h1
  obtain ⟨a0, _, r0⟩ := opn35 _ _ _ _ h0
  obtain ⟨a1, _, r1⟩ := opn36 _ _ _ _ h1
  exact ⟨(⟨a0, a1⟩ : Head), trivial, RelL.app r0 r1⟩
end
end Go.Proofs.Ytgdahkddhecloaa
