/- An array of two integers, opened. Program-independent. -/
import Derived.Test.YtodeffidnipelaaEvOpen
import Derived.OpenShut
namespace Go.Ev
open Go Go.RowKit Go.Deep Go.ChangeShapes Go.WideShapes Go.Joins
section
variable {H : Type} {enc : TypeId × Value → H} {P : Program} {w : World}
/-- an array of two integers -/
theorem open_pair {r : Reach} {b0 base : Nat} {spare : Nat → Bool} {held : Bool} {t e : TypeId} {v : Value} {d : DataW H} {p : List MemPlace} (hs : P.underlying t = some (.array 2 e)) (he : P.underlying e = some (.int .i64)) (hC : P.cellsOf t = 2) (hE : P.cellsOf e = 1)
    (hv : Value.okWide P w r b0 t v) (h : DataW.Trod enc P w base spare held t v d p) : ∃ x z : Int, v = .agg #[.int .i64 x, .int .i64 z] := by
  simp only [Value.okWide, hs] at hv
  obtain ⟨cs, rfl, hsz, _⟩ := hv
  have hsz := hsz.trans hC
  obtain ⟨c0, c1, rfl⟩ := array2 hsz
  obtain ⟨fuel, hf⟩ := h
  obtain ⟨xs, m, _, _, _, hl, hx⟩ := DataW.trod_array hs hf
  have h0 := hx 0 (by omega)
  have h1 := hx 1 (by omega)
  rw [List.getElem?_eq_getElem (by omega)] at h0 h1
  obtain ⟨a, ha, _⟩ := DataW.trod_int he h0
  obtain ⟨b, hb, _⟩ := DataW.trod_int he h1
  rw [hE] at ha hb
  by_cases ho : (Value.agg #[c0, c1]).cells = #[c0, c1]
  · rw [ho] at ha hb
    simp at ha hb
    exact ⟨a, b, by rw [ha, hb]⟩
  · exact absurd rfl ho
end
end Go.Ev
