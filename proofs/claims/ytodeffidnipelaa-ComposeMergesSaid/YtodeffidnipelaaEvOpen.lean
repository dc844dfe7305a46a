/- Arguments opened: what came in as data, as the calculus reads it. Program-independent. -/
import Derived.Test.YtodeffidnipelaaEvRep
import Derived.Deep.Matrix
import Derived.Lib.SmallJoins
namespace Go.Ev
open Go Go.RowKit Go.Deep Go.ChangeShapes Go.WideShapes Go.Joins

section
variable {H : Type} {enc : TypeId × Value → H} {P : Program} {w : World}

theorem cell_form {a : Addr} {i : Nat} {v : Value} (h : w.cell? (a.add i) = some v) (h0 : i = 0 ∨ w.cell? (a.add 0) ≠ none) : ∃ b off, a = ⟨b, off, none⟩ ∧ w.cell? ⟨b, off + i, none⟩ = some v := by
  have hs : a.spot = none := by
    rcases h0 with rfl | h0
    · simpa [Addr.add] using World.cell?_spot h
    · cases hc : w.cell? (a.add 0) with
      | none => exact absurd hc h0
      | some u => simpa [Addr.add] using World.cell?_spot hc
  obtain ⟨b, off, spot⟩ := a
  subst hs
  exact ⟨b, off, rfl, by rw [← add_plain]; exact h⟩

theorem RInts.open {t e : TypeId} {v : Value} {d : DataW H} {p : List MemPlace} {base : Nat} (ht : P.underlying t = some (.slice e)) (he : P.underlying e = some (.int .i64)) (hc : P.cellsOf e = 1)
    (h : ∃ fuel, DataW.trod enc P w base (fun _ => true) true fuel t [v] = some (d, p)) : ∃ l, RInts 0 w.heap.size w v l := by
  obtain ⟨fuel, hf⟩ := h
  rcases open_ints ht he hc hf with ⟨hcs, _⟩ | ⟨a, len, cap, zs, hcs, _, hl, hm, hz, _, hcell, _⟩
  · simp only [List.cons.injEq, and_true] at hcs
    subst hcs
    exact ⟨[], Sl.nil _ _ _ _⟩
  · simp only [List.cons.injEq, and_true] at hcs
    subst hcs
    simp only [if_true] at hz
    have hln : (zs.take len).length = len := by rw [List.length_take]; omega
    refine ⟨zs.take len, some a, cap, by rw [hln], by rw [hln]; unfold maxLen at hm; omega, fun i hi => ?_⟩
    rw [hln] at hi
    have hi' : i < zs.length := by omega
    obtain ⟨b, off, rfl, hb⟩ := cell_form (hcell i hi') (.inr (by rw [hcell 0 (by omega)]; simp))
    refine ⟨b, off, _, rfl, Nat.zero_le _, World.block_lt_of_cell? w _ hb, hb, ?_⟩
    have h1 : (zs.take len)[i]! = zs.getD i 0 := by
      rw [getElem!_pos _ i (by rw [hln]; exact hi), List.getElem_take, List.getD_eq_getElem?_getD, List.getElem?_eq_getElem hi']
      rfl
    show _ = _
    rw [h1]

theorem RRows.open {t e q : TypeId} {v : Value} {d : DataW H} {p : List MemPlace} {base : Nat} (ht : P.underlying t = some (.slice e)) (he : P.underlying e = some (.slice q)) (hq : P.underlying q = some (.int .i64))
    (ce : P.cellsOf e = 1) (cq : P.cellsOf q = 1) (h : ∃ fuel, DataW.trod enc P w base (fun _ => true) true fuel t [v] = some (d, p)) : ∃ m, RRows 0 w.heap.size w v m := by
  obtain ⟨fuel, hf⟩ := h
  rcases open_int_rows ht he hq ce cq hf with ⟨hcs, _⟩ | ⟨a, len, cap, A, L, C, Z, hcs, _, hl, hm, _, hr⟩
  · simp only [List.cons.injEq, and_true] at hcs
    subst hcs
    exact ⟨[], Sl.nil _ _ _ _⟩
  · simp only [List.cons.injEq, and_true] at hcs
    subst hcs
    refine ⟨(List.range len).map fun r => (Z r).take (L r), some a, cap, by simp, by simp; unfold maxLen at hm; omega, fun i hi => ?_⟩
    have hi' : i < len := by simpa using hi
    obtain ⟨h1, h2, h3, h4, _, h6, h7⟩ := hr i (by omega)
    obtain ⟨b, off, rfl, hb⟩ := cell_form h1 (.inr (by rw [(hr 0 (by omega)).1]; simp))
    refine ⟨b, off, _, rfl, Nat.zero_le _, World.block_lt_of_cell? w _ hb, hb, ?_⟩
    have hg : ((List.range len).map fun r => (Z r).take (L r))[i]! = (Z i).take (L i) := by
      rw [getElem!_pos _ i hi]; simp
    rw [hg]
    have hln : ((Z i).take (L i)).length = L i := by rw [List.length_take]; omega
    refine ⟨A i, C i, by rw [hln], by rw [hln]; unfold maxLen at h3; omega, fun j hj => ?_⟩
    rw [hln] at hj
    cases hA : A i with
    | none => have := h6 hA; omega
    | some a' =>
      obtain ⟨_, h8⟩ := h7 a' hA
      obtain ⟨b', off', rfl, hb'⟩ := cell_form (h8 j (by omega)) (.inr (by rw [h8 0 (by omega)]; simp))
      refine ⟨b', off', _, rfl, Nat.zero_le _, World.block_lt_of_cell? w _ hb', hb', ?_⟩
      have h9 : ((Z i).take (L i))[j]! = (Z i).getD j 0 := by
        rw [getElem!_pos _ j (by rw [hln]; exact hj), List.getElem_take, List.getD_eq_getElem?_getD, List.getElem?_eq_getElem (by omega)]
        rfl
      show _ = _
      rw [h9]

/-- a struct of one field of one cell -/
theorem open_agg1 {r : Reach} {b0 base : Nat} {spare : Nat → Bool} {held : Bool} {t : TypeId} {f0 : Field} {v : Value} {d : DataW H} {p : List MemPlace} (hs : P.underlying t = some (.struct #[f0])) (hone : oneCellFields P #[f0] = true) (hC : P.cellsOf t = 1)
    (hv : Value.okWide P w r b0 t v) (h : DataW.Trod enc P w base spare held t v d p) :
    ∃ (v0 : Value) (y0 : DataW H × List MemPlace) (n : Nat), v = .agg #[v0] ∧ DataW.trod enc P w base spare held n f0.type [v0] = some y0 := by
  obtain ⟨cs, rfl, hsz⟩ := okWide_struct hs hv
  have hsz := hsz.trans hC
  obtain ⟨l⟩ := cs
  match l, hsz with
  | [c0], _ =>
    obtain ⟨fuel, hf⟩ := h
    obtain ⟨y0, n, hx, _, h0⟩ := trod_struct1 hs hf
    obtain ⟨o0, k0⟩ := hone_of hone 0 f0 rfl
    exact ⟨c0, y0, n, rfl, by simpa [Value.cells, o0, k0] using h0⟩

theorem trodAll_two_lt {ps p q : List MemPlace} (h : ∀ x ∈ ps, x.block < w.heap.size) (e : ps = p ++ q) : (∀ x ∈ p, x.block < w.heap.size) ∧ (∀ x ∈ q, x.block < w.heap.size) := by
  subst e
  exact ⟨fun x hx => h x (List.mem_append_left _ hx), fun x hx => h x (List.mem_append_right _ hx)⟩
end
end Go.Ev
