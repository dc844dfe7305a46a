/- From a function's contract to its law; what came in, opened. Program-independent. -/
import Derived.Test.YtfipaakafcjjhaaAb8
import Derived.Deep.Slices
import Derived.Lib.SmallJoins
set_option linter.unusedSectionVars false
set_option linter.unusedVariables false
set_option linter.unusedSimpArgs false
namespace Go.Ab
open Go Go.RowKit Go.Deep Go.ChangeShapes Go.WideShapes Go.Joins
theorem fn_law {P : Program} {f : FuncId} {args : List AV} (h : Ab.Fn P f args [] (fun a s => a = .b true ∧ s = [])) {A : Nat → Prop} {w : World} {vs : List Value} (hr : RelL A w args vs) :
    Calls P f vs.toArray w fun e w' => ∃ v, e = .returned v ∧ v = .bool true ∧ Below w.heap.size w w' :=
  (h w A vs hr ⟨fun r hr => by simp at hr, fun b hb => by simp [blks] at hb⟩ (by simp [blks])).mono fun e w' ⟨v, av, σ', h1, ⟨h2, h3⟩, h4, h5⟩ => by
    subst h2
    exact ⟨v, h1, h5.litEq, h4.kp.below⟩

abbrev anyB : Nat → Prop := fun _ => True

/-- Data of Go type t read as values of α, whose cells are c. -/
def Opn {α : Type} {H : Type} (enc : TypeId × Value → H) (P : Program) (w : World) (t : TypeId) (c : α → List AV) (ok : α → Prop) : Prop :=
  ∀ (base : Nat) (fuel : Nat) (cs : List Value) (x : DataW H × List MemPlace), DataW.trod enc P w base (fun _ => true) true fuel t cs = some x → ∃ a, ok a ∧ RelL anyB w (c a) cs

section
variable {α : Type} {H : Type} {enc : TypeId × Value → H} {P : Program} {w : World} {t e : TypeId}

theorem Opn.int {k : IntKind} (ht : P.underlying t = some (.int k)) : Opn enc P w t (cN k) (fun n => (Lit.int k n).wf = true) := fun base fuel cs x h => by
  obtain ⟨n, rfl, _, hw⟩ := DataW.trod_int ht h
  exact ⟨n, hw, RelL.cons (.lit _) RelL.nil⟩
theorem Opn.bool (ht : P.underlying t = some .bool) : Opn enc P w t cB (fun _ => True) := fun base fuel cs x h => by
  obtain ⟨b, rfl, _⟩ := DataW.trod_bool ht h
  exact ⟨b, trivial, RelL.cons (.lit _) RelL.nil⟩
theorem Opn.slice [Inhabited α] {c : α → List AV} {ok : α → Prop} {sz : Nat} (ht : P.underlying t = some (.slice e)) (hc : P.cellsOf e = sz + 1) (he : Opn enc P w e c ok) :
    Opn enc P w t (cL (sz + 1) c) (fun l => l.length ≤ 9223372036854775807 ∧ ∀ a ∈ l, ok a) := fun base fuel cs x h => by
  rcases open_slice ht h with ⟨rfl, _⟩ | ⟨a, len, cp, m, n, D, Pl, hcs, hb, hl, hm, hmm, _, hx⟩
  · refine ⟨[], ⟨by simp, by simp⟩, RelL.cons ?_ RelL.nil⟩
    exact .sl (sz + 1) c ([] : List α) none 0 (fun _ _ => default) (by simp) (by simp) (fun i hi => by simp at hi) (fun i hi => by simp at hi) (fun i j a hi => by simp at hi)
  · subst hcs
    have hmm : m = cp := by rw [hmm]; rfl
    rw [hc] at hx
    have hmx : cp ≤ 9223372036854775807 := by unfold maxLen at hm; omega
    obtain ⟨CS, hCS⟩ := choose_lt (α := List Value × α) (p := fun i y => w.cells? base (a.add (i * (sz + 1))) (sz + 1) = some y.1 ∧ ok y.2 ∧ RelL anyB w (c y.2) y.1) (n := len) (fun i hi => by
      obtain ⟨cs', h1, h2⟩ := hx i (by omega)
      obtain ⟨y, h3, h4⟩ := he _ _ _ _ h2
      exact ⟨(cs', y), h1, h3, h4⟩)
    obtain ⟨l, hld⟩ : ∃ l : List α, l = (List.range len).map fun i => (CS i).2 := ⟨_, rfl⟩
    have hln : l.length = len := by rw [hld]; simp
    have hget : ∀ i, i < len → l[i]! = (CS i).2 := fun i hi => by
      rw [getElem!_pos l i (by omega)]; simp [hld]
    refine ⟨l, ⟨by omega, fun y hy => ?_⟩, RelL.cons ?_ RelL.nil⟩
    · rw [hld, List.mem_map] at hy
      obtain ⟨i, hi, rfl⟩ := hy
      exact (hCS i (by simpa using hi)).2.1
    · rw [← hln]
      refine .sl (sz + 1) c l (some a) cp (fun i j => (CS i).1[j]!) (by omega) (by omega) (fun i hi => ?_) (fun i hi => ?_) (fun i j av hi hj => ?_)
      · rw [hln] at hi
        obtain ⟨h1, _, h3⟩ := hCS i hi
        obtain ⟨_, h5, _⟩ := World.cells?_some h1
        rw [hget i hi, ← h3.1, h5]
      · rw [hln] at hi
        obtain ⟨h1, _, h3⟩ := hCS i hi
        obtain ⟨_, h5, h6⟩ := World.cells?_some h1
        have hj : ∀ j, j < sz + 1 → w.cell? ((a.add (i * (sz + 1))).add j) = some (CS i).1[j]! := fun j hj => by
          rw [h6 j hj, getElem!_pos _ j (by omega), List.getElem?_eq_getElem (by omega)]
        obtain ⟨b, off, spot⟩ := a
        have hs : spot = none := by
          obtain ⟨g1, _, _⟩ := hCS 0 (by omega)
          obtain ⟨_, g5, g6⟩ := World.cells?_some g1
          have := World.cell?_spot (v := (CS 0).1[0]!) (w := w) (a := ((⟨b, off, spot⟩ : Addr).add (0 * (sz + 1))).add 0) (by rw [g6 0 (by omega), getElem!_pos _ 0 (by omega), List.getElem?_eq_getElem (by omega)])
          simpa [Addr.add] using this
        subst hs
        have hj' : ∀ j, j < sz + 1 → w.cell? ⟨b, off + i * (sz + 1) + j, none⟩ = some (CS i).1[j]! := fun j hlt => by
          have := hj j hlt
          have ap : ∀ o i : Nat, (⟨b, o, none⟩ : Addr).add i = ⟨b, o + i, none⟩ := fun o i => by
            unfold Addr.add
            split
            · rename_i h0; simp only [h0, Nat.add_zero]
            · rfl
          rw [ap, ap] at this
          exact this
        exact ⟨b, off, rfl, World.block_lt_of_cell? w _ (hj' 0 (by omega)), ⟨trivial, .inl trivial⟩, hj'⟩
      · rw [hln] at hi
        rw [hget i hi] at hj
        obtain ⟨h1, _, h3⟩ := hCS i hi
        obtain ⟨v, q1, q2⟩ := h3.get hj
        show Rel anyB w av (CS i).1[j]!
        obtain ⟨q3, q4⟩ := List.getElem?_eq_some_iff.1 q1
        rw [getElem!_pos _ j q3, q4]
        exact q2
/-- an argument that is one cell -/
theorem Opn.one {c : α → AV} {ok : α → Prop} {v : Value} {d : DataW H} {p : List MemPlace} (he : Opn enc P w t (fun a => [c a]) ok) (hv : v.cells = #[v]) (h : DataW.Trod enc P w 0 (fun _ => true) true t v d p) : ∃ a, ok a ∧ Rel anyB w (c a) v := by
  obtain ⟨fuel, hf⟩ := h
  rw [hv] at hf
  obtain ⟨a, h1, h2⟩ := he _ _ _ _ hf
  exact ⟨a, h1, h2.2 0 _ _ rfl rfl⟩
/-- an argument that is a struct -/
theorem Opn.agg {c : α → List AV} {ok : α → Prop} {v : Value} {cs : Array Value} {d : DataW H} {p : List MemPlace} (he : Opn enc P w t c ok) (hv : v = .agg cs) (h : DataW.Trod enc P w 0 (fun _ => true) true t v d p) : ∃ a, ok a ∧ Rel anyB w (.agg (c a)) v := by
  obtain ⟨fuel, hf⟩ := h
  subst hv
  obtain ⟨l⟩ := cs
  obtain ⟨a, h1, h2⟩ := he _ _ _ _ hf
  exact ⟨a, h1, Rel.aggL h2⟩
end
end Go.Ab
