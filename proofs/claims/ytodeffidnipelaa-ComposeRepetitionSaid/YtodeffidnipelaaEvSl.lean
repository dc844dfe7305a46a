/- Slice expressions 'x[:k]'. Program-independent. -/
import Derived.Test.YtodeffidnipelaaEvOpen
import Derived.Test.YtodeffidnipelaaEvRep
namespace Go.Ev
open Go Go.RowKit Go.Deep Go.ChangeShapes Go.WideShapes Go.Joins
section
variable {P : Program} {E : Env} {o : Oper} {w : World} {T e : TypeId}
theorem Yl.sliceTo {x y : Operand} {m : Int} {a : Option Addr} {l c k : Nat} (ho : o.op = .slice T x none (some y) none) (hx : E.ev x = some (.slice a l c)) (hy : E.ev y = some (.int .i64 m)) (hT : P.underlying T = some (.slice e)) (hs : (P.info? e).map (·.size) = some 1)
    (hm : m = (k : Int)) (hk : k ≤ c) : Yl P E o w (.slice a k c) := fun ρ hρ => by
  obtain ⟨j, hj, _⟩ := Option.map_eq_some_iff.1 hs
  subst hm
  have h0 : ∀ a : Option Addr, a.map (·.add 0) = a := fun a => by cases a <;> simp [Addr.add]
  simp [execOp, ho, hρ _ _ hx, hρ _ _ hy, Instr.sliceAt, Instr.slice, Instr.sliceBounds, Instr.sliceBound, run_underlying hT, sizeOf, typeInfo, hj, asIntOf, hk, h0]
end
section
variable {lo hi : Nat} {w : World}
theorem RRows.take {p : Option Addr} {n c c' : Nat} {m : List (List Int)} (k : Nat) (h : RRows lo hi w (.slice p n c) m) (hk : k ≤ m.length) : RRows lo hi w (.slice p k c') (m.take k) := by
  obtain ⟨p', cp, hv, hl, hc⟩ := h
  cases hv
  have hln : (m.take k).length = k := by rw [List.length_take]; omega
  refine ⟨p, c', by rw [hln], by omega, fun i hi => ?_⟩
  rw [hln] at hi
  obtain ⟨b, off, x, h1, h2, h3, h4, h5⟩ := hc i (by omega)
  refine ⟨b, off, x, h1, h2, h3, h4, ?_⟩
  have : (m.take k)[i]! = m[i]! := by rw [getElem!_pos _ i (by omega), getElem!_pos m i (by omega), List.getElem_take]
  rw [this]
  exact h5
end
section
variable {H : Type} {enc : TypeId × Value → H} {P : Program} {w : World}
theorem slice_cap {t e : TypeId} {v : Value} {y : DataW H × List MemPlace} {n base : Nat} (ht : P.underlying t = some (.slice e)) (ce : P.cellsOf e = 1) (h : DataW.trod enc P w base (fun _ => true) true n t [v] = some y) : ∀ p l k, v = .slice p l k → l ≤ k := fun p l k hv => by
  rcases open_slice1 ht ce h with ⟨hcs, _⟩ | ⟨a, len, cap, m, n, V, D, Pl, hcs, _, hl, _⟩
  · simp only [List.cons.injEq, and_true] at hcs
    rw [hcs] at hv; cases hv; exact Nat.le_refl _
  · simp only [List.cons.injEq, and_true] at hcs
    rw [hcs] at hv; cases hv; exact hl
end
end Go.Ev
