/- Two calculi, one meaning: contracts over data are taken over from the first to the second. -/
import Derived.Test.YtgdahkddhecloaaIx4
import Derived.Test.YtgdahkddhecloaaAb8
set_option linter.unusedSectionVars false
set_option linter.unusedVariables false
set_option linter.unusedSimpArgs false
namespace Go.Iv
open Go
variable [U : Uni]
/-- The two read as the same values. -/
def Br (a : AV) (b : Ab.AV) : Prop := ∀ (A : Nat → Prop) (w : World) (v : Value), (Rel A w a v → Ab.Rel A w b v) ∧ (Ab.Rel A w b v → Rel A w a v)
def BrL (xs : List AV) (bs : List Ab.AV) : Prop := xs.length = bs.length ∧ ∀ (j : Nat) a b, xs[j]? = some a → bs[j]? = some b → Br a b
theorem BrL.nil : BrL [] [] := ⟨rfl, fun j a b h => by cases h⟩
theorem BrL.cons {a : AV} {b : Ab.AV} {xs : List AV} {bs : List Ab.AV} (h : Br a b) (hs : BrL xs bs) : BrL (a :: xs) (b :: bs) := ⟨by simp [hs.1], fun j x y h1 h2 => by
  cases j with
  | zero => cases h1; cases h2; exact h
  | succ j => exact hs.2 j x y h1 h2⟩
theorem BrL.get {xs : List AV} {bs : List Ab.AV} (h : BrL xs bs) {j : Nat} {b : Ab.AV} (hb : bs[j]? = some b) : ∃ a, xs[j]? = some a ∧ Br a b := by
  have hj := (List.getElem?_eq_some_iff.1 hb).1
  have hj' : j < xs.length := by rw [h.1]; exact hj
  exact ⟨xs[j], List.getElem?_eq_getElem hj', h.2 j _ _ (List.getElem?_eq_getElem hj') hb⟩
theorem BrL.get' {xs : List AV} {bs : List Ab.AV} (h : BrL xs bs) {j : Nat} {a : AV} (ha : xs[j]? = some a) : ∃ b, bs[j]? = some b ∧ Br a b := by
  have hj := (List.getElem?_eq_some_iff.1 ha).1
  have hj' : j < bs.length := by rw [← h.1]; exact hj
  exact ⟨bs[j], List.getElem?_eq_getElem hj', h.2 j _ _ ha (List.getElem?_eq_getElem hj')⟩
theorem Br.lit (v : Value) : Br (.lit v) (.lit v) := fun A w u => ⟨fun h => by rw [h.litEq]; exact .lit _, fun h => by rw [h.litEq]; exact .lit _⟩
theorem Br.sl {α : Type} [Inhabited α] {t : Nat} {l : List (U.Dat t)} {c : α → List Ab.AV} {l' : List α} (hlen : l.length = l'.length) (h : ∀ i, i < l.length → BrL (U.cells t l[i]!) (c l'[i]!)) : Br (.sl t l) (.sl (U.sz t) c l') := fun A w v => by
  constructor
  · intro hr
    obtain ⟨p, cap, u, rfl, h1, h2, h3, h4, h5⟩ := hr.slInv
    rw [hlen]
    refine .sl _ _ _ _ _ u (by omega) (by omega) (fun i hi => by rw [← (h i (by omega)).1]; exact h3 i (by omega)) (fun i hi => h4 i (by omega)) (fun i j a hi ha => ?_)
    obtain ⟨b, q1, q2⟩ := (h i (by omega)).get ha
    exact (q2 A w _).1 (h5 i j b (by omega) q1)
  · intro hr
    obtain ⟨p, cap, u, rfl, h1, h2, h3, h4, h5⟩ := hr.slInv
    rw [← hlen]
    refine .sl _ _ _ _ u (by omega) (by omega) (fun i hi => by rw [(h i (by omega)).1]; exact h3 i (by omega)) (fun i hi => h4 i (by omega)) (fun i j a hi ha => ?_)
    obtain ⟨b, q1, q2⟩ := (h i (by omega)).get' ha
    exact (q2 A w _).2 (h5 i j b (by omega) q1)
theorem Br.agg {cs : List AV} {ds : List Ab.AV} (h : BrL cs ds) : Br (.agg cs) (.agg ds) := fun A w v => by
  constructor
  · intro hr
    generalize ha : AVq.agg cs = a at hr
    cases hr with
    | agg cs' us hl hr =>
      cases ha
      refine .agg _ us (by rw [hl, h.1]) fun j a v h1 h2 => ?_
      obtain ⟨b, q1, q2⟩ := h.get h1
      exact (q2 A w _).1 (hr j b v q1 h2)
    | _ => cases ha
  · intro hr
    generalize ha : Ab.AV.agg ds = a at hr
    cases hr with
    | agg cs' us hl hr =>
      cases ha
      refine .agg _ us (by rw [hl, h.1]) fun j a v h1 h2 => ?_
      obtain ⟨b, q1, q2⟩ := h.get' h1
      exact (q2 A w _).2 (hr j b v q1 h2)
    | _ => cases ha
theorem Br.tup {cs : List AV} {ds : List Ab.AV} (h : BrL cs ds) : Br (.tup cs) (.tup ds) := fun A w v => by
  constructor
  · intro hr
    generalize ha : AVq.tup cs = a at hr
    cases hr with
    | tup cs' us hl hr =>
      cases ha
      refine .tup _ us (by rw [hl, h.1]) fun j a v h1 h2 => ?_
      obtain ⟨b, q1, q2⟩ := h.get h1
      exact (q2 A w _).1 (hr j b v q1 h2)
    | _ => cases ha
  · intro hr
    generalize ha : Ab.AV.tup ds = a at hr
    cases hr with
    | tup cs' us hl hr =>
      cases ha
      refine .tup _ us (by rw [hl, h.1]) fun j a v h1 h2 => ?_
      obtain ⟨b, q1, q2⟩ := h.get' h1
      exact (q2 A w _).2 (hr j b v q1 h2)
    | _ => cases ha
theorem Fn.ofAb {P : Program} {f : FuncId} {xs : List AV} {bs : List Ab.AV} {d : AV} {b : Ab.AV} (h : Ab.Fn P f bs [] (fun a s => a = b ∧ s = [])) (ha : BrL xs bs) (hd : Br d b) : Fn P f xs [] (fun a s => a = d ∧ s = []) := fun w A vs h1 h2 h3 =>
  (h w A vs ⟨by rw [h1.1, ha.1], fun j a v q1 q2 => by
      obtain ⟨x, e1, e2⟩ := ha.get q1
      exact (e2 A w v).1 (h1.2 j x v e1 q2)⟩ ⟨fun r hr => absurd hr (List.not_mem_nil), fun b hb => absurd hb (List.not_mem_nil)⟩ List.nodup_nil).mono fun e w' ⟨v, av, σ', q1, ⟨e1, e2⟩, q3, q4⟩ => by
    subst e1
    subst e2
    refine ⟨v, d, [], q1, ⟨rfl, rfl⟩, ⟨⟨⟨q3.good.kept.os, q3.good.kept.tape, q3.good.kept.output, q3.good.kept.size, q3.good.kept.block⟩, fun r hr => absurd hr (List.not_mem_nil), List.nodup_nil, fun b hb => absurd hb (List.not_mem_nil)⟩, ⟨q3.kp.os, q3.kp.tape, q3.kp.output, q3.kp.size, q3.kp.block⟩, fun b h1 h2 => q3.al b h1 h2⟩, (hd _ _ _).2 q4⟩
theorem fnY_ofFn {P : Program} {f : FuncId} {xs : List AV} {d : AV} (h : Fn P f xs [] (fun a s => a = d ∧ s = [])) (ha : ∀ ρ : Gh, xs.map (AVq.sub ρ) = xs) (hd : ∀ ρ : Gh, d.sub ρ = d) : FnY P f xs [] 0 ⟨d, [], 0⟩ := fun ρ => by
  rw [ha ρ]
  exact h.mono fun a s ⟨h1, h2⟩ => ⟨ρ, fun _ _ => ⟨rfl, rfl⟩, by rw [h1]; exact (hd ρ).symm, by rw [h2]; exact List.Perm.refl _⟩
end Go.Iv
