/- abstract.Has and has: one answer. -/
import Derived.Test.YtaonipoflmbhgaaGreatUk
set_option linter.unusedSectionVars false
set_option linter.unusedVariables false
set_option linter.unusedSimpArgs false
namespace Go.Proofs.YtaonipoflmbhgaaGreat
open Go Go.Iv

noncomputable def endH (a : Abstract) (o : Observation) : Int := advH a o.fOutputs o.fOutputs.length ((o.fOutputs.length : Int) - 0).toNat 0
noncomputable def finH (a : Abstract) (o : Observation) : Option Bool :=
  bif decide (endH a o < o.fOutputs.length) then
    if 0 ≤ endH a o ∧ endH a o < o.fOutputs.length then
      if 0 ≤ endH a o ∧ endH a o < a.fSlots.length then
        bif bif hasN (a.fSlots[(endH a o).toNat]!) (o.fOutputs[(endH a o).toNat]!) then false else true then some false else none
      else none
    else none
  else some true
noncomputable def t21 (a : Abstract) (o : Observation) : Option Bool :=
  bif decide ((a.fSlots.length : Int) < o.fOutputs.length) then some false
  else bif bif hasN a.fCount o.fOutputs.length then false else true then some false
  else bif bif hasN a.fTime o.fTime then false else true then some false
  else finH a o
noncomputable def t22 (a : Abstract) (o : Observation) : Option Bool :=
  bif bif hasN a.fCount o.fOutputs.length then false else true then some false
  else bif decide ((a.fSlots.length : Int) < o.fOutputs.length) then some false
  else bif bif hasN a.fTime o.fTime then false else true then some false
  else finH a o
theorem c21 (a : Abstract) (o : Observation) : callA Tryz.prog hasO 300 an21 21 [.agg (uni.cells 36 a), .agg (uni.cells 51 o)] [] 0 (kRes asB) = t21 a o := by kernel_rfl
theorem c22 (a : Abstract) (o : Observation) : callA Tryz.prog hasO 300 an22 22 [.agg (uni.cells 36 a), .agg (uni.cells 51 o)] [] 0 (kRes asB) = t22 a o := by kernel_rfl

theorem advH_end (a : Abstract) (l : List Int) : ∀ (m : Nat) (i : Int), (l.length : Int) - i = m → 0 ≤ i → l.length ≤ a.fSlots.length → l.length ≤ 9223372036854775807 →
    0 ≤ advH a l l.length m i ∧ advH a l l.length m i ≤ l.length ∧ (advH a l l.length m i < l.length → hasN (a.fSlots[(advH a l l.length m i).toNat]!) (l[(advH a l l.length m i).toNat]!) = false)
  | 0, i, h, h0, _, _ => by unfold advH; exact ⟨h0, by omega, fun h => by omega⟩
  | m + 1, i, h, h0, h1, h2 => by
    unfold advH
    cases hg : goH a l l.length i with
    | true => exact advH_end a l m (i + 1) (by omega) (by omega) h1 h2
    | false =>
      simp only
      refine ⟨h0, by omega, fun hl => ?_⟩
      unfold goH at hg
      rw [decide_eq_true (by omega), Bool.true_and] at hg
      exact hg
noncomputable def modH (a : Abstract) (o : Observation) : Bool := !decide ((a.fSlots.length : Int) < o.fOutputs.length) && hasN a.fCount o.fOutputs.length && hasN a.fTime o.fTime && !decide (endH a o < o.fOutputs.length)
theorem finH_eq (a : Abstract) (o : Observation) (h : o.fOutputs.length ≤ 9223372036854775807) (h1 : o.fOutputs.length ≤ a.fSlots.length) : finH a o = some (!decide (endH a o < o.fOutputs.length)) := by
  obtain ⟨q1, q2, q3⟩ := advH_end a o.fOutputs ((o.fOutputs.length : Int) - 0).toNat 0 (by omega) (Int.le_refl 0) h1 h
  change 0 ≤ endH a o at q1
  change endH a o ≤ o.fOutputs.length at q2
  change endH a o < o.fOutputs.length → hasN (a.fSlots[(endH a o).toNat]!) (o.fOutputs[(endH a o).toNat]!) = false at q3
  unfold finH
  by_cases hl : endH a o < o.fOutputs.length
  · rw [decide_eq_true hl, cond_true, if_pos ⟨q1, hl⟩, if_pos ⟨q1, by omega⟩, q3 hl]; rfl
  · rw [decide_eq_false hl]; rfl
theorem t21_eq (a : Abstract) (o : Observation) (h : o.fOutputs.length ≤ 9223372036854775807) : t21 a o = some (modH a o) := by
  unfold t21 modH
  by_cases h1 : (a.fSlots.length : Int) < o.fOutputs.length
  · rw [decide_eq_true h1]; rfl
  · rw [decide_eq_false h1, finH_eq a o h (by omega)]
    cases hasN a.fCount o.fOutputs.length <;> cases hasN a.fTime o.fTime <;> rfl
theorem t22_eq (a : Abstract) (o : Observation) (h : o.fOutputs.length ≤ 9223372036854775807) : t22 a o = some (modH a o) := by
  unfold t22 modH
  by_cases h1 : (a.fSlots.length : Int) < o.fOutputs.length
  · rw [decide_eq_true h1]
    cases hasN a.fCount o.fOutputs.length <;> cases hasN a.fTime o.fTime <;> rfl
  · rw [decide_eq_false h1, finH_eq a o h (by omega)]
    cases hasN a.fCount o.fOutputs.length <;> cases hasN a.fTime o.fTime <;> rfl

noncomputable abbrev rdAO : List AV → Option (Abstract × Observation × Unit) := pkC (asG 36) (pkC (asG 51) pkN)
theorem pkAO : Pk rdAO (fun g => [.agg (uni.cells 36 g.1), .agg (uni.cells 51 g.2.1)]) := .cons (.g 36) (.cons (.g 51) .nil)
/-- no list is longer -/
theorem lenAO {A : Nat → Prop} {w : World} {a : Abstract} {o : Observation} {vs : List Value} (h : RelL A w [AVq.agg (uni.cells 36 a), .agg (uni.cells 51 o)] vs) : o.fOutputs.length ≤ 9223372036854775807 := by
  obtain ⟨v, _, h1⟩ := h.get (j := 1) rfl
  obtain ⟨us, _, h2⟩ := h1.aggInv
  have h3 : RelL A w [AVq.sl 3 o.fOutputs, .n .i64 o.fTime] us := h2
  obtain ⟨u, _, h4⟩ := h3.get (j := 0) rfl
  obtain ⟨p, c, g, _, h5, _⟩ := h4.slInv
  exact h5
theorem fn_len {f : FuncId} {a : Abstract} {o : Observation} {Φ : AV → List Res → Prop} (h : o.fOutputs.length ≤ 9223372036854775807 → Iv.Fn Tryz.prog f [.agg (uni.cells 36 a), .agg (uni.cells 51 o)] [] Φ) : Iv.Fn Tryz.prog f [.agg (uni.cells 36 a), .agg (uni.cells 51 o)] [] Φ := fun w A vs hr hd hn => h (lenAO hr) w A vs hr hd hn
theorem ltdAO (a : Abstract) (o : Observation) : ∀ d ∈ [AVq.agg (uni.cells 36 a), .agg (uni.cells 51 o)], Ltd 0 d := fun d hd => by
  rcases List.mem_cons.1 hd with rfl | hd
  · exact .agg _ (uniL.ltd 36 a 0)
  · rw [List.mem_singleton] at hd; subst hd; exact .agg _ (uniL.ltd 51 o 0)
theorem fn21 (a : Abstract) (o : Observation) : Iv.Fn Tryz.prog 21 [.agg (uni.cells 36 a), .agg (uni.cells 51 o)] [] (fun v s => v = .b (modH a o) ∧ s = []) :=
  fn_len fun h => fn_runA hasO_ok fa21 P0.b rfl (ltdAO a o) ((c21 a o).trans (t21_eq a o h))
theorem fn22 (a : Abstract) (o : Observation) : Iv.Fn Tryz.prog 22 [.agg (uni.cells 36 a), .agg (uni.cells 51 o)] [] (fun v s => v = .b (modH a o) ∧ s = []) :=
  fn_len fun h => fn_runA hasO_ok fa22 P0.b rfl (ltdAO a o) ((c22 a o).trans (t22_eq a o h))
theorem fnok21 : fnOk Tryz.prog 21 := ⟨_, Tryz.func21, by kernel_rfl, by kernel_rfl⟩
theorem fnok22 : fnOk Tryz.prog 22 := ⟨_, Tryz.func22, by kernel_rfl, by kernel_rfl⟩
end Go.Proofs.YtaonipoflmbhgaaGreat
