/- abstract.Has and has: their loops, summed up. -/
import Derived.Test.YtaonipoflmbhgaaGreatUj
set_option linter.unusedSectionVars false
set_option linter.unusedVariables false
set_option linter.unusedSimpArgs false
namespace Go.Proofs.YtaonipoflmbhgaaGreat
open Go Go.Iv

/-- Does the round at i go on? -/
noncomputable def goH (a : Abstract) (l : List Int) (len i : Int) : Bool := decide (i < len ∧ 0 ≤ i ∧ i < l.length ∧ i < a.fSlots.length ∧ len ≤ 9223372036854775807) && hasN (a.fSlots[i.toNat]!) (l[i.toNat]!)
noncomputable def advH (a : Abstract) (l : List Int) (len : Int) : Nat → Int → Int
  | 0, i => i
  | m + 1, i => match goH a l len i with
    | true => advH a l len m (i + 1)
    | false => i
noncomputable def adv21 (p : Gm) : Gm := ((p.1.1, p.1.2.1, p.1.2.2.1, p.1.2.2.2.1, advH p.2.2.1 p.1.2.2.1 p.1.2.2.2.1 (p.1.2.2.2.1 - p.1.2.2.2.2.1).toNat p.1.2.2.2.2.1, ()), p.2)
noncomputable def rnd21 (p : Gm) : Option (Option Gm) :=
  bif decide (p.1.2.2.2.2.1 < p.1.2.2.2.1) then
    if 0 ≤ p.1.2.2.2.2.1 ∧ p.1.2.2.2.2.1 < p.1.2.2.1.length then
      if 0 ≤ p.1.2.2.2.2.1 ∧ p.1.2.2.2.2.1 < p.2.2.1.fSlots.length then
        bif bif hasN (p.2.2.1.fSlots[p.1.2.2.2.2.1.toNat]!) (p.1.2.2.1[p.1.2.2.2.2.1.toNat]!) then false else true then some none
        else some (some ((p.1.1, p.1.2.1, p.1.2.2.1, p.1.2.2.2.1, IntKind.i64.wrap (p.1.2.2.2.2.1 + 1), ()), p.2))
      else none
    else none
  else some none
theorem r21 (p : Gm) : execA Tryz.prog hasO Tryz.f21.ntmps 300 (loopAt Tryz.f21 0) .no (Option Gm) (pat21 p) (kOn rd21) = rnd21 p := by kernel_rfl
theorem r22 (p : Gm) : execA Tryz.prog hasO Tryz.f22.ntmps 300 (loopAt Tryz.f22 0) .no (Option Gm) (pat21 p) (kOn rd21) = rnd21 p := by kernel_rfl
theorem adv21_ok (x : XT) (hx : ∀ p, x .no (Option Gm) (pat21 p) (kOn rd21) = rnd21 p) : AdvOk x rd21 pat21 adv21 .no := by
  refine ⟨fun p => (p.1.2.2.2.1 - p.1.2.2.2.2.1).toNat, fun p => ?_⟩
  obtain ⟨⟨u, v, l, len, i, t⟩, o, a, t'⟩ := p
  cases hg : goH a l len i with
  | false =>
    left
    unfold adv21
    simp only
    cases (len - i).toNat with
    | zero => rfl
    | succ m => unfold advH; rw [hg]
  | true =>
    right
    have hg' := hg
    unfold goH at hg'
    simp only [Bool.and_eq_true, decide_eq_true_eq] at hg'
    obtain ⟨⟨h1, h2, h3, h4, h5⟩, h6⟩ := hg'
    have hw : IntKind.i64.wrap (i + 1) = i + 1 := by
      simp [IntKind.wrap, IntKind.bits]
      omega
    refine ⟨((u, v, l, len, i + 1, ()), (o, a, ())), ?_, ?_, ?_⟩
    · rw [hx]
      unfold rnd21
      simp only [h1, h2, h3, h4, h6, hw, and_self, decide_true, cond_true, cond_false, if_true]
    · show (len - (i + 1)).toNat < (len - i).toNat
      omega
    · unfold adv21
      simp only
      have : (len - i).toNat = (len - (i + 1)).toNat + 1 := by omega
      rw [this]
      show _ = ((u, v, l, len, advH a l len ((len - (i + 1)).toNat + 1) i, ()), o, a, t')
      conv => rhs; unfold advH
      rw [hg]
noncomputable def an21 : An := .two .no (.two .no (.two .no (.two (.two .no (.lp Gm rd21 pat21 adv21 .no)) .no)))
noncomputable def an22 : An := .two .no (.two .no (.two (.two .no (.lp Gm rd21 pat21 adv21 .no)) .no))
theorem fa21 : FnAn Tryz.prog hasO 300 21 an21 := fnAn_of (l := [(loopAt Tryz.f21 0, .lp Gm rd21 pat21 adv21 .no)]) Tryz.func21 (bodyOf_eq (by kernel_rfl)) (by kernel_rfl) fun p hp => by
  rw [List.mem_singleton] at hp
  subst hp
  exact ⟨rd21_ok _, adv21_ok _ r21⟩
theorem fa22 : FnAn Tryz.prog hasO 300 22 an22 := fnAn_of (l := [(loopAt Tryz.f22 0, .lp Gm rd21 pat21 adv21 .no)]) Tryz.func22 (bodyOf_eq (by kernel_rfl)) (by kernel_rfl) fun p hp => by
  rw [List.mem_singleton] at hp
  subst hp
  exact ⟨rd21_ok _, adv21_ok _ r22⟩
end Go.Proofs.YtaonipoflmbhgaaGreat
