/- Merged: Pv2, Pv2b, Pv4, Pv5, Pv6, Pv7, Gc, Ub, Ge, Pw, Iy1, Iy2, Opd, Pw4. -/
import Derived.Test.YtaonipoflmbhgaaGreatM6AbstractWholes
import Derived.Test.YtaonipoflmbhgaaGreatM5AbstractWholes
import Derived.Test.YtaonipoflmbhgaaGreatM3AbstractWholes
import Derived.Deep.Slices
import Derived.Lib.SmallJoins
section
set_option linter.unusedSectionVars false
set_option linter.unusedVariables false
set_option linter.unusedSimpArgs false
namespace Go.Proofs.YtaonipoflmbhgaaGreat
open Go Go.Iv

theorem m218_eq (o : Int) : m218 o = kidsN o := by
  unfold m218 kidsN
  simp only [Bool.cond_decide]
  grind
theorem m170_eq (o : Int) : m170 o = if o = 25 then -2 else (kidsN o).1 := by
  unfold m170 kidsN
  simp only [Bool.cond_decide]
  grind (splits := 40)
/-! ### the form of terms -/
theorem s193_eq (M : List GVar → GTerm → Bool → Option E193) (vars : List GVar) (inp : Bool) (t : GTerm) (hM : ∀ k ∈ t.fKids, M vars k inp = some (formS vars inp k)) : s193 M vars t inp = some (formS vars inp t) := by
  have key : t.fKids.length ≤ 1000000 → ∃ i : Nat, a193_0 M ⟨vars, inp, t.fKids, (t.fKids.length : Int), 0⟩ = some ⟨vars, inp, t.fKids, (t.fKids.length : Int), (i : Int)⟩ ∧ ((i = t.fKids.length ∧ t.fKids.all (formS vars inp) = true) ∨ (i < t.fKids.length ∧ formS vars inp t.fKids[i]! = false ∧ t.fKids.all (formS vars inp) = false)) := fun hl => by
    obtain ⟨i, e1, hc⟩ := loopB (rnd := n193_0 M) t.fKids (fun i => ⟨vars, inp, t.fKids, (t.fKids.length : Int), (i : Int)⟩) (fun _ k => formS vars inp k) (fun i hi => by
      have hw := w1L hi hl
      have hk := hM _ (get_memL hi)
      unfold n193_0
      dsimp only
      simp only [Bool.cond_decide, Int.toNat_natCast, GTerm.eta, hk, hw]
      cases formS vars inp t.fKids[i]! <;> simp [hi]) (by unfold n193_0; simp)
    refine ⟨i, e1, ?_⟩
    rcases hc with ⟨rfl, hc⟩ | ⟨hi, hc⟩
    · exact .inl ⟨rfl, all_of hc⟩
    · exact .inr ⟨hi, hc, not_all hi hc⟩
  unfold s193
  rw [m218_eq, formS_eq]
  unfold form0
  by_cases hn : 0 ≤ (kidsN t.fOp).1 ∧ (kidsN t.fOp).1 ≤ t.fKids.length ∧ (t.fKids.length : Int) ≤ (kidsN t.fOp).2
  · have h33 : (kidsN t.fOp).2 ≤ 33 := by unfold kidsN; grind
    obtain ⟨i, e, hc⟩ := key (by omega)
    rw [decide_eq_true hn, decide_eq_false (show ¬ (kidsN t.fOp).1 < 0 by omega), decide_eq_false (show ¬ (t.fKids.length : Int) < (kidsN t.fOp).1 by omega), decide_eq_false (show ¬ (kidsN t.fOp).2 < (t.fKids.length : Int) by omega), e]
    generalize t.fKids.all (formS vars inp) = A at hc
    simp only [Bool.cond_decide, Int.toNat_natCast, cond_false, Bool.true_and]
    rcases hc with ⟨rfl, rfl⟩ | ⟨hi, h2, rfl⟩
    · cases inp <;> grind
    · have hk := hM _ (get_memL hi)
      simp only [GTerm.eta, hk, h2]
      cases inp <;> grind
  · rw [decide_eq_false hn]
    simp only [Bool.cond_decide]
    grind
theorem m193_eq (vars : List GVar) (inp : Bool) : ∀ (n : Nat) (t : GTerm), SizeOf.sizeOf t < n → m193 n vars t inp = some (formS vars inp t)
  | 0, _, h => by omega
  | n + 1, t, h => s193_eq (m193 n) vars inp t (fun k hk => m193_eq vars inp n k (by have := GTerm.kids_lt hk; omega))
theorem r193_eq (vars : List GVar) (inp : Bool) (t : GTerm) : r193 vars t inp = some (formS vars inp t) := lim_eq (SizeOf.sizeOf t + 1) fun n hn => m193_eq vars inp n t (by omega)
theorem s122_eq (M : List GVar → GTerm → Bool → Option E122) (vars : List GVar) (inp : Bool) (t : GTerm) (hM : ∀ k ∈ t.fKids, M vars k inp = some (formS vars inp k)) : s122 M vars t inp = some (formS vars inp t) := by
  have key : t.fKids.length ≤ 1000000 → ∃ i : Nat, a122_0 M ⟨vars, inp, 0, t⟩ = some ⟨vars, inp, (i : Int), t⟩ ∧ ((i = t.fKids.length ∧ t.fKids.all (formS vars inp) = true) ∨ (i < t.fKids.length ∧ formS vars inp t.fKids[i]! = false ∧ t.fKids.all (formS vars inp) = false)) := fun hl => by
    obtain ⟨i, e1, hc⟩ := loopB (rnd := n122_0 M) t.fKids (fun i => ⟨vars, inp, (i : Int), t⟩) (fun _ k => formS vars inp k) (fun i hi => by
      have hw := w1L hi hl
      have hk := hM _ (get_memL hi)
      unfold n122_0
      dsimp only
      simp only [Bool.cond_decide, Int.toNat_natCast, GTerm.eta, hk, hw]
      cases formS vars inp t.fKids[i]! <;> simp [hi]) (by unfold n122_0; simp)
    refine ⟨i, e1, ?_⟩
    rcases hc with ⟨rfl, hc⟩ | ⟨hi, hc⟩
    · exact .inl ⟨rfl, all_of hc⟩
    · exact .inr ⟨hi, hc, not_all hi hc⟩
  unfold s122
  rw [m170_eq, formS_eq]
  unfold form0
  have hk0 : (kidsN t.fOp).1 = -1 ∨ 0 ≤ (kidsN t.fOp).1 := by unfold kidsN; grind
  have hk1 : t.fOp ≠ 25 → (kidsN t.fOp).1 = (kidsN t.fOp).2 := by unfold kidsN; grind
  have hk2 : t.fOp = 25 → kidsN t.fOp = (2, 33) := by unfold kidsN; grind
  have h33 : (kidsN t.fOp).2 ≤ 33 := by unfold kidsN; grind
  have hk3 : t.fOp = 25 → (kidsN t.fOp).1 = 2 ∧ (kidsN t.fOp).2 = 33 := fun h => by rw [hk2 h]; exact ⟨rfl, rfl⟩
  generalize (kidsN t.fOp).1 = a at *
  generalize (kidsN t.fOp).2 = b at *
  by_cases hn : 0 ≤ a ∧ a ≤ t.fKids.length ∧ (t.fKids.length : Int) ≤ b
  · obtain ⟨i, e, hc⟩ := key (by omega)
    rw [decide_eq_true hn, GTerm.eta, e]
    generalize t.fKids.all (formS vars inp) = A at hc
    simp only [Bool.cond_decide, Int.toNat_natCast, Bool.true_and]
    rcases hc with ⟨rfl, rfl⟩ | ⟨hi, h2, rfl⟩
    · cases inp <;> grind
    · have hk := hM _ (get_memL hi)
      simp only [GTerm.eta, hk, h2]
      clear hM key e hk h2 hk2 hk0
      by_cases h25 : t.fOp = 25
      · rw [if_pos h25, h25]
        cases inp <;> grind (splits := 30)
      · rw [if_neg h25]
        have := hk1 h25
        subst this
        rw [if_neg (show ¬ a = -1 by omega), if_pos (show 0 ≤ a by omega), if_pos (show (t.fKids.length : Int) = a by omega), if_neg (show ¬ a = -2 by omega)]
        dsimp only [cond_false, cond_true]
        cases inp <;> grind (splits := 30)
  · rw [decide_eq_false hn]
    simp only [Bool.cond_decide]
    grind
theorem m122_eq (vars : List GVar) (inp : Bool) : ∀ (n : Nat) (t : GTerm), SizeOf.sizeOf t < n → m122 n vars t inp = some (formS vars inp t)
  | 0, _, h => by omega
  | n + 1, t, h => s122_eq (m122 n) vars inp t (fun k hk => m122_eq vars inp n k (by have := GTerm.kids_lt hk; omega))
theorem r122_eq (vars : List GVar) (inp : Bool) (t : GTerm) : r122 vars t inp = some (formS vars inp t) := lim_eq (SizeOf.sizeOf t + 1) fun n hn => m122_eq vars inp n t (by omega)
/-! ### the ranges of terms -/
/-- a range whose ends are in order and within the limit -/
def InS (s : Span) : Prop := -1048576 ≤ s.fLow ∧ s.fLow ≤ s.fHigh ∧ s.fHigh ≤ 1048576
theorem m230_eq (a b : Span) : m230 a b = hull a b := rfl
theorem mul_bd {a b : Int} (h1 : -1048576 ≤ a) (h2 : a ≤ 1048576) (h3 : -1048576 ≤ b) (h4 : b ≤ 1048576) : -1099511627776 ≤ a * b ∧ a * b ≤ 1099511627776 := by
  have e1 : (1048576 - a) * (1048576 - b) ≥ 0 := Int.mul_nonneg (by omega) (by omega)
  have e2 : (1048576 + a) * (1048576 + b) ≥ 0 := Int.mul_nonneg (by omega) (by omega)
  have e3 : (1048576 - a) * (1048576 + b) ≥ 0 := Int.mul_nonneg (by omega) (by omega)
  have e4 : (1048576 + a) * (1048576 - b) ≥ 0 := Int.mul_nonneg (by omega) (by omega)
  grind
theorem m228_eq (a b : Span) (ha : InS a) (hb : InS b) : m228 a b = some (hull (hull (hull ⟨a.fLow * b.fLow, a.fLow * b.fLow⟩ ⟨a.fLow * b.fHigh, a.fLow * b.fHigh⟩) ⟨a.fHigh * b.fLow, a.fHigh * b.fLow⟩) ⟨a.fHigh * b.fHigh, a.fHigh * b.fHigh⟩) := by
  unfold InS at ha hb
  have w1 : m229 a.fLow b.fLow = a.fLow * b.fLow := by have := mul_bd (a := a.fLow) (b := b.fLow) (by omega) (by omega) (by omega) (by omega); exact wrap_id (by omega) (by omega)
  have w2 : m229 a.fLow b.fHigh = a.fLow * b.fHigh := by have := mul_bd (a := a.fLow) (b := b.fHigh) (by omega) (by omega) (by omega) (by omega); exact wrap_id (by omega) (by omega)
  have w3 : m229 a.fHigh b.fLow = a.fHigh * b.fLow := by have := mul_bd (a := a.fHigh) (b := b.fLow) (by omega) (by omega) (by omega) (by omega); exact wrap_id (by omega) (by omega)
  have w4 : m229 a.fHigh b.fHigh = a.fHigh * b.fHigh := by have := mul_bd (a := a.fHigh) (b := b.fHigh) (by omega) (by omega) (by omega) (by omega); exact wrap_id (by omega) (by omega)
  unfold m228
  rw [w1, w2, w3, w4]
  generalize a.fLow * b.fLow = p
  generalize a.fLow * b.fHigh = q
  generalize a.fHigh * b.fLow = r
  generalize a.fHigh * b.fHigh = s
  have e : a228_0 ⟨[q, r, s], (3 : Int), 0, ⟨0, 0⟩, ⟨p, p⟩⟩ = some ⟨[q, r, s], 3, 3, ⟨0, 0⟩, hull (hull (hull ⟨p, p⟩ ⟨q, q⟩) ⟨r, r⟩) ⟨s, s⟩⟩ := by
    have k1 : n228_0 ⟨[q, r, s], (3 : Int), 0, ⟨0, 0⟩, ⟨p, p⟩⟩ = some (some ⟨[q, r, s], (3 : Int), 1, ⟨0, 0⟩, hull ⟨p, p⟩ ⟨q, q⟩⟩) := by unfold n228_0; simp [m230_eq, wrap_id]
    have k2 : n228_0 ⟨[q, r, s], (3 : Int), 1, ⟨0, 0⟩, hull ⟨p, p⟩ ⟨q, q⟩⟩ = some (some ⟨[q, r, s], (3 : Int), 2, ⟨0, 0⟩, hull (hull ⟨p, p⟩ ⟨q, q⟩) ⟨r, r⟩⟩) := by unfold n228_0; simp [m230_eq, wrap_id]
    have k3 : n228_0 ⟨[q, r, s], (3 : Int), 2, ⟨0, 0⟩, hull (hull ⟨p, p⟩ ⟨q, q⟩) ⟨r, r⟩⟩ = some (some ⟨[q, r, s], (3 : Int), 3, ⟨0, 0⟩, hull (hull (hull ⟨p, p⟩ ⟨q, q⟩) ⟨r, r⟩) ⟨s, s⟩⟩) := by unfold n228_0; simp [m230_eq, wrap_id]
    unfold a228_0
    rw [advG_step k1, advG_step k2, advG_step k3]
    exact advG_stop fun r => by unfold n228_0; simp
  rw [show (([q, r, s] : List Int).length : Int) = 3 from rfl, e]
  simp
theorem hull_in {a b : Span} (ha : InS a) (hb : InS b) : InS (hull a b) := by
  unfold InS hull at *
  grind
theorem foldl_hull_in : ∀ (l : List Span) (a : Span), InS a → (∀ x ∈ l, InS x) → InS (l.foldl hull a)
  | [], a, ha, _ => ha
  | x :: l, a, ha, h => foldl_hull_in l (hull a x) (hull_in ha (h x (List.mem_cons_self ..))) fun y hy => h y (List.mem_cons_of_mem _ hy)
theorem a219_0_eq (l : List Span) (hl : l.length ≤ 1000000) (z a : Span) : a219_0 ⟨l, (l.length : Int), 0, z, a⟩ = some ⟨l, (l.length : Int), (l.length : Int), z, l.foldl hull a⟩ := by
  obtain ⟨v, e1, hv⟩ := loopI (rnd := n219_0) l.length (fun i (b : Span) => ⟨l, (l.length : Int), (i : Int), z, b⟩) (fun i b => b = (l.take i).foldl hull a) (fun i b hi hb => by
    have hw := w1L hi hl
    refine ⟨hull b l[i]!, ?_, ?_⟩
    · unfold n219_0
      dsimp only
      simp only [Bool.cond_decide, Int.toNat_natCast, m230_eq, hw]
      grind
    · rw [take_succL hi, List.foldl_append, hb]; rfl) (fun b _ => by unfold n219_0; simp) (b := a) rfl
  rw [List.take_length] at hv
  rw [← hv]
  exact e1
/-- kids that fit an operator -/
def KidsOk (vars : List GVar) (t : GTerm) (k : List Span) : Prop := (0 ≤ (kidsN t.fOp).1 ∧ (kidsN t.fOp).1 ≤ k.length ∧ (k.length : Int) ≤ (kidsN t.fOp).2) ∧ (t.fOp = 24 → 0 ≤ t.fN ∧ t.fN < vars.length) ∧ ∀ s ∈ k, InS s
theorem m219_eq (vars : List GVar) (t : GTerm) (k : List Span) (h : KidsOk vars t k) : m219 vars t k = some (ruleS vars t k) := by
  obtain ⟨hk, h24, hI⟩ := h
  have h0 : 1 ≤ (kidsN t.fOp).1 → InS k[0]! := fun h => hI _ (get_memL (by omega))
  have h1 : 2 ≤ (kidsN t.fOp).1 → InS k[1]! := fun h => hI _ (get_memL (by omega))
  have h33 : (kidsN t.fOp).2 ≤ 33 := by unfold kidsN; grind
  have hd : (k.drop 2).length ≤ 1000000 := by rw [List.length_drop]; omega
  have W : ∀ n : Int, -8796093022208 ≤ n → n ≤ 8796093022208 → IntKind.i64.wrap n = n := fun n a b => wrap_id (by omega) (by omega)
  unfold m219 ruleS
  rw [a219_0_eq _ hd]
  have cs : t.fOp = 0 ∨ t.fOp = 24 ∨ t.fOp = 6 ∨ t.fOp = 8 ∨ t.fOp = 9 ∨ t.fOp = 10 ∨ t.fOp = 11 ∨ t.fOp = 12 ∨ t.fOp = 21 ∨ t.fOp = 22 ∨ t.fOp = 23 ∨ t.fOp = 25 ∨ (t.fOp ≠ 0 ∧ t.fOp ≠ 24 ∧ t.fOp ≠ 6 ∧ t.fOp ≠ 8 ∧ t.fOp ≠ 9 ∧ t.fOp ≠ 10 ∧ t.fOp ≠ 11 ∧ t.fOp ≠ 12 ∧ t.fOp ≠ 21 ∧ t.fOp ≠ 22 ∧ t.fOp ≠ 23 ∧ t.fOp ≠ 25) := by omega
  rcases cs with h | h | h | h | h | h | h | h | h | h | h | h | h
  · simp [h]
  · simp [h, h24 h]
  · have hl : 1 ≤ (kidsN t.fOp).1 := by rw [h]; decide
    obtain ⟨a1, a2, a3⟩ := h0 hl
    have w1 : IntKind.i64.wrap ((0 : Int) - k[0]!.fHigh) = -k[0]!.fHigh := by rw [W _ (by omega) (by omega)]; omega
    have w2 : IntKind.i64.wrap ((0 : Int) - k[0]!.fLow) = -k[0]!.fLow := by rw [W _ (by omega) (by omega)]; omega
    have i0 : (0 : Int) < (k.length : Int) := by omega
    simp only [Z0, h, Bool.cond_decide, Int.reduceEq, reduceIte, i0, w1, w2, Int.le_refl, and_self, if_true]
  · have hl : 2 ≤ (kidsN t.fOp).1 := by rw [h]; decide
    obtain ⟨a1, a2, a3⟩ := h0 (by omega)
    obtain ⟨b1, b2, b3⟩ := h1 hl
    have w1 := W (k[0]!.fLow + k[1]!.fLow) (by omega) (by omega)
    have w2 := W (k[0]!.fHigh + k[1]!.fHigh) (by omega) (by omega)
    have i0 : (0 : Int) < (k.length : Int) := by omega
    have i1 : (1 : Int) < (k.length : Int) := by omega
    simp only [Z0, h, Bool.cond_decide, Int.reduceEq, Int.reduceLE, reduceIte, i0, i1, w1, w2, Int.le_refl, and_self, if_true]
  · have hl : 2 ≤ (kidsN t.fOp).1 := by rw [h]; decide
    obtain ⟨a1, a2, a3⟩ := h0 (by omega)
    obtain ⟨b1, b2, b3⟩ := h1 hl
    have w1 := W (k[0]!.fLow - k[1]!.fHigh) (by omega) (by omega)
    have w2 := W (k[0]!.fHigh - k[1]!.fLow) (by omega) (by omega)
    have i0 : (0 : Int) < (k.length : Int) := by omega
    have i1 : (1 : Int) < (k.length : Int) := by omega
    simp only [Z0, h, Bool.cond_decide, Int.reduceEq, Int.reduceLE, reduceIte, i0, i1, w1, w2, Int.le_refl, and_self, if_true]
  · have hl : 2 ≤ (kidsN t.fOp).1 := by rw [h]; decide
    have e10 := m228_eq _ _ (h0 (by omega)) (h1 hl)
    have i0 : (0 : Int) < (k.length : Int) := by omega
    have i1 : (1 : Int) < (k.length : Int) := by omega
    simp only [Z0, h, Bool.cond_decide, Int.reduceEq, Int.reduceLE, reduceIte, i0, i1, e10, Int.le_refl, and_self, if_true]
  · have hl : 2 ≤ (kidsN t.fOp).1 := by rw [h]; decide
    obtain ⟨a1, a2, a3⟩ := h0 (by omega)
    obtain ⟨b1, b2, b3⟩ := h1 hl
    have w1 : IntKind.i64.wrap ((0 : Int) - k[0]!.fLow) = -k[0]!.fLow := by rw [W _ (by omega) (by omega)]; omega
    have w2 : IntKind.i64.wrap ((0 : Int) - if k[0]!.fHigh < -k[0]!.fLow then -k[0]!.fLow else k[0]!.fHigh) = -(if k[0]!.fHigh < -k[0]!.fLow then -k[0]!.fLow else k[0]!.fHigh) := by split <;> (rw [W _ (by omega) (by omega)]; omega)
    have i0 : (0 : Int) < (k.length : Int) := by omega
    have i1 : (1 : Int) < (k.length : Int) := by omega
    simp only [Z0, h, Bool.cond_decide, Int.reduceEq, Int.reduceLE, reduceIte, i0, i1, w1, w2, Int.le_refl, and_self, if_true]
    by_cases c1 : (0 : Int) ≤ k[0]!.fLow <;> by_cases c2 : (0 : Int) ≤ k[1]!.fLow <;> simp only [c1, c2, if_true, if_false, decide_true, decide_false, cond_true, cond_false, and_self, and_true, and_false]
  · have hl : 2 ≤ (kidsN t.fOp).1 := by rw [h]; decide
    obtain ⟨b1, b2, b3⟩ := h1 hl
    have w1 := W (k[1]!.fLow + 1) (by omega) (by omega)
    have w2 := W (k[1]!.fHigh - 1) (by omega) (by omega)
    have i1 : (1 : Int) < (k.length : Int) := by omega
    simp only [Z0, h, Bool.cond_decide, Int.reduceEq, Int.reduceLE, reduceIte, i1, w1, w2, Int.le_refl, and_self, if_true]
    by_cases c1 : k[1]!.fLow < 0 <;> by_cases c2 : (0 : Int) < k[1]!.fHigh <;> simp only [c1, c2, if_true, if_false]
    · rw [if_neg (by omega), if_neg (by omega)]
    · rw [if_neg (by omega)]
    · rw [if_neg (by omega)]
  · have hl : 2 ≤ (kidsN t.fOp).1 := by rw [h]; decide
    have i0 : (0 : Int) < (k.length : Int) := by omega
    have i1 : (1 : Int) < (k.length : Int) := by omega
    simp only [Z0, h, Bool.cond_decide, Int.reduceEq, Int.reduceLE, reduceIte, i0, i1, Int.le_refl, and_self, if_true]
  · have hl : 2 ≤ (kidsN t.fOp).1 := by rw [h]; decide
    have i0 : (0 : Int) < (k.length : Int) := by omega
    have i1 : (1 : Int) < (k.length : Int) := by omega
    simp only [Z0, h, Bool.cond_decide, Int.reduceEq, Int.reduceLE, reduceIte, i0, i1, Int.le_refl, and_self, if_true]
  · have hl : 2 ≤ (kidsN t.fOp).1 := by rw [h]; decide
    have i1 : (1 : Int) < (k.length : Int) := by omega
    have i2 : (2 : Int) ≤ (k.length : Int) := by omega
    simp only [Z0, h, Bool.cond_decide, Int.reduceEq, Int.reduceLE, reduceIte, i1, i2, Int.le_refl, and_self, if_true, Int.lt_irrefl, if_false, true_or]
  · have hl : 2 ≤ (kidsN t.fOp).1 := by rw [h]; decide
    have i1 : (1 : Int) < (k.length : Int) := by omega
    have i2 : (2 : Int) ≤ (k.length : Int) := by omega
    simp only [Z0, h, Bool.cond_decide, Int.reduceEq, Int.reduceLE, reduceIte, i1, i2, Int.le_refl, and_self, if_true, Int.lt_irrefl, if_false, or_true]
  · obtain ⟨c1, c2, c3, c4, c5, c6, c7, c8, c9, c10, c11, c12⟩ := h
    simp only [c1, c2, c3, c4, c5, c6, c7, c8, c9, c10, c11, c12, Bool.cond_decide, if_false, or_self]
theorem rule_ord (vars : List GVar) (hv : VarsOk vars) (t : GTerm) (k : List Span) (h : KidsOk vars t k) : (ruleS vars t k).fLow ≤ (ruleS vars t k).fHigh := by
  obtain ⟨hk, h24, hI⟩ := h
  have h0 : 1 ≤ (kidsN t.fOp).1 → InS k[0]! := fun h => hI _ (get_memL (by omega))
  have h1 : 2 ≤ (kidsN t.fOp).1 → InS k[1]! := fun h => hI _ (get_memL (by omega))
  unfold ruleS
  have cs : t.fOp = 0 ∨ t.fOp = 24 ∨ t.fOp = 6 ∨ t.fOp = 8 ∨ t.fOp = 9 ∨ t.fOp = 10 ∨ t.fOp = 11 ∨ t.fOp = 12 ∨ t.fOp = 21 ∨ t.fOp = 22 ∨ t.fOp = 23 ∨ t.fOp = 25 ∨ (t.fOp ≠ 0 ∧ t.fOp ≠ 24 ∧ t.fOp ≠ 6 ∧ t.fOp ≠ 8 ∧ t.fOp ≠ 9 ∧ t.fOp ≠ 10 ∧ t.fOp ≠ 11 ∧ t.fOp ≠ 12 ∧ t.fOp ≠ 21 ∧ t.fOp ≠ 22 ∧ t.fOp ≠ 23 ∧ t.fOp ≠ 25) := by omega
  rcases cs with h | h | h | h | h | h | h | h | h | h | h | h | h
  · simp [h]
  · have hm : vars[t.fN.toNat]! ∈ vars := get_memL (by have := h24 h; omega)
    have := hv _ hm
    simp only [h, Int.reduceEq, reduceIte]
    omega
  · obtain ⟨a1, a2, a3⟩ := h0 (by rw [h]; decide)
    simp only [h, Int.reduceEq, reduceIte]
    omega
  · obtain ⟨a1, a2, a3⟩ := h0 (by rw [h]; decide)
    obtain ⟨b1, b2, b3⟩ := h1 (by rw [h]; decide)
    simp only [h, Int.reduceEq, reduceIte]
    omega
  · obtain ⟨a1, a2, a3⟩ := h0 (by rw [h]; decide)
    obtain ⟨b1, b2, b3⟩ := h1 (by rw [h]; decide)
    simp only [h, Int.reduceEq, reduceIte]
    omega
  · simp only [h, Int.reduceEq, reduceIte, hull]
    generalize k[0]!.fLow * k[1]!.fLow = p
    generalize k[0]!.fLow * k[1]!.fHigh = q
    generalize k[0]!.fHigh * k[1]!.fLow = r
    generalize k[0]!.fHigh * k[1]!.fHigh = s
    grind
  · obtain ⟨a1, a2, a3⟩ := h0 (by rw [h]; decide)
    simp only [h, Int.reduceEq, reduceIte]
    grind
  · simp only [h, Int.reduceEq, reduceIte]
    grind
  · obtain ⟨a1, a2, a3⟩ := h0 (by rw [h]; decide)
    obtain ⟨b1, b2, b3⟩ := h1 (by rw [h]; decide)
    simp only [h, Int.reduceEq, reduceIte]
    grind
  · obtain ⟨a1, a2, a3⟩ := h0 (by rw [h]; decide)
    obtain ⟨b1, b2, b3⟩ := h1 (by rw [h]; decide)
    simp only [h, Int.reduceEq, reduceIte]
    grind
  · have := foldl_hull_in (k.drop 2) k[1]! (h1 (by rw [h]; decide)) fun x hx => hI x (List.mem_of_mem_drop hx)
    simp only [h, Int.reduceEq, reduceIte, true_or, if_true]
    exact this.2.1
  · have := foldl_hull_in (k.drop 2) k[1]! (h1 (by rw [h]; decide)) fun x hx => hI x (List.mem_of_mem_drop hx)
    simp only [h, Int.reduceEq, reduceIte, or_true, if_true]
    exact this.2.1
  · obtain ⟨c1, c2, c3, c4, c5, c6, c7, c8, c9, c10, c11, c12⟩ := h
    simp only [c1, c2, c3, c4, c5, c6, c7, c8, c9, c10, c11, c12, if_false, or_self]
    decide
/-! ### lists of ranges -/
theorem allS_some : ∀ {l : List (Option Span)} {r : List Span}, allS l = some r → l = r.map some
  | [], r, h => by unfold allS at h; cases h; rfl
  | none :: l, r, h => by unfold allS at h; cases h
  | some s :: l, r, h => by
    unfold allS at h
    cases hl : allS l with
    | none => rw [hl] at h; cases h
    | some q => rw [hl] at h; cases h; rw [allS_some hl]; rfl
theorem allS_map (l : List Span) : allS (l.map some) = some l := by
  induction l with
  | nil => rfl
  | cons s l ih => rw [List.map_cons, allS, ih]
theorem allS_none : ∀ {l : List (Option Span)}, none ∈ l → allS l = none
  | none :: l, h => rfl
  | some s :: l, h => by
    unfold allS
    rw [allS_none (by simpa using h)]
theorem kidsOk_of {vars : List GVar} {inp : Bool} {t : GTerm} {k : List Span} (hf : form0 vars inp t = true) (hl : k.length = t.fKids.length) (hI : ∀ s ∈ k, InS s) : KidsOk vars t k := by
  unfold form0 at hf
  refine ⟨?_, ?_, hI⟩
  · rw [hl]
    simp only [Bool.and_eq_true, decide_eq_true_eq] at hf
    exact hf.1
  · intro h
    rw [h] at hf
    simp at hf
    exact hf.2.1
theorem rngS_in (vars : List GVar) (hv : VarsOk vars) (inp : Bool) (t : GTerm) (s : Span) (hf : formS vars inp t = true) (h : rngS vars t = some s) : InS s := by
  have key : ∀ (n : Nat) (t : GTerm) (s : Span), SizeOf.sizeOf t < n → formS vars inp t = true → rngS vars t = some s → InS s := by
    intro n
    induction n with
    | zero => intro t s h; omega
    | succ n ih =>
      intro t s hz hf h
      rw [formS_eq, Bool.and_eq_true, List.all_eq_true] at hf
      rw [rngS_eq] at h
      cases ha : allS (t.fKids.map (rngS vars)) with
      | none => rw [ha] at h; cases h
      | some k =>
        rw [ha] at h
        dsimp only at h
        have hm := allS_some ha
        have hl : k.length = t.fKids.length := by have := congrArg List.length hm; simpa using this.symm
        have hI : ∀ s ∈ k, InS s := fun x hx => by
          have : some x ∈ t.fKids.map (rngS vars) := by rw [hm]; exact List.mem_map_of_mem hx
          obtain ⟨c, hc, e⟩ := List.mem_map.1 this
          exact ih c x (by have := GTerm.kids_lt hc; omega) (hf.2 c hc) e
        have ho := rule_ord vars hv t k (kidsOk_of hf.1 hl hI)
        split at h
        · rename_i hlim
          cases h
          unfold limS at hlim
          unfold InS
          grind
        · cases h
  exact key _ t s (Nat.lt_succ_self _) hf h
/-- what the checkers return: the range and whether it is within the limit -/
def rngX (vars : List GVar) (t : GTerm) : Span × Bool := match allS (t.fKids.map (rngS vars)) with
  | none => (⟨0, 0⟩, false)
  | some l => (ruleS vars t l, limS (ruleS vars t l))
theorem rngX_eq (vars : List GVar) (t : GTerm) : rngS vars t = if (rngX vars t).2 = true then some (rngX vars t).1 else none := by
  rw [rngS_eq, rngX]
  cases allS (t.fKids.map (rngS vars)) <;> rfl
/-- all kids' ranges, when the form is right -/
theorem kids_all {vars : List GVar} (hv : VarsOk vars) {inp : Bool} {t : GTerm} {k : List Span} (hf : formS vars inp t = true) (ha : allS (t.fKids.map (rngS vars)) = some k) : KidsOk vars t k := by
  rw [formS_eq, Bool.and_eq_true, List.all_eq_true] at hf
  have hm := allS_some ha
  refine kidsOk_of hf.1 (by have := congrArg List.length hm; simpa using this.symm) fun x hx => ?_
  have : some x ∈ t.fKids.map (rngS vars) := by rw [hm]; exact List.mem_map_of_mem hx
  obtain ⟨c, hc, e⟩ := List.mem_map.1 this
  exact rngS_in vars hv inp c x (hf.2 c hc) e
theorem form_len {vars : List GVar} {inp : Bool} {t : GTerm} (hf : formS vars inp t = true) : t.fKids.length ≤ 33 := by
  rw [formS_eq, Bool.and_eq_true] at hf
  have := hf.1
  unfold form0 at this
  have h33 : (kidsN t.fOp).2 ≤ 33 := by unfold kidsN; grind
  simp only [Bool.and_eq_true, decide_eq_true_eq] at this
  omega
theorem form_kid {vars : List GVar} {inp : Bool} {t k : GTerm} (hf : formS vars inp t = true) (hk : k ∈ t.fKids) : formS vars inp k = true := by
  rw [formS_eq, Bool.and_eq_true, List.all_eq_true] at hf
  exact hf.2 k hk
theorem s194_eq (M : List GVar → GTerm → Option E194) (vars : List GVar) (hv : VarsOk vars) (inp : Bool) (t : GTerm) (hf : formS vars inp t = true) (hM : ∀ k ∈ t.fKids, M vars k = some (rngX vars k)) : s194 M vars t = some (rngX vars t) := by
  have h33 := form_len hf
  obtain ⟨i, b, e1, hI, hc⟩ := loopJ (rnd := n194_0 M) t.fKids.length (fun i (b : List Span) => ⟨vars, b, t.fKids, (t.fKids.length : Int), (i : Int), t, ⟨0, 0⟩⟩) (fun i b => (t.fKids.take i).map (rngS vars) = b.map some) (fun i _ => (rngX vars t.fKids[i]!).2 = false) (fun i b hi hb => by
    have hw := w1L hi (by omega)
    have hk := hM _ (get_memL hi)
    have hlen : b.length = i := by have := congrArg List.length hb; simp at this; omega
    cases hx : (rngX vars t.fKids[i]!).2 with
    | true =>
      refine .inl ⟨b ++ [(rngX vars t.fKids[i]!).1], ?_, ?_⟩
      · have hl2 : (b ++ [(rngX vars t.fKids[i]!).1]).length ≤ 1073741824 := by simp; omega
        unfold n194_0
        dsimp only
        simp only [Int.toNat_natCast, GTerm.eta, hk, hx, hl2, hw, if_true, cond_true, cond_false]
        simp [hi]
      · rw [take_succL hi, List.map_append, hb, List.map_append]
        congr 1
        rw [List.map_cons, List.map_cons, rngX_eq, if_pos hx]
        rfl
    | false =>
      refine .inr ⟨?_, rfl⟩
      unfold n194_0
      dsimp only
      simp only [Int.toNat_natCast, GTerm.eta, hk, hx, cond_true, cond_false]
      simp [hi]) (fun b _ => by unfold n194_0; simp) (b := []) rfl
  have e1' : a194_0 M ⟨vars, [], t.fKids, (t.fKids.length : Int), 0, t, ⟨0, 0⟩⟩ = some ⟨vars, b, t.fKids, (t.fKids.length : Int), (i : Int), t, ⟨0, 0⟩⟩ := e1
  unfold s194
  rw [GTerm.eta, e1']
  dsimp only
  rcases hc with rfl | ⟨hi, hx⟩
  · rw [List.take_length] at hI
    have ha : allS (t.fKids.map (rngS vars)) = some b := by rw [hI]; exact allS_map b
    rw [decide_eq_false (by omega), cond_false, GTerm.eta, m219_eq vars t b (kids_all hv hf ha)]
    unfold rngX
    rw [ha]
    dsimp only
    unfold limS
    simp only [Bool.cond_decide]
    grind
  · have hk := hM _ (get_memL hi)
    have ha : allS (t.fKids.map (rngS vars)) = none := allS_none (List.mem_map.2 ⟨t.fKids[i]!, get_memL hi, by rw [rngX_eq, hx]; simp⟩)
    rw [decide_eq_true (by omega), cond_true, if_pos ⟨by omega, by omega⟩]
    simp only [Int.toNat_natCast, GTerm.eta, hk, hx, cond_true, cond_false]
    unfold rngX
    rw [ha]
theorem m194_eq (vars : List GVar) (hv : VarsOk vars) (inp : Bool) : ∀ (n : Nat) (t : GTerm), SizeOf.sizeOf t < n → formS vars inp t = true → m194 n vars t = some (rngX vars t)
  | 0, _, h, _ => by omega
  | n + 1, t, h, hf => s194_eq (m194 n) vars hv inp t hf (fun k hk => m194_eq vars hv inp n k (by have := GTerm.kids_lt hk; omega) (form_kid hf hk))
theorem r194_eq (vars : List GVar) (hv : VarsOk vars) (inp : Bool) (t : GTerm) (hf : formS vars inp t = true) : r194 vars t = some (rngX vars t) := lim_eq (SizeOf.sizeOf t + 1) fun n hn => m194_eq vars hv inp n t (by omega) hf
theorem m167_eq (vars : List GVar) (hv : VarsOk vars) (inp : Bool) (t : GTerm) : m167 vars t inp = some (termC vars inp t) := by
  unfold m167 termC
  rw [GTerm.eta, r193_eq]
  cases hf : formS vars inp t with
  | false => rfl
  | true =>
    rw [r194_eq vars hv inp t hf, rngX_eq]
    dsimp only
    cases (rngX vars t).2 <;> rfl
end Go.Proofs.YtaonipoflmbhgaaGreat
end
section
set_option linter.unusedSectionVars false
set_option linter.unusedVariables false
set_option linter.unusedSimpArgs false
namespace Go.Proofs.YtaonipoflmbhgaaGreat
open Go Go.Iv

/-- the reference's range of a node: beyond the limit for a literal beyond it -/
def rule2 (vars : List GVar) (t : GTerm) (k : List Span) : Span := if t.fOp = 0 ∧ (t.fN < -1048576 ∨ 1048576 < t.fN) then ⟨-1048577, 1048577⟩ else ruleS vars t k
theorem rule2_lim (vars : List GVar) (t : GTerm) (k : List Span) : limS (rule2 vars t k) = limS (ruleS vars t k) ∧ (limS (ruleS vars t k) = true → rule2 vars t k = ruleS vars t k) := by
  unfold rule2
  by_cases h : t.fOp = 0 ∧ (t.fN < -1048576 ∨ 1048576 < t.fN)
  · have e : limS (ruleS vars t k) = false := by
      unfold limS ruleS
      rw [if_pos h.1]
      simp
      omega
    rw [if_pos h, e]
    exact ⟨by decide, fun h => by cases h⟩
  · rw [if_neg h]
    exact ⟨rfl, fun _ => rfl⟩
theorem m126_eq (a b : Int) : m126 a b = if a < b then a else b := by
  unfold m126
  simp only [Bool.cond_decide]
theorem m125_eq (a b : Int) : m125 a b = if b < a then a else b := by
  unfold m125
  simp only [Bool.cond_decide]
theorem getLow {k : List Span} {i : Nat} (h : i < k.length) : (k.map (·.fLow))[i]! = k[i]!.fLow := by
  rw [getElem!_pos _ i (by simpa using h), getElem!_pos k i h, List.getElem_map]
theorem getHigh {k : List Span} {i : Nat} (h : i < k.length) : (k.map (·.fHigh))[i]! = k[i]!.fHigh := by
  rw [getElem!_pos _ i (by simpa using h), getElem!_pos k i h, List.getElem_map]
theorem a171_0_eq (k : List Span) (hl : k.length ≤ 1000000) (h2 : 2 ≤ k.length) (a : Span) : a171_0 ⟨k.map (·.fLow), k.map (·.fHigh), a.fLow, a.fHigh, 2⟩ = some ⟨k.map (·.fLow), k.map (·.fHigh), ((k.drop 2).foldl hull a).fLow, ((k.drop 2).foldl hull a).fHigh, (k.length : Int)⟩ := by
  have hlen : (k.drop 2).length = k.length - 2 := List.length_drop ..
  have hget : ∀ i, i < k.length - 2 → (k.drop 2)[i]! = k[i + 2]! := fun i hi => by
    rw [getElem!_pos _ i (by omega), getElem!_pos _ (i + 2) (by omega), List.getElem_drop]
    congr 1
    omega
  obtain ⟨v, e1, hv⟩ := loopI (rnd := n171_0) (k.length - 2) (fun i (b : Span) => ⟨k.map (·.fLow), k.map (·.fHigh), b.fLow, b.fHigh, ((i + 2 : Nat) : Int)⟩) (fun i b => b = ((k.drop 2).take i).foldl hull a) (fun i b hi hb => by
    have hw := w1L (show i + 2 < k.length by omega) hl
    refine ⟨hull b k[i + 2]!, ?_, ?_⟩
    · unfold n171_0
      dsimp only
      simp only [Bool.cond_decide, Int.toNat_natCast, m126_eq, m125_eq, hw, List.length_map, getLow (show i + 2 < k.length by omega), getHigh (show i + 2 < k.length by omega)]
      unfold hull
      rw [if_pos (by omega), if_pos ⟨by omega, by omega⟩, if_pos ⟨by omega, by omega⟩]
      congr 3 <;> grind
    · rw [take_succL (by omega), List.foldl_append, hb, hget i hi]; rfl) (fun b _ => by
      unfold n171_0
      simp only [List.length_map, Bool.cond_decide]
      rw [if_neg (by omega)]) (b := a) rfl
  rw [← hlen, List.take_length] at hv
  rw [← hv]
  rw [show k.length - 2 + 2 = k.length by omega] at e1
  exact e1
theorem m171_eq (vars : List GVar) (t : GTerm) (k : List Span) (h : KidsOk vars t k) : m171 vars t (k.map (·.fLow)) (k.map (·.fHigh)) = some ((rule2 vars t k).fLow, (rule2 vars t k).fHigh) := by
  obtain ⟨hk, h24, hI⟩ := h
  have h0 : 1 ≤ (kidsN t.fOp).1 → InS k[0]! := fun h => hI _ (get_memL (by omega))
  have h1 : 2 ≤ (kidsN t.fOp).1 → InS k[1]! := fun h => hI _ (get_memL (by omega))
  have h33 : (kidsN t.fOp).2 ≤ 33 := by unfold kidsN; grind
  have W : ∀ n : Int, -8796093022208 ≤ n → n ≤ 8796093022208 → IntKind.i64.wrap n = n := fun n a b => wrap_id (by omega) (by omega)
  unfold m171 rule2 ruleS
  have cs : t.fOp = 0 ∨ t.fOp = 24 ∨ t.fOp = 6 ∨ t.fOp = 8 ∨ t.fOp = 9 ∨ t.fOp = 10 ∨ t.fOp = 11 ∨ t.fOp = 12 ∨ t.fOp = 21 ∨ t.fOp = 22 ∨ t.fOp = 23 ∨ t.fOp = 25 ∨ (t.fOp ≠ 0 ∧ t.fOp ≠ 24 ∧ t.fOp ≠ 6 ∧ t.fOp ≠ 8 ∧ t.fOp ≠ 9 ∧ t.fOp ≠ 10 ∧ t.fOp ≠ 11 ∧ t.fOp ≠ 12 ∧ t.fOp ≠ 21 ∧ t.fOp ≠ 22 ∧ t.fOp ≠ 23 ∧ t.fOp ≠ 25) := by omega
  rcases cs with h | h | h | h | h | h | h | h | h | h | h | h | h
  · simp only [Z0, h, Bool.cond_decide, Int.reduceEq, reduceIte, true_and]
    grind
  · simp [h, h24 h]
  · have hl : 1 ≤ (kidsN t.fOp).1 := by rw [h]; decide
    obtain ⟨a1, a2, a3⟩ := h0 hl
    have w1 : IntKind.i64.wrap ((0 : Int) - k[0]!.fHigh) = -k[0]!.fHigh := by rw [W _ (by omega) (by omega)]; omega
    have w2 : IntKind.i64.wrap ((0 : Int) - k[0]!.fLow) = -k[0]!.fLow := by rw [W _ (by omega) (by omega)]; omega
    have i0 : (0 : Int) < (k.length : Int) := by omega
    simp only [Z0, h, Bool.cond_decide, Int.reduceEq, reduceIte, List.length_map, i0, getLow (show 0 < k.length by omega), getHigh (show 0 < k.length by omega), w1, w2, Int.le_refl, and_self, if_true, false_and, if_false]
  · have hl : 2 ≤ (kidsN t.fOp).1 := by rw [h]; decide
    obtain ⟨a1, a2, a3⟩ := h0 (by omega)
    obtain ⟨b1, b2, b3⟩ := h1 hl
    have w1 := W (k[0]!.fLow + k[1]!.fLow) (by omega) (by omega)
    have w2 := W (k[0]!.fHigh + k[1]!.fHigh) (by omega) (by omega)
    have i0 : (0 : Int) < (k.length : Int) := by omega
    have i1 : (1 : Int) < (k.length : Int) := by omega
    simp only [Z0, h, Bool.cond_decide, Int.reduceEq, Int.reduceLE, reduceIte, List.length_map, getLow (show 0 < k.length by omega), getHigh (show 0 < k.length by omega), getLow (show 1 < k.length by omega), getHigh (show 1 < k.length by omega), i0, i1, w1, w2, Int.le_refl, and_self, if_true, false_and, if_false]
  · have hl : 2 ≤ (kidsN t.fOp).1 := by rw [h]; decide
    obtain ⟨a1, a2, a3⟩ := h0 (by omega)
    obtain ⟨b1, b2, b3⟩ := h1 hl
    have w1 := W (k[0]!.fLow - k[1]!.fHigh) (by omega) (by omega)
    have w2 := W (k[0]!.fHigh - k[1]!.fLow) (by omega) (by omega)
    have i0 : (0 : Int) < (k.length : Int) := by omega
    have i1 : (1 : Int) < (k.length : Int) := by omega
    simp only [Z0, h, Bool.cond_decide, Int.reduceEq, Int.reduceLE, reduceIte, List.length_map, getLow (show 0 < k.length by omega), getHigh (show 0 < k.length by omega), getLow (show 1 < k.length by omega), getHigh (show 1 < k.length by omega), i0, i1, w1, w2, Int.le_refl, and_self, if_true, false_and, if_false]
  · have hl : 2 ≤ (kidsN t.fOp).1 := by rw [h]; decide
    obtain ⟨a1, a2, a3⟩ := h0 (by omega)
    obtain ⟨b1, b2, b3⟩ := h1 hl
    have m1 := mul_bd (a := k[0]!.fLow) (b := k[1]!.fLow) (by omega) (by omega) (by omega) (by omega)
    have m2 := mul_bd (a := k[0]!.fLow) (b := k[1]!.fHigh) (by omega) (by omega) (by omega) (by omega)
    have m3 := mul_bd (a := k[0]!.fHigh) (b := k[1]!.fLow) (by omega) (by omega) (by omega) (by omega)
    have m4 := mul_bd (a := k[0]!.fHigh) (b := k[1]!.fHigh) (by omega) (by omega) (by omega) (by omega)
    have w1 := W _ (show -8796093022208 ≤ k[0]!.fLow * k[1]!.fLow by omega) (by omega)
    have w2 := W _ (show -8796093022208 ≤ k[0]!.fLow * k[1]!.fHigh by omega) (by omega)
    have w3 := W _ (show -8796093022208 ≤ k[0]!.fHigh * k[1]!.fLow by omega) (by omega)
    have w4 := W _ (show -8796093022208 ≤ k[0]!.fHigh * k[1]!.fHigh by omega) (by omega)
    have i0 : (0 : Int) < (k.length : Int) := by omega
    have i1 : (1 : Int) < (k.length : Int) := by omega
    simp only [Z0, h, Bool.cond_decide, Int.reduceEq, Int.reduceLE, reduceIte, List.length_map, getLow (show 0 < k.length by omega), getHigh (show 0 < k.length by omega), getLow (show 1 < k.length by omega), getHigh (show 1 < k.length by omega), i0, i1, w1, w2, w3, w4, Int.le_refl, and_self, if_true, false_and, if_false, m126_eq, m125_eq, hull]
    generalize k[0]!.fLow * k[1]!.fLow = p
    generalize k[0]!.fLow * k[1]!.fHigh = q
    generalize k[0]!.fHigh * k[1]!.fLow = r
    generalize k[0]!.fHigh * k[1]!.fHigh = s
    congr 2 <;> grind
  · have hl : 2 ≤ (kidsN t.fOp).1 := by rw [h]; decide
    obtain ⟨a1, a2, a3⟩ := h0 (by omega)
    obtain ⟨b1, b2, b3⟩ := h1 hl
    have z0 : Int.toNat 0 = 0 := rfl
    have z1 : Int.toNat 1 = 1 := rfl
    have e200 : ∀ x : Int, -1048576 ≤ x → x ≤ 1048576 → m200 x = if x < 0 then -x else x := fun x q1 q2 => by
      unfold m200
      rw [W _ (by omega) (by omega)]
      simp only [Bool.cond_decide]
      grind
    have e125 : m125 (m200 k[0]!.fLow) (m200 k[0]!.fHigh) = if k[0]!.fHigh < -k[0]!.fLow then -k[0]!.fLow else k[0]!.fHigh := by
      rw [e200 _ (by omega) (by omega), e200 _ (by omega) (by omega), m125_eq]
      grind
    have w2 : IntKind.i64.wrap ((0 : Int) - if k[0]!.fHigh < -k[0]!.fLow then -k[0]!.fLow else k[0]!.fHigh) = -(if k[0]!.fHigh < -k[0]!.fLow then -k[0]!.fLow else k[0]!.fHigh) := by split <;> (rw [W _ (by omega) (by omega)]; omega)
    have i0 : (0 : Int) < (k.length : Int) := by omega
    have i1 : (1 : Int) < (k.length : Int) := by omega
    simp only [Z0, h, Bool.cond_decide, Int.reduceEq, Int.reduceLE, reduceIte, List.length_map, z0, z1, getLow (show 0 < k.length by omega), getHigh (show 0 < k.length by omega), getLow (show 1 < k.length by omega), getHigh (show 1 < k.length by omega), i0, i1, e125, w2, Int.le_refl, and_self, if_true, false_and, if_false]
    by_cases c1 : (0 : Int) ≤ k[0]!.fLow <;> by_cases c2 : (0 : Int) ≤ k[1]!.fLow <;> simp only [c1, c2, if_true, if_false, decide_true, decide_false, cond_true, cond_false, and_self, and_true, and_false]
  · have hl : 2 ≤ (kidsN t.fOp).1 := by rw [h]; decide
    obtain ⟨b1, b2, b3⟩ := h1 hl
    have w1 := W (k[1]!.fLow + 1) (by omega) (by omega)
    have w2 := W (k[1]!.fHigh - 1) (by omega) (by omega)
    have i1 : (1 : Int) < (k.length : Int) := by omega
    simp only [Z0, h, Bool.cond_decide, Int.reduceEq, Int.reduceLE, reduceIte, List.length_map, getLow (show 1 < k.length by omega), getHigh (show 1 < k.length by omega), i1, Int.le_refl, and_self, if_true, false_and, if_false, m201, w1, w2, m126_eq, m125_eq]
    congr 1
    by_cases c1 : k[1]!.fLow < 0 <;> by_cases c2 : (0 : Int) < k[1]!.fHigh <;> simp only [c1, c2, if_true, if_false, Prod.mk.injEq, and_true, true_and] <;> grind
  · have hl : 2 ≤ (kidsN t.fOp).1 := by rw [h]; decide
    have i0 : (0 : Int) < (k.length : Int) := by omega
    have i1 : (1 : Int) < (k.length : Int) := by omega
    simp only [Z0, h, Bool.cond_decide, Int.reduceEq, Int.reduceLE, reduceIte, List.length_map, getLow (show 0 < k.length by omega), getHigh (show 0 < k.length by omega), getLow (show 1 < k.length by omega), getHigh (show 1 < k.length by omega), i0, i1, Int.le_refl, and_self, if_true, false_and, if_false, m126_eq, m125_eq]
    congr 2 <;> grind
  · have hl : 2 ≤ (kidsN t.fOp).1 := by rw [h]; decide
    have i0 : (0 : Int) < (k.length : Int) := by omega
    have i1 : (1 : Int) < (k.length : Int) := by omega
    simp only [Z0, h, Bool.cond_decide, Int.reduceEq, Int.reduceLE, reduceIte, List.length_map, getLow (show 0 < k.length by omega), getHigh (show 0 < k.length by omega), getLow (show 1 < k.length by omega), getHigh (show 1 < k.length by omega), i0, i1, Int.le_refl, and_self, if_true, false_and, if_false, m126_eq, m125_eq]
    congr 2 <;> grind
  · have hl : 2 ≤ (kidsN t.fOp).1 := by rw [h]; decide
    have i1 : (1 : Int) < (k.length : Int) := by omega
    have e := a171_0_eq k (by omega) (by omega) k[1]!
    simp only [Z0, h, Bool.cond_decide, Int.reduceEq, Int.reduceLE, reduceIte, List.length_map, getLow (show 1 < k.length by omega), getHigh (show 1 < k.length by omega), e, i1, Int.le_refl, and_self, if_true, Int.lt_irrefl, if_false, true_or, false_and]
  · have hl : 2 ≤ (kidsN t.fOp).1 := by rw [h]; decide
    have i1 : (1 : Int) < (k.length : Int) := by omega
    have e := a171_0_eq k (by omega) (by omega) k[1]!
    simp only [Z0, h, Bool.cond_decide, Int.reduceEq, Int.reduceLE, reduceIte, List.length_map, getLow (show 1 < k.length by omega), getHigh (show 1 < k.length by omega), e, i1, Int.le_refl, and_self, if_true, Int.lt_irrefl, if_false, or_true, false_and]
  · obtain ⟨c1, c2, c3, c4, c5, c6, c7, c8, c9, c10, c11, c12⟩ := h
    simp only [c1, c2, c3, c4, c5, c6, c7, c8, c9, c10, c11, c12, Bool.cond_decide, if_false, or_self, false_and]
def rngY (vars : List GVar) (t : GTerm) : Int × Int × Bool := match allS (t.fKids.map (rngS vars)) with
  | none => (0, 0, false)
  | some l => ((rule2 vars t l).fLow, (rule2 vars t l).fHigh, limS (rule2 vars t l))
theorem rngY_eq (vars : List GVar) (t : GTerm) : rngS vars t = if (rngY vars t).2.2 = true then some ⟨(rngY vars t).1, (rngY vars t).2.1⟩ else none := by
  rw [rngS_eq, rngY]
  cases h : allS (t.fKids.map (rngS vars)) with
  | none => rfl
  | some l =>
    obtain ⟨h1, h2⟩ := rule2_lim vars t l
    dsimp only
    by_cases hl : limS (ruleS vars t l) = true
    · rw [if_pos hl, if_pos (h1.trans hl), h2 hl]
    · rw [if_neg hl, if_neg (by rw [h1]; exact hl)]
theorem s123_eq (M : List GVar → GTerm → Option E123) (vars : List GVar) (hv : VarsOk vars) (inp : Bool) (t : GTerm) (hf : formS vars inp t = true) (hM : ∀ k ∈ t.fKids, M vars k = some (rngY vars k)) : s123 M vars t = some (rngY vars t) := by
  have h33 := form_len hf
  obtain ⟨i, b, e1, hI, hc⟩ := loopJ (rnd := n123_0 M) t.fKids.length (fun i (b : List Span) => ⟨vars, b.map (·.fLow), b.map (·.fHigh), (i : Int), t⟩) (fun i b => (t.fKids.take i).map (rngS vars) = b.map some) (fun i _ => (rngY vars t.fKids[i]!).2.2 = false) (fun i b hi hb => by
    have hw := w1L hi (by omega)
    have hk := hM _ (get_memL hi)
    have hlen : b.length = i := by have := congrArg List.length hb; simp at this; omega
    cases hx : (rngY vars t.fKids[i]!).2.2 with
    | true =>
      refine .inl ⟨b ++ [⟨(rngY vars t.fKids[i]!).1, (rngY vars t.fKids[i]!).2.1⟩], ?_, ?_⟩
      · have hl2 : (b.map (·.fLow) ++ [(rngY vars t.fKids[i]!).1]).length ≤ 1073741824 := by simp; omega
        have hl3 : (b.map (·.fHigh) ++ [(rngY vars t.fKids[i]!).2.1]).length ≤ 1073741824 := by simp; omega
        unfold n123_0
        dsimp only
        simp only [Int.toNat_natCast, GTerm.eta, hk, hx, hl2, hl3, hw, if_true, cond_true, cond_false]
        simp [hi]
      · rw [take_succL hi, List.map_append, hb, List.map_append]
        congr 1
        rw [List.map_cons, List.map_cons, rngY_eq, if_pos hx]
        rfl
    | false =>
      refine .inr ⟨?_, rfl⟩
      unfold n123_0
      dsimp only
      simp only [Int.toNat_natCast, GTerm.eta, hk, hx, cond_true, cond_false]
      simp [hi]) (fun b _ => by unfold n123_0; simp) (b := []) rfl
  have e1' : a123_0 M ⟨vars, [], [], 0, t⟩ = some ⟨vars, b.map (·.fLow), b.map (·.fHigh), (i : Int), t⟩ := e1
  unfold s123
  rw [GTerm.eta, e1']
  dsimp only
  rcases hc with rfl | ⟨hi, hx⟩
  · rw [List.take_length] at hI
    have ha : allS (t.fKids.map (rngS vars)) = some b := by rw [hI]; exact allS_map b
    rw [decide_eq_false (by omega), cond_false, GTerm.eta, m171_eq vars t b (kids_all hv hf ha)]
    unfold rngY
    rw [ha]
    dsimp only
    unfold limS
    simp only [Bool.cond_decide]
    grind
  · have hk := hM _ (get_memL hi)
    have ha : allS (t.fKids.map (rngS vars)) = none := allS_none (List.mem_map.2 ⟨t.fKids[i]!, get_memL hi, by rw [rngY_eq, hx]; simp⟩)
    rw [decide_eq_true (by omega), cond_true, if_pos ⟨by omega, by omega⟩]
    simp only [Int.toNat_natCast, GTerm.eta, hk, hx, cond_true, cond_false]
    unfold rngY
    rw [ha]
theorem m123_eq (vars : List GVar) (hv : VarsOk vars) (inp : Bool) : ∀ (n : Nat) (t : GTerm), SizeOf.sizeOf t < n → formS vars inp t = true → m123 n vars t = some (rngY vars t)
  | 0, _, h, _ => by omega
  | n + 1, t, h, hf => s123_eq (m123 n) vars hv inp t hf (fun k hk => m123_eq vars hv inp n k (by have := GTerm.kids_lt hk; omega) (form_kid hf hk))
theorem r123_eq (vars : List GVar) (hv : VarsOk vars) (inp : Bool) (t : GTerm) (hf : formS vars inp t = true) : r123 vars t = some (rngY vars t) := lim_eq (SizeOf.sizeOf t + 1) fun n hn => m123_eq vars hv inp n t (by omega) hf
theorem m62_eq (vars : List GVar) (hv : VarsOk vars) (inp : Bool) (t : GTerm) : m62 vars t inp = some (termC vars inp t) := by
  unfold m62 termC
  rw [GTerm.eta, r122_eq]
  cases hf : formS vars inp t with
  | false => rfl
  | true =>
    rw [r123_eq vars hv inp t hf, rngY_eq]
    dsimp only
    cases (rngY vars t).2.2 <;> rfl
end Go.Proofs.YtaonipoflmbhgaaGreat
end
section
set_option linter.unusedSectionVars false
set_option linter.unusedVariables false
set_option linter.unusedSimpArgs false
namespace Go.Proofs.YtaonipoflmbhgaaGreat
open Go Go.Iv

theorem GVar.eta (v : GVar) : GVar.mk v.fName v.fKind v.fLow v.fHigh v.fInit = v := by cases v; rfl
theorem Hatch.eta (h : Hatch) : Hatch.mk h.fName h.fLow h.fHigh h.fTerm = h := by cases h; rfl
/-! ### hatches -/
theorem m166_eq (l : List Hatch) (hl : l.length ≤ 1000000) (v : Hatch) : m166 l v = some (l.any fun w => w.fName.toList == v.fName.toList) := by
  obtain ⟨i, e1, hc⟩ := loopB (rnd := n192_0) l (fun i => ⟨l, v.fName, v.fLow, v.fHigh, v.fTerm.fOp, v.fTerm.fN, v.fTerm.fKids, (l.length : Int), (i : Int)⟩) (fun _ w => !(w.fName.toList == v.fName.toList)) (fun i hi => by
    have hw := w1L hi hl
    unfold n192_0 m165
    dsimp only
    simp only [Bool.cond_decide, Int.toNat_natCast]
    grind) (by unfold n192_0; simp)
  have e1' : a192_0 ⟨l, v.fName, v.fLow, v.fHigh, v.fTerm.fOp, v.fTerm.fN, v.fTerm.fKids, (l.length : Int), 0⟩ = some ⟨l, v.fName, v.fLow, v.fHigh, v.fTerm.fOp, v.fTerm.fN, v.fTerm.fKids, (l.length : Int), (i : Int)⟩ := e1
  unfold m166 m192
  rw [e1']
  dsimp only
  rcases hc with ⟨rfl, hc⟩ | ⟨hi, hc⟩
  · rw [not_any fun j hj => by have := hc j hj; simpa using this]
    simp
  · have hc' : (l[i]!.fName.toList == v.fName.toList) = true := by simpa using hc
    rw [is_any hi hc']
    unfold m165
    simp only [Int.toNat_natCast, hc', cond_true]
    simp [hi]
theorem a18_1_eq (f : Flat) (hl : f.fHatches.length ≤ 1000000) (n : Nat) (hn : n ≤ f.fHatches.length) (v : Hatch) :
    ∃ i : Nat, a18_1 ⟨n, 0, f, v⟩ = some ⟨n, (i : Int), f, v⟩ ∧ ((i = n ∧ ((f.fHatches.take n).any fun w => w.fName.toList == v.fName.toList) = false) ∨ (i < n ∧ (f.fHatches[i]!.fName.toList == v.fName.toList) = true ∧ ((f.fHatches.take n).any fun w => w.fName.toList == v.fName.toList) = true)) := by
  have hlen : (f.fHatches.take n).length = n := by rw [List.length_take]; omega
  have hget : ∀ i, i < n → (f.fHatches.take n)[i]! = f.fHatches[i]! := fun i hi => by
    rw [getElem!_pos _ i (by omega), getElem!_pos _ i (by omega), List.getElem_take]
  obtain ⟨i, e1, hc⟩ := loopB (rnd := n18_1) (f.fHatches.take n) (fun i => ⟨(n : Int), (i : Int), f, v⟩) (fun _ w => !(w.fName.toList == v.fName.toList)) (fun i hi => by
    rw [hlen] at hi
    have hw := w1L hi (by omega)
    rw [hget i hi]
    unfold n18_1
    dsimp only
    simp only [Bool.cond_decide, Int.toNat_natCast, GTerm.eta, Hatch.eta]
    grind) (by rw [hlen]; unfold n18_1; simp)
  refine ⟨i, e1, ?_⟩
  rw [hlen] at hc
  rcases hc with ⟨rfl, hc⟩ | ⟨hi, hc⟩
  · exact .inl ⟨rfl, not_any fun j hj => by have := hc j (by omega); simpa using this⟩
  · have hc' : ((f.fHatches.take n)[i]!.fName.toList == v.fName.toList) = true := by simpa using hc
    exact .inr ⟨hi, by rw [← hget i hi]; exact hc', is_any (by omega) hc'⟩
/-! ### the form of steps -/
theorem m198_eq (t : GTerm) : m198 t = zeroT t := by
  unfold m198 zeroT
  simp only [Bool.cond_decide]
  grind
theorem m172_eq (t : GTerm) : m172 t = zeroT t := by
  unfold m172 zeroT
  simp only [Bool.cond_decide]
  grind
theorem riseB_get : ∀ (l : List Int), riseB l = true ↔ ∀ i, i + 1 < l.length → l[i]! < l[i + 1]!
  | [] => by simp [riseB]
  | [a] => by simp [riseB]
  | a :: b :: l => by
    unfold riseB
    rw [Bool.and_eq_true, riseB_get (b :: l), decide_eq_true_iff]
    constructor
    · rintro ⟨h1, h2⟩ i hi
      cases i with
      | zero => exact h1
      | succ i => exact h2 i (by simpa using hi)
    · intro h
      exact ⟨h 0 (by simp), fun i hi => h (i + 1) (by simpa using hi)⟩
theorem m199_eq (l : List Int) (hl : l.length ≤ 1000000) : m199 l = some (riseB l) := by
  obtain ⟨i, e1, hc⟩ := loopB (rnd := n199_0) l (fun i => ⟨l, (l.length : Int), (i : Int)⟩) (fun i x => decide (i = 0) || decide (l[i - 1]! < x)) (fun i hi => by
    have hw := w1L hi hl
    have hw2 : IntKind.i64.wrap ((i : Int) - 1) = (i : Int) - 1 := wrap_id (by omega) (by omega)
    have hw3 : ((i : Int) - 1).toNat = i - 1 := by omega
    unfold n199_0
    dsimp only
    simp only [Bool.cond_decide, Int.toNat_natCast, hw, hw2, hw3]
    generalize l[i]! = y
    generalize l[i - 1]! = z
    grind) (by unfold n199_0; simp)
  have e1' : a199_0 ⟨l, (l.length : Int), 0⟩ = some ⟨l, (l.length : Int), (i : Int)⟩ := e1
  unfold m199
  rw [e1']
  dsimp only
  rcases hc with ⟨rfl, hc⟩ | ⟨hi, hc⟩
  · have : riseB l = true := (riseB_get l).2 fun i hi => by
      have := hc (i + 1) hi
      simpa using this
    rw [this]
    simp
  · have hc' : i ≠ 0 ∧ ¬ l[i - 1]! < l[i]! := by
      simp only [Bool.or_eq_false_iff, decide_eq_false_iff_not] at hc
      exact hc
    have : riseB l = false := by
      cases hr : riseB l with
      | false => rfl
      | true =>
        have := (riseB_get l).1 hr (i - 1) (by omega)
        rw [show i - 1 + 1 = i by omega] at this
        exact absurd this hc'.2
    rw [this]
    have hw2 : IntKind.i64.wrap ((i : Int) - 1) = (i : Int) - 1 := wrap_id (by omega) (by omega)
    have hw3 : ((i : Int) - 1).toNat = i - 1 := by omega
    simp only [Bool.cond_decide, Int.toNat_natCast, hw2, hw3]
    revert hc'
    generalize l[i]! = y
    generalize l[i - 1]! = z
    intro hc'
    grind
theorem m173_eq (l : List Int) (hl : l.length ≤ 1000000) : m173 l = some (decide (1 ≤ l.length ∧ l.length ≤ 32) && decide ((0 : Int) ≤ l[0]!) && riseB l) := by
  unfold m173
  by_cases h1 : 1 ≤ l.length ∧ l.length ≤ 32
  case neg =>
    rw [decide_eq_false h1]
    simp only [Bool.cond_decide]
    grind
  rw [decide_eq_true h1, decide_eq_false (show ¬ (l.length : Int) < 1 by omega), decide_eq_false (show ¬ 32 < (l.length : Int) by omega), if_pos (⟨Int.le_refl _, by omega⟩ : (0 : Int) ≤ 0 ∧ (0 : Int) < (l.length : Int))]
  have hz : l[Int.toNat 0]! = l[0]! := rfl
  rw [hz]
  by_cases h0 : (0 : Int) ≤ l[0]!
  case neg =>
    rw [decide_eq_false h0, decide_eq_true (show l[0]! < 0 by omega)]
    rfl
  rw [decide_eq_true h0, decide_eq_false (show ¬ l[0]! < 0 by omega)]
  dsimp only [cond_false]
  have hlen : (l.drop 1).length = l.length - 1 := List.length_drop ..
  have hget : ∀ i, i < l.length - 1 → (l.drop 1)[i]! = l[i + 1]! := fun i hi => by
    rw [getElem!_pos _ i (by omega), getElem!_pos _ (i + 1) (by omega), List.getElem_drop]
    congr 1
    omega
  obtain ⟨i, e1, hc⟩ := loopB (rnd := n173_0) (l.drop 1) (fun i => ⟨l, ((i + 1 : Nat) : Int)⟩) (fun i x => decide (l[i]! < x)) (fun i hi => by
    rw [hlen] at hi
    have hw := w1L (show i + 1 < l.length by omega) hl
    have hw2 : IntKind.i64.wrap (((i + 1 : Nat) : Int) - 1) = (i : Int) := by rw [wrap_id (by omega) (by omega)]; omega
    rw [hget i hi]
    unfold n173_0
    dsimp only
    simp only [Bool.cond_decide, Int.toNat_natCast, hw, hw2]
    generalize l[i + 1]! = y
    generalize l[i]! = z
    grind) (by
      rw [hlen]
      unfold n173_0
      simp only [Bool.cond_decide]
      rw [if_neg (by omega)])
  have e1' : a173_0 ⟨l, 1⟩ = some ⟨l, ((i + 1 : Nat) : Int)⟩ := e1
  rw [e1']
  dsimp only
  rw [hlen] at hc
  rcases hc with ⟨rfl, hc⟩ | ⟨hi, hc⟩
  · have : riseB l = true := (riseB_get l).2 fun i hi => by
      have := hc i (by omega)
      rw [hget i (by omega)] at this
      simpa using this
    rw [this, decide_eq_false (show ¬ (((l.length - 1 + 1 : Nat) : Int) < (l.length : Int)) by omega)]
    rfl
  · rw [hget i hi] at hc
    have hc' : ¬ l[i]! < l[i + 1]! := by simpa using hc
    have : riseB l = false := by
      cases hr : riseB l with
      | false => rfl
      | true => exact absurd ((riseB_get l).1 hr i (by omega)) hc'
    rw [this]
    have hw2 : IntKind.i64.wrap (((i + 1 : Nat) : Int) - 1) = (i : Int) := by rw [wrap_id (by omega) (by omega)]; omega
    simp only [Bool.cond_decide, Int.toNat_natCast, hw2]
    revert hc'
    generalize l[i + 1]! = y
    generalize l[i]! = z
    intro hc'
    grind
theorem GStep.eta' (s : GStep) : GStep.mk s.fDo s.fCost s.fVar s.fN (GTerm.mk s.fTerm.fOp s.fTerm.fN s.fTerm.fKids) s.fThen s.fElse s.fBounds = s := by rw [GTerm.eta, GStep.eta]
theorem and_ite (a b : Bool) : (a && b) = if a = true then b else false := by cases a <;> rfl
theorem m168_eq (f : Flat) (s : GStep) (last : Bool) : m168 f s last = some (shapeB f s last) := by
  have h199 : s.fBounds.length ≤ 32 → m199 s.fBounds = some (riseB s.fBounds) := fun h => m199_eq _ (by omega)
  have hz : s.fBounds[Int.toNat 0]! = s.fBounds[0]! := rfl
  unfold m168 m195 m196 m197
  rw [GTerm.eta, m198_eq, hz]
  obtain ⟨X, hX⟩ : ∃ X, X = shapeB f s last := ⟨_, rfl⟩
  rw [← hX]
  have hX1 : X = true ↔ shapeB f s last = true := by rw [hX]
  clear hX
  unfold shapeB localB at hX1
  generalize riseB s.fBounds = R at *
  generalize zeroT s.fTerm = Z at *
  generalize f.fVars[s.fVar.toNat]!.fKind = K at *
  generalize s.fBounds[0]! = B0 at *
  generalize m199 s.fBounds = M at *
  have cs : s.fDo = 0 ∨ s.fDo = 1 ∨ s.fDo = 2 ∨ s.fDo = 3 ∨ s.fDo = 4 ∨ s.fDo = 5 ∨ s.fDo = 6 ∨ s.fDo < 0 ∨ 6 < s.fDo := by omega
  rcases cs with h | h | h | h | h | h | h | h | h
  case inr.inr.inr.inr.inr.inr.inr.inl => rw [decide_eq_true h]; dsimp only [cond_true]; cases X <;> grind
  case inr.inr.inr.inr.inr.inr.inr.inr => rw [decide_eq_true h, decide_eq_false (by omega)]; dsimp only [cond_true, cond_false]; cases X <;> grind
  all_goals
    rw [h] at hX1 ⊢
    cases X <;> cases Z <;> simp only [Int.reduceEq, Int.reduceLT, decide_true, decide_false, cond_true, cond_false, if_true, if_false, Bool.cond_decide, reduceIte, Bool.and_eq_true, decide_eq_true_eq, Bool.false_eq_true, true_iff, false_iff, not_and, and_true, and_false] at hX1 ⊢ <;> grind (splits := 40)
theorem bif_some (a b : Bool) : (bif a then some b else some false) = some (a && b) := by cases a <;> rfl
theorem m124_eq (f : Flat) (s : GStep) (last : Bool) (hb : s.fBounds.length ≤ 1000000) : m124 f s last = some (shapeB f s last) := by
  have h173 := m173_eq s.fBounds hb
  have e1 : (bif decide ((s.fThen.length : Int) = 0) then some (decide ((s.fElse.length : Int) = 0)) else some false) = some (decide (s.fThen.length = 0 ∧ s.fElse.length = 0)) := by
    have c1 : ((s.fThen.length : Int) = 0) ↔ s.fThen.length = 0 := by omega
    have c2 : ((s.fElse.length : Int) = 0) ↔ s.fElse.length = 0 := by omega
    simp only [c1, c2]
    by_cases a1 : s.fThen.length = 0 <;> by_cases a2 : s.fElse.length = 0 <;> simp [a1, a2]
  have e2 : (bif decide (0 ≤ s.fVar) then bif decide (s.fVar < (f.fVars.length : Int)) then if (0 : Int) ≤ s.fVar ∧ s.fVar < (f.fVars.length : Int) then some (decide (f.fVars[s.fVar.toNat]!.fKind = 0)) else none else some false else some false) = some (localB f s) := by
    unfold localB
    simp only [Bool.cond_decide]
    generalize f.fVars[s.fVar.toNat]!.fKind = K
    by_cases a1 : 0 ≤ s.fVar <;> by_cases a2 : s.fVar < (f.fVars.length : Int) <;> simp [a1, a2]
  unfold m124
  rw [GTerm.eta, m172_eq, h173, e1, e2]
  dsimp only
  unfold shapeB
  generalize riseB s.fBounds = R
  generalize zeroT s.fTerm = Z
  generalize localB f s = L1
  generalize decide (s.fThen.length = 0 ∧ s.fElse.length = 0) = F
  generalize s.fBounds[0]! = B0
  have hi : ((s.fBounds.length : Int) = 0) ↔ s.fBounds.length = 0 := by omega
  have hi2 : ((s.fElse.length : Int) = 0) ↔ s.fElse.length = 0 := by omega
  simp only [hi, hi2]
  have cs : s.fDo = 0 ∨ s.fDo = 1 ∨ s.fDo = 2 ∨ s.fDo = 3 ∨ s.fDo = 4 ∨ s.fDo = 5 ∨ s.fDo = 6 ∨ (s.fDo ≠ 0 ∧ s.fDo ≠ 1 ∧ s.fDo ≠ 2 ∧ s.fDo ≠ 3 ∧ s.fDo ≠ 4 ∧ s.fDo ≠ 5 ∧ s.fDo ≠ 6) := by omega
  rcases cs with h | h | h | h | h | h | h | ⟨h0, h1, h2, h3, h4, h5, h6⟩
  case inr.inr.inr.inr.inr.inr.inr => simp only [h0, h1, h2, h3, h4, h5, h6, decide_false, cond_false, if_false]
  all_goals
    rw [h]
    simp only [Int.reduceEq, decide_true, decide_false, cond_true, cond_false, if_true, if_false, reduceIte]
    generalize decide (s.fBounds.length = 0) = b1
    generalize decide (s.fVar = 0) = b2
    generalize decide (s.fElse.length = 0) = b3
    generalize decide (1 ≤ s.fBounds.length ∧ s.fBounds.length ≤ 32) = b4
    generalize decide ((0 : Int) ≤ B0) = b5
    try rw [Bool.decide_and]
    generalize decide (s.fN = 0) = b6
    try generalize decide (0 ≤ s.fN) = b7
    try generalize decide (s.fN < (f.fHatches.length : Int)) = b8
    simp only [bif_some]
    first | done | (congr 1; ac_rfl)
/-- a step's numbers -/
theorem m169_eq (s : GStep) (hb : s.fDo = 6 → 1 ≤ s.fBounds.length ∧ s.fBounds.length ≤ 32) : m169 s = some (numB s) := by
  unfold m169 numB
  by_cases h6 : s.fDo = 6
  · obtain ⟨b1, b2⟩ := hb h6
    have hw : IntKind.i64.wrap ((s.fBounds.length : Int) - 1) = (s.fBounds.length : Int) - 1 := wrap_id (by omega) (by omega)
    have hw2 : ((s.fBounds.length : Int) - 1).toNat = s.fBounds.length - 1 := by omega
    rw [hw, hw2, h6]
    generalize s.fBounds[s.fBounds.length - 1]! = B
    simp only [Int.reduceEq, Int.reduceLT, decide_true, decide_false, cond_true, cond_false, if_true, if_false, Bool.cond_decide, reduceIte, and_ite, decide_eq_true_eq, Bool.false_eq_true]
    grind (splits := 30)
  · rw [decide_eq_false h6, if_neg h6]
    by_cases h2 : s.fDo = 2
    · rw [h2]
      simp only [Int.reduceEq, Int.reduceLT, decide_true, decide_false, cond_true, cond_false, if_true, if_false, Bool.cond_decide, reduceIte, and_ite, decide_eq_true_eq, Bool.false_eq_true]
      grind (splits := 30)
    · rw [decide_eq_false h2, if_neg h2]
      simp only [Int.reduceEq, Int.reduceLT, decide_true, decide_false, cond_true, cond_false, if_true, if_false, Bool.cond_decide, reduceIte, and_ite, decide_eq_true_eq, Bool.false_eq_true]
      grind (splits := 30)
theorem shape_bounds {f : Flat} {s : GStep} {last : Bool} (h : shapeB f s last = true) : (s.fDo = 6 → 1 ≤ s.fBounds.length ∧ s.fBounds.length ≤ 32) ∧ (s.fDo ≠ 6 → s.fBounds.length = 0) ∧ (s.fDo ≠ 3 → s.fDo ≠ 4 → s.fThen = []) ∧ (s.fDo ≠ 3 → s.fElse = []) ∧ (s.fDo ≠ 4 → 0 ≤ s.fN) := by
  unfold shapeB at h
  simp only [and_ite, decide_eq_true_eq] at h
  have e1 : s.fThen.length = 0 → s.fThen = [] := List.length_eq_zero_iff.1
  have e2 : s.fElse.length = 0 → s.fElse = [] := List.length_eq_zero_iff.1
  refine ⟨fun h6 => ?_, fun h6 => ?_, fun h3 h4 => e1 ?_, fun h3 => e2 ?_, fun h4 => ?_⟩ <;> grind (splits := 40)
end Go.Proofs.YtaonipoflmbhgaaGreat
end
section
set_option linter.unusedSectionVars false
set_option linter.unusedVariables false
set_option linter.unusedSimpArgs false
namespace Go.Proofs.YtaonipoflmbhgaaGreat
open Go Go.Iv

theorem a113_1_eq (M : Flat → List GStep → Bool → Option E113) (f : Flat) (l A B : List GStep) (top : Bool) (n i a b : Int) (ha : M f A false = some a) (hb : M f B false = some b) :
    a113_1 M ⟨l, top, l, n, i, [A, B], 2, 0, f⟩ = some ⟨l, top, l, n, i, [A, B], 2, if a ≠ 0 then 0 else if b ≠ 0 then 1 else 2, f⟩ := by
  have w0 : IntKind.i64.wrap 1 = 1 := rfl
  have w1 : IntKind.i64.wrap 2 = 2 := rfl
  have r1 : n113_1 M ⟨l, top, l, n, i, [A, B], 2, 0, f⟩ = if a ≠ 0 then some none else some (some ⟨l, top, l, n, i, [A, B], 2, 1, f⟩) := by
    unfold n113_1
    by_cases h : a = 0 <;> simp [ha, h, w0]
  have r2 : n113_1 M ⟨l, top, l, n, i, [A, B], 2, 1, f⟩ = if b ≠ 0 then some none else some (some ⟨l, top, l, n, i, [A, B], 2, 2, f⟩) := by
    unfold n113_1
    by_cases h : b = 0 <;> simp [hb, h, w1]
  have r3 : n113_1 M ⟨l, top, l, n, i, [A, B], 2, 2, f⟩ = some none := by
    unfold n113_1
    simp
  unfold a113_1
  by_cases h1 : a ≠ 0
  · rw [if_pos h1] at r1 ⊢
    exact advG_stop fun r => by rw [r1]; simp
  · rw [if_neg h1] at r1 ⊢
    rw [advG_step r1]
    by_cases h2 : b ≠ 0
    · rw [if_pos h2] at r2 ⊢
      exact advG_stop fun r => by rw [r2]; simp
    · rw [if_neg h2] at r2 ⊢
      rw [advG_step r2]
      exact advG_stop fun r => by rw [r3]; simp
theorem lastB (n i : Nat) (hn : n ≤ 1000000) : decide ((i : Int) = IntKind.i64.wrap ((n : Int) - 1)) = decide (i + 1 = n) := by
  rw [wrap_id (by omega) (by omega)]
  apply decide_eq_decide.2
  omega
theorem round113 (M : Flat → List GStep → Bool → Option E113) (f : Flat) (hv : VarsOk f.fVars) (l : List GStep) (hl : l.length ≤ 1000000) (top : Bool) (hM : ∀ s ∈ l, M f s.fThen false = some (stepC f false s.fThen) ∧ M f s.fElse false = some (stepC f false s.fElse)) (i : Nat) (hi : i < l.length) :
    (stC f top l.length i l[i]! = 0 → n113_0 M ⟨l, top, l, (l.length : Int), (i : Int), f⟩ = some (some ⟨l, top, l, (l.length : Int), ((i + 1 : Nat) : Int), f⟩)) ∧ (stC f top l.length i l[i]! ≠ 0 → n113_0 M ⟨l, top, l, (l.length : Int), (i : Int), f⟩ = some none) := by
  have hw := w1L hi hl
  obtain ⟨k1, k2⟩ := hM _ (get_memL hi)
  have hin := a113_1_eq M f l l[i]!.fThen l[i]!.fElse top (l.length : Int) (i : Int) _ _ k1 k2
  have hlen : (([l[i]!.fThen, l[i]!.fElse] : List (List GStep)).length : Int) = 2 := rfl
  have hi1 : (i : Int) < (l.length : Int) := by omega
  have hi0 : (0 : Int) ≤ (i : Int) := by omega
  unfold n113_0 stC ownC
  dsimp only
  simp only [Int.toNat_natCast, GTerm.eta, GStep.eta, m168_eq, lastB l.length i hl, m167_eq f.fVars hv, hlen, hin, hw, hi1, hi0, decide_true, cond_true, and_self, if_true]
  have e1' : (bif top then some (bif shapeB f l[i]! (decide (i + 1 = l.length)) then false else true) else some (bif shapeB f l[i]! false then false else true)) = some (bif shapeB f l[i]! (top && decide (i + 1 = l.length)) then false else true) := by cases top <;> rfl
  rw [e1']
  have hS : shapeB f l[i]! (top && decide (i + 1 = l.length)) = true → m169 l[i]! = some (numB l[i]!) := fun h => m169_eq _ (shape_bounds h).1
  revert hS
  generalize shapeB f l[i]! (top && decide (i + 1 = l.length)) = S
  intro hS
  generalize l[i]!.fThen = A at k1 hin ⊢
  generalize l[i]!.fElse = B at k2 hin ⊢
  cases S with
  | false => simp
  | true =>
    rw [hS rfl]
    generalize numB l[i]! = N
    cases N with
    | false => simp
    | true =>
      generalize termC f.fVars false l[i]!.fTerm = T
      generalize stepC f false A = a at *
      generalize stepC f false B = b at *
      by_cases hT : T = 0
      · by_cases ha : a = 0
        · by_cases hb : b = 0
          · simp [hT, ha, hb, hw]
          · simp [hT, ha, hb, k2]
        · simp [hT, ha, k1]
      · simp [hT]
theorem s113_eq (M : Flat → List GStep → Bool → Option E113) (f : Flat) (hv : VarsOk f.fVars) (l : List GStep) (hl : l.length ≤ 1000000) (top : Bool) (hM : ∀ s ∈ l, M f s.fThen false = some (stepC f false s.fThen) ∧ M f s.fElse false = some (stepC f false s.fElse)) : s113 M f l top = some (stepC f top l) := by
  obtain ⟨i, e1, hc⟩ := loopC (rnd := n113_0 M) l (fun i => ⟨l, top, l, (l.length : Int), (i : Int), f⟩) (stC f top l.length) (fun i hi => round113 M f hv l hl top hM i hi) (by unfold n113_0; simp)
  have e1' : a113_0 M ⟨l, top, l, (l.length : Int), 0, f⟩ = some ⟨l, top, l, (l.length : Int), (i : Int), f⟩ := e1
  rw [stepC_first f top l.length l 0 (by omega)] at hc
  unfold s113
  rw [e1']
  dsimp only
  rcases hc with ⟨rfl, hc⟩ | ⟨hi, h0, hc⟩
  · rw [hc]
    simp
  · rw [hc]
    obtain ⟨k1, k2⟩ := hM _ (get_memL hi)
    have hin := a113_1_eq M f l l[i]!.fThen l[i]!.fElse top (l.length : Int) (i : Int) _ _ k1 k2
    have hlen : (([l[i]!.fThen, l[i]!.fElse] : List (List GStep)).length : Int) = 2 := rfl
    have hi1 : (i : Int) < (l.length : Int) := by omega
    have hi0 : (0 : Int) ≤ (i : Int) := by omega
    revert h0
    unfold stC ownC
    simp only [Int.toNat_natCast, GTerm.eta, GStep.eta, m168_eq, lastB l.length i hl, m167_eq f.fVars hv, hlen, hin, hi1, hi0, decide_true, cond_true, and_self, if_true]
    have e1' : (bif top then some (bif shapeB f l[i]! (decide (i + 1 = l.length)) then false else true) else some (bif shapeB f l[i]! false then false else true)) = some (bif shapeB f l[i]! (top && decide (i + 1 = l.length)) then false else true) := by cases top <;> rfl
    rw [e1']
    have hS : shapeB f l[i]! (top && decide (i + 1 = l.length)) = true → m169 l[i]! = some (numB l[i]!) := fun h => m169_eq _ (shape_bounds h).1
    revert hS
    generalize shapeB f l[i]! (top && decide (i + 1 = l.length)) = S
    intro hS
    generalize l[i]!.fThen = A at k1 hin ⊢
    generalize l[i]!.fElse = B at k2 hin ⊢
    cases S with
    | false => simp
    | true =>
      rw [hS rfl]
      generalize numB l[i]! = N
      cases N with
      | false => simp
      | true =>
        generalize termC f.fVars false l[i]!.fTerm = T
        generalize stepC f false A = a at *
        generalize stepC f false B = b at *
        by_cases hT : T = 0
        · by_cases ha : a = 0
          · by_cases hb : b = 0
            · simp [hT, ha, hb]
            · simp [hT, ha, hb, k2]
          · simp [hT, ha, k1]
        · simp [hT]
theorem m113_eq (f : Flat) (hv : VarsOk f.fVars) : ∀ (n : Nat) (l : List GStep) (top : Bool), SizeOf.sizeOf l < n → nSs l ≤ 1000 → m113 n f l top = some (stepC f top l)
  | 0, _, _, h, _ => by omega
  | n + 1, l, top, h, h2 => s113_eq (m113 n) f hv l (by have := nSs_len l; omega) top (fun s hs => ⟨m113_eq f hv n _ _ (by have := sizeOf_then hs; omega) (by have := then_le hs; omega), m113_eq f hv n _ _ (by have := sizeOf_then hs; omega) (by have := then_le hs; omega)⟩)
theorem r113_eq (f : Flat) (hv : VarsOk f.fVars) (l : List GStep) (top : Bool) (h : nSs l ≤ 1000) : r113 f l top = some (stepC f top l) := lim_eq (SizeOf.sizeOf l + 1) fun n hn => m113_eq f hv n l top (by omega) h
/-! ### the reference -/
theorem num_ref {f : Flat} {s : GStep} {last : Bool} (h : shapeB f s last = true) (c : Int) (hc : c = if s.fDo = 2 then 67108864 else 10000) :
    ((bif decide (s.fCost < 0) then some true else bif decide (c < s.fCost) then some true else bif decide (s.fN < 0) then some true else bif decide (s.fDo = 4) then some (decide (4096 < s.fN)) else some false) : Option Bool) = some (!(decide (0 ≤ s.fCost ∧ s.fCost ≤ c) && (if s.fDo = 4 then decide (0 ≤ s.fN ∧ s.fN ≤ 4096) else true))) := by
  obtain ⟨b1, b2, b3, b4, b5⟩ := shape_bounds h
  have hd : ∀ (p : Prop) [Decidable p], (!decide p) = decide (¬ p) := fun p _ => by by_cases hp : p <;> simp [hp]
  by_cases h1 : s.fCost < 0
  · simp [h1, show ¬ 0 ≤ s.fCost by omega]
  by_cases h2 : c < s.fCost
  · simp [h1, h2, show ¬ s.fCost ≤ c by omega]
  by_cases h3 : s.fN < 0
  · have h4 : s.fDo = 4 := by
      by_cases h4 : s.fDo = 4
      · exact h4
      · have := b5 h4; omega
    simp [h1, h2, h3, h4, show ¬ 0 ≤ s.fN by omega]
  by_cases h4 : s.fDo = 4
  · simp [h1, h2, h3, h4, show 0 ≤ s.fCost by omega, show s.fCost ≤ c by omega, show 0 ≤ s.fN by omega]
    by_cases h5 : 4096 < s.fN
    · simp [h5]
    · simp [h5]; omega
  · simp [h1, h2, h3, h4, show 0 ≤ s.fCost by omega, show s.fCost ≤ c by omega]
theorem bnd_ref {f : Flat} {s : GStep} {last : Bool} (h : shapeB f s last = true) :
    ((bif decide (0 < (s.fBounds.length : Int)) then if (0 : Int) ≤ IntKind.i64.wrap ((s.fBounds.length : Int) - (1 : Int)) ∧ IntKind.i64.wrap ((s.fBounds.length : Int) - (1 : Int)) < (s.fBounds.length : Int) then some (decide (67108864 < s.fBounds[(IntKind.i64.wrap ((s.fBounds.length : Int) - 1)).toNat]!)) else none else some false) : Option Bool) = some (!(if s.fDo = 6 then decide (s.fBounds[s.fBounds.length - 1]! ≤ 67108864) else true)) := by
  obtain ⟨b1, b2, b3, b4, b5⟩ := shape_bounds h
  by_cases h6 : s.fDo = 6
  · obtain ⟨b1, b2⟩ := b1 h6
    have hw : IntKind.i64.wrap ((s.fBounds.length : Int) - 1) = (s.fBounds.length : Int) - 1 := wrap_id (by omega) (by omega)
    have hw2 : ((s.fBounds.length : Int) - 1).toNat = s.fBounds.length - 1 := by omega
    rw [hw, hw2, decide_eq_true (by omega), cond_true, if_pos ⟨by omega, by omega⟩, if_pos h6]
    generalize s.fBounds[s.fBounds.length - 1]! = B
    by_cases h : 67108864 < B
    · simp [h]
    · simp [h]; omega
  · rw [decide_eq_false (by have := b2 h6; omega), if_neg h6]
    rfl
end Go.Proofs.YtaonipoflmbhgaaGreat
end
section
set_option linter.unusedSectionVars false
set_option linter.unusedVariables false
set_option linter.unusedSimpArgs false
namespace Go.Proofs.YtaonipoflmbhgaaGreat
open Go Go.Iv

theorem round63 (M : Flat → List GStep → Bool → Option E63) (f : Flat) (hv : VarsOk f.fVars) (l : List GStep) (hl : l.length ≤ 1000000) (hB : ∀ s ∈ l, s.fBounds.length ≤ 1000000) (top : Bool) (hM : ∀ s ∈ l, M f s.fThen false = some (stepC f false s.fThen) ∧ M f s.fElse false = some (stepC f false s.fElse)) (i : Nat) (hi : i < l.length) :
    (stC f top l.length i l[i]! = 0 → n63_0 M ⟨l, top, (i : Int), f⟩ = some (some ⟨l, top, ((i + 1 : Nat) : Int), f⟩)) ∧ (stC f top l.length i l[i]! ≠ 0 → n63_0 M ⟨l, top, (i : Int), f⟩ = some none) := by
  have hw := w1L hi hl
  obtain ⟨k1, k2⟩ := hM _ (get_memL hi)
  have hb := hB _ (get_memL hi)
  have hi1 : (i : Int) < (l.length : Int) := by omega
  have hi0 : (0 : Int) ≤ (i : Int) := by omega
  unfold n63_0 stC ownC
  dsimp only
  simp only [Int.toNat_natCast, GTerm.eta, GStep.eta, m124_eq f l[i]! _ hb, lastB l.length i hl, m62_eq f.fVars hv, hw, hi1, hi0, decide_true, cond_true, and_self, if_true]
  have e1' : (bif top then some (bif shapeB f l[i]! (decide (i + 1 = l.length)) then false else true) else some (bif shapeB f l[i]! false then false else true)) = some (bif shapeB f l[i]! (top && decide (i + 1 = l.length)) then false else true) := by cases top <;> rfl
  rw [e1']
  cases hS : shapeB f l[i]! (top && decide (i + 1 = l.length)) with
  | false => simp
  | true =>
    have hn := num_ref hS
    rw [bnd_ref hS]
    unfold numB
    generalize (if l[i]!.fDo = 6 then decide (l[i]!.fBounds[l[i]!.fBounds.length - 1]! ≤ 67108864) else true) = B6
    by_cases h2 : l[i]!.fDo = 2
    · rw [if_pos h2] at hn ⊢
      rw [decide_eq_true h2, hn 67108864 rfl]
      generalize (decide (0 ≤ l[i]!.fCost ∧ l[i]!.fCost ≤ 67108864) && (if l[i]!.fDo = 4 then decide (0 ≤ l[i]!.fN ∧ l[i]!.fN ≤ 4096) else true)) = N
      generalize termC f.fVars false l[i]!.fTerm = T
      generalize l[i]!.fThen = A at k1 ⊢
      generalize l[i]!.fElse = B at k2 ⊢
      generalize stepC f false A = a at *
      generalize stepC f false B = b at *
      cases N with
      | false => simp
      | true =>
        cases B6 with
        | false => simp
        | true =>
          by_cases hT : T = 0
          · by_cases ha : a = 0
            · by_cases hb : b = 0
              · simp [hT, ha, hb, k1, k2]
              · simp [hT, ha, hb, k1, k2]
            · simp [hT, ha, k1]
          · simp [hT]
    · rw [if_neg h2] at hn ⊢
      rw [decide_eq_false h2, hn 10000 rfl]
      generalize (decide (0 ≤ l[i]!.fCost ∧ l[i]!.fCost ≤ 10000) && (if l[i]!.fDo = 4 then decide (0 ≤ l[i]!.fN ∧ l[i]!.fN ≤ 4096) else true)) = N
      generalize termC f.fVars false l[i]!.fTerm = T
      generalize l[i]!.fThen = A at k1 ⊢
      generalize l[i]!.fElse = B at k2 ⊢
      generalize stepC f false A = a at *
      generalize stepC f false B = b at *
      cases N with
      | false => simp
      | true =>
        cases B6 with
        | false => simp
        | true =>
          by_cases hT : T = 0
          · by_cases ha : a = 0
            · by_cases hb : b = 0
              · simp [hT, ha, hb, k1, k2]
              · simp [hT, ha, hb, k1, k2]
            · simp [hT, ha, k1]
          · simp [hT]
theorem s63_eq (M : Flat → List GStep → Bool → Option E63) (f : Flat) (hv : VarsOk f.fVars) (l : List GStep) (hl : l.length ≤ 1000000) (hB : ∀ s ∈ l, s.fBounds.length ≤ 1000000) (top : Bool) (hM : ∀ s ∈ l, M f s.fThen false = some (stepC f false s.fThen) ∧ M f s.fElse false = some (stepC f false s.fElse)) : s63 M f l top = some (stepC f top l) := by
  obtain ⟨i, e1, hc⟩ := loopC (rnd := n63_0 M) l (fun i => ⟨l, top, (i : Int), f⟩) (stC f top l.length) (fun i hi => round63 M f hv l hl hB top hM i hi) (by unfold n63_0; simp)
  have e1' : a63_0 M ⟨l, top, 0, f⟩ = some ⟨l, top, (i : Int), f⟩ := e1
  rw [stepC_first f top l.length l 0 (by omega)] at hc
  unfold s63
  rw [e1']
  dsimp only
  rcases hc with ⟨rfl, hc⟩ | ⟨hi, h0, hc⟩
  · rw [hc]
    simp
  · rw [hc]
    obtain ⟨k1, k2⟩ := hM _ (get_memL hi)
    have hb := hB _ (get_memL hi)
    have hi1 : (i : Int) < (l.length : Int) := by omega
    have hi0 : (0 : Int) ≤ (i : Int) := by omega
    revert h0
    unfold stC ownC
    simp only [Int.toNat_natCast, GTerm.eta, GStep.eta, m124_eq f l[i]! _ hb, lastB l.length i hl, m62_eq f.fVars hv, hi1, hi0, decide_true, cond_true, and_self, if_true]
    have e1' : (bif top then some (bif shapeB f l[i]! (decide (i + 1 = l.length)) then false else true) else some (bif shapeB f l[i]! false then false else true)) = some (bif shapeB f l[i]! (top && decide (i + 1 = l.length)) then false else true) := by cases top <;> rfl
    rw [e1']
    cases hS : shapeB f l[i]! (top && decide (i + 1 = l.length)) with
    | false => simp
    | true =>
      have hn := num_ref hS
      rw [bnd_ref hS]
      unfold numB
      generalize (if l[i]!.fDo = 6 then decide (l[i]!.fBounds[l[i]!.fBounds.length - 1]! ≤ 67108864) else true) = B6
      by_cases h2 : l[i]!.fDo = 2
      · rw [if_pos h2] at hn ⊢
        rw [decide_eq_true h2, hn 67108864 rfl]
        generalize (decide (0 ≤ l[i]!.fCost ∧ l[i]!.fCost ≤ 67108864) && (if l[i]!.fDo = 4 then decide (0 ≤ l[i]!.fN ∧ l[i]!.fN ≤ 4096) else true)) = N
        generalize termC f.fVars false l[i]!.fTerm = T
        generalize l[i]!.fThen = A at k1 ⊢
        generalize l[i]!.fElse = B at k2 ⊢
        generalize stepC f false A = a at *
        generalize stepC f false B = b at *
        cases N with
        | false => simp
        | true =>
          cases B6 with
          | false => simp
          | true =>
            by_cases hT : T = 0
            · by_cases ha : a = 0
              · by_cases hb : b = 0
                · simp [hT, ha, hb, k1, k2]
                · simp [hT, ha, hb, k1, k2]
              · simp [hT, ha, k1]
            · simp [hT]
      · rw [if_neg h2] at hn ⊢
        rw [decide_eq_false h2, hn 10000 rfl]
        generalize (decide (0 ≤ l[i]!.fCost ∧ l[i]!.fCost ≤ 10000) && (if l[i]!.fDo = 4 then decide (0 ≤ l[i]!.fN ∧ l[i]!.fN ≤ 4096) else true)) = N
        generalize termC f.fVars false l[i]!.fTerm = T
        generalize l[i]!.fThen = A at k1 ⊢
        generalize l[i]!.fElse = B at k2 ⊢
        generalize stepC f false A = a at *
        generalize stepC f false B = b at *
        cases N with
        | false => simp
        | true =>
          cases B6 with
          | false => simp
          | true =>
            by_cases hT : T = 0
            · by_cases ha : a = 0
              · by_cases hb : b = 0
                · simp [hT, ha, hb, k1, k2]
                · simp [hT, ha, hb, k1, k2]
              · simp [hT, ha, k1]
            · simp [hT]
theorem m63_eq (f : Flat) (hv : VarsOk f.fVars) : ∀ (n : Nat) (l : List GStep) (top : Bool), SizeOf.sizeOf l < n → nSs l ≤ 1000 → m63 n f l top = some (stepC f top l)
  | 0, _, _, h, _ => by omega
  | n + 1, l, top, h, h2 => s63_eq (m63 n) f hv l (by have := nSs_len l; omega) (fun s hs => by have := nSs_mem hs; have := nS_eq s; omega) top (fun s hs => ⟨m63_eq f hv n _ _ (by have := sizeOf_then hs; omega) (by have := then_le hs; omega), m63_eq f hv n _ _ (by have := sizeOf_then hs; omega) (by have := then_le hs; omega)⟩)
theorem r63_eq (f : Flat) (hv : VarsOk f.fVars) (l : List GStep) (top : Bool) (h : nSs l ≤ 1000) : r63 f l top = some (stepC f top l) := lim_eq (SizeOf.sizeOf l + 1) fun n hn => m63_eq f hv n l top (by omega) h
/-! ### hatches -/
theorem round112 (f : Flat) (hv : VarsOk f.fVars) (hl : f.fHatches.length ≤ 1000000) (i : Nat) (hi : i < f.fHatches.length) :
    (hatC f i f.fHatches[i]! = 0 → n112_0 ⟨f.fHatches, (f.fHatches.length : Int), (i : Int), f⟩ = some (some ⟨f.fHatches, (f.fHatches.length : Int), ((i + 1 : Nat) : Int), f⟩)) ∧ (hatC f i f.fHatches[i]! ≠ 0 → n112_0 ⟨f.fHatches, (f.fHatches.length : Int), (i : Int), f⟩ = some none) := by
  have hw := w1L hi hl
  have h2 := m166_eq (f.fHatches.take i) (by rw [List.length_take]; omega) f.fHatches[i]!
  unfold n112_0 hatC
  dsimp only
  simp only [Int.toNat_natCast, GTerm.eta, Hatch.eta, m163_eq, m161_eq, h2, m167_eq f.fVars hv, hw]
  generalize nameB f.fHatches[i]!.fName = B
  generalize ((f.fHatches.take i).any fun w => w.fName.toList == f.fHatches[i]!.fName.toList) = A
  generalize boundB f.fHatches[i]!.fLow f.fHatches[i]!.fHigh = C
  generalize termC f.fVars true f.fHatches[i]!.fTerm = T
  have hi1 : (i : Int) < (f.fHatches.length : Int) := by omega
  have hi0 : (0 : Int) ≤ (i : Int) := by omega
  have hi2 : (i : Int) ≤ (f.fHatches.length : Int) := by omega
  simp only [hi0, hi1, hi2, and_self, if_true, decide_true, cond_true]
  cases A <;> cases B <;> cases C <;> by_cases hT : T = 0 <;> simp [hT]
theorem m112_eq (f : Flat) (hv : VarsOk f.fVars) (hl : f.fHatches.length ≤ 1000000) : m112 f = some (firstC (hatC f) f.fHatches 0) := by
  obtain ⟨i, e1, hc⟩ := loopC (rnd := n112_0) f.fHatches (fun i => ⟨f.fHatches, (f.fHatches.length : Int), (i : Int), f⟩) (hatC f) (fun i hi => round112 f hv hl i hi) (by unfold n112_0; simp)
  have e1' : a112_0 ⟨f.fHatches, (f.fHatches.length : Int), 0, f⟩ = some ⟨f.fHatches, (f.fHatches.length : Int), (i : Int), f⟩ := e1
  unfold m112
  rw [e1']
  dsimp only
  rcases hc with ⟨rfl, hc⟩ | ⟨hi, h0, hc⟩
  · rw [hc]
    simp
  · rw [hc]
    have h2 := m166_eq (f.fHatches.take i) (by rw [List.length_take]; omega) f.fHatches[i]!
    revert h0
    unfold hatC
    simp only [Int.toNat_natCast, GTerm.eta, Hatch.eta, m163_eq, m161_eq, h2, m167_eq f.fVars hv]
    generalize nameB f.fHatches[i]!.fName = B
    generalize ((f.fHatches.take i).any fun w => w.fName.toList == f.fHatches[i]!.fName.toList) = A
    generalize boundB f.fHatches[i]!.fLow f.fHatches[i]!.fHigh = C
    generalize termC f.fVars true f.fHatches[i]!.fTerm = T
    have hi1 : (i : Int) < (f.fHatches.length : Int) := by omega
    have hi0 : (0 : Int) ≤ (i : Int) := by omega
    have hi2 : (i : Int) ≤ (f.fHatches.length : Int) := by omega
    simp only [hi0, hi1, hi2, and_self, if_true, decide_true, cond_true]
    cases A <;> cases B <;> cases C <;> by_cases hT : T = 0 <;> simp [hT]
theorem round18 (f : Flat) (hv : VarsOk f.fVars) (hl : f.fHatches.length ≤ 1000000) (i : Nat) (hi : i < f.fHatches.length) :
    (hatC f i f.fHatches[i]! = 0 → n18_0 ⟨(i : Int), f⟩ = some (some ⟨((i + 1 : Nat) : Int), f⟩)) ∧ (hatC f i f.fHatches[i]! ≠ 0 → n18_0 ⟨(i : Int), f⟩ = some none) := by
  have hw := w1L hi hl
  obtain ⟨j, h2, h3⟩ := a18_1_eq f hl i (by omega) f.fHatches[i]!
  unfold n18_0 hatC
  dsimp only
  simp only [Int.toNat_natCast, GTerm.eta, Hatch.eta, m61_eq, m60_eq, h2, m62_eq f.fVars hv, hw]
  generalize nameB f.fHatches[i]!.fName = B
  generalize ((f.fHatches.take i).any fun w => w.fName.toList == f.fHatches[i]!.fName.toList) = A at h3
  generalize boundB f.fHatches[i]!.fLow f.fHatches[i]!.fHigh = C
  generalize termC f.fVars true f.fHatches[i]!.fTerm = T
  have hi1 : (i : Int) < (f.fHatches.length : Int) := by omega
  have hi0 : (0 : Int) ≤ (i : Int) := by omega
  simp only [hi0, hi1, and_self, if_true, decide_true, cond_true]
  rcases h3 with ⟨rfl, rfl⟩ | ⟨hj, h4, rfl⟩
  · cases B <;> cases C <;> by_cases hT : T = 0 <;> simp [hT]
  · have hj1 : (j : Int) < (i : Int) := by omega
    have hj2 : (j : Int) < (f.fHatches.length : Int) := by omega
    have hj0 : (0 : Int) ≤ (j : Int) := by omega
    simp only [hj0, hj1, hj2, h4, and_self, if_true, decide_true, cond_true]
    cases B <;> simp
theorem a18_0_eq (f : Flat) (hv : VarsOk f.fVars) (hl : f.fHatches.length ≤ 1000000) : ∃ i : Nat, a18_0 ⟨0, f⟩ = some ⟨(i : Int), f⟩ ∧ ((i = f.fHatches.length ∧ firstC (hatC f) f.fHatches 0 = 0) ∨ (i < f.fHatches.length ∧ hatC f i f.fHatches[i]! ≠ 0 ∧ firstC (hatC f) f.fHatches 0 = hatC f i f.fHatches[i]!)) :=
  loopC (rnd := n18_0) f.fHatches (fun i => ⟨(i : Int), f⟩) (hatC f) (fun i hi => round18 f hv hl i hi) (by unfold n18_0; simp)
/-! ### sizes -/
theorem hat_nodes {f : Flat} {i : Nat} (hi : i < f.fHatches.length) : nTs ((f.fHatches.take i).map (·.fTerm)) + nT f.fHatches[i]!.fTerm ≤ nTs (f.fHatches.map (·.fTerm)) := by
  have h := nTs_take (f.fHatches.map (·.fTerm)) (i + 1)
  rw [← List.map_take, take_succL hi, List.map_append, nTs_app] at h
  simpa [nTs] using h
theorem m58_eq (f : Flat) (h : nSs f.fBody + nTs (f.fHatches.map (·.fTerm)) ≤ 900) (hl : f.fHatches.length ≤ 1000000) : m58 f = some (sizesB f) := by
  unfold m58 sizesB
  by_cases h1 : 64 < (f.fVars.length : Int)
  · simp [h1, show ¬ f.fVars.length ≤ 64 by omega]
  by_cases h2 : 8 < (f.fHatches.length : Int)
  · simp [h1, h2, show ¬ f.fHatches.length ≤ 8 by omega]
  rw [decide_eq_false h1, decide_eq_false h2, decide_eq_true (show f.fVars.length ≤ 64 by omega), decide_eq_true (show f.fHatches.length ≤ 8 by omega)]
  dsimp only [cond_false, cond_true]
  have hb := nodS_le f.fBody
  rw [r116_eq f.fBody (by omega)]
  obtain ⟨i, b, e1, hI, hc⟩ := loopJ (rnd := n58_0) f.fHatches.length (fun i (b : Int) => ⟨b, (i : Int), f⟩) (fun i b => (0 ≤ b ∧ b ≤ nSs f.fBody + nTs ((f.fHatches.take i).map (·.fTerm))) ∧ ∀ j, j < i → dT f.fHatches[j]!.fTerm ≤ 12) (fun i _ => 12 < dT f.fHatches[i]!.fTerm) (fun i b hi hI => by
    have hn := hat_nodes hi
    have hw := w1L hi hl
    have k1 := r117_eq f.fHatches[i]!.fTerm (by omega)
    have k2 := r118_eq f.fHatches[i]!.fTerm (by omega)
    have hi1 : (i : Int) < (f.fHatches.length : Int) := by omega
    have hi0 : (0 : Int) ≤ (i : Int) := by omega
    by_cases hd : 12 < dT f.fHatches[i]!.fTerm
    · refine .inr ⟨?_, hd⟩
      unfold n58_0
      dsimp only
      simp only [Int.toNat_natCast, GTerm.eta, k1, k2, hi1, hi0, decide_true, cond_true, and_self, if_true, hd]
    · refine .inl ⟨b + nT f.fHatches[i]!.fTerm, ?_, ⟨by omega, ?_⟩, fun j hj => ?_⟩
      · have hw2 : IntKind.i64.wrap (b + (nT f.fHatches[i]!.fTerm : Int)) = b + nT f.fHatches[i]!.fTerm := wrap_id (by omega) (by omega)
        unfold n58_0
        dsimp only
        simp only [Int.toNat_natCast, GTerm.eta, k1, k2, hi1, hi0, decide_true, cond_true, and_self, if_true, hd, decide_false, cond_false, hw, hw2]
      · rw [take_succL hi, List.map_append, nTs_app]
        simp only [List.map_cons, List.map_nil, nTs_cons, show nTs [] = 0 from rfl]
        omega
      · rcases Nat.lt_succ_iff_lt_or_eq.1 hj with h | h
        · exact hI.2 j h
        · subst h; omega) (fun b _ => by unfold n58_0; simp) (b := nodS f.fBody) ⟨⟨by omega, by simp only [List.take_zero, List.map_nil, show nTs [] = 0 from rfl]; omega⟩, fun j hj => absurd hj (by omega)⟩
  have e1' : a58_0 ⟨nodS f.fBody, 0, f⟩ = some ⟨b, (i : Int), f⟩ := e1
  dsimp only
  rw [e1']
  dsimp only
  rcases hc with rfl | ⟨hi, hd⟩
  · rw [decide_eq_false (show ¬ ((f.fHatches.length : Int) < (f.fHatches.length : Int)) by omega), cond_false]
    have ha : f.fHatches.all (fun h => decide (dT h.fTerm ≤ 12)) = true := all_of fun j hj => by simpa using hI.2 j hj
    have hn := hI.1.2
    rw [List.take_length] at hn
    rw [ha, decide_eq_true (show b ≤ 1024 by omega), cond_true, r119_eq f.fBody (by omega), r120_eq f.fBody (by omega)]
    by_cases h5 : dSs f.fBody ≤ 12
    · cases tDeep f.fBody <;> simp [h5]
    · simp [h5]
  · have hn := hat_nodes hi
    have k1 := r117_eq f.fHatches[i]!.fTerm (by omega)
    have k2 := r118_eq f.fHatches[i]!.fTerm (by omega)
    have hi1 : (i : Int) < (f.fHatches.length : Int) := by omega
    have hi0 : (0 : Int) ≤ (i : Int) := by omega
    have ha : f.fHatches.all (fun h => decide (dT h.fTerm ≤ 12)) = false := not_all hi (by simpa using hd)
    simp only [Int.toNat_natCast, GTerm.eta, k1, k2, hi1, hi0, decide_true, cond_true, and_self, if_true, hd, ha, Bool.and_false, Bool.false_and]
theorem s108_eq (M : List GStep → Int → Measure → Option E108) (l : List GStep) (hM : ∀ s ∈ l, ∀ (d : Int) (b : Measure), 0 ≤ d → d ≤ 13 → 0 ≤ b.fNodes → (b.fNodes + nSs s.fThen ≤ 1000 → M s.fThen d b = some (msS d s.fThen b)) ∧ (b.fNodes + nSs s.fElse ≤ 1000 → M s.fElse d b = some (msS d s.fElse b))) (d : Int) (b : Measure) (h0 : 0 ≤ d) (hd : d ≤ 13) (h1 : 0 ≤ b.fNodes) (h2 : b.fNodes + nSs l ≤ 1000) : s108 M l d b = some (msS d l b) := by
  have hL := nSs_len l
  have hw1 : IntKind.i64.wrap (d + 1) = d + 1 := wrap_id (by omega) (by omega)
  have hgo : ∀ (l : List GStep) (i : Nat) (b : Measure), goE (fun _ (b : Measure) (s : GStep) => if overM (incM d b) = true then (.inr (incM d b) : Measure ⊕ Measure) else .inl (msS (d + 1) s.fElse (msS (d + 1) s.fThen (msT s.fTerm 1 (incM d b))))) id id l i b = msS d l b := by
    intro l
    induction l with
    | nil => intro i b; rw [msS]; rfl
    | cons s l ih =>
      intro i b
      rw [msS]
      by_cases ho : overM (incM d b) = true
      · rw [if_pos ho, goE_inr (r := incM d b) (by rw [if_pos ho])]; rfl
      · rw [if_neg ho, goE_inl (b' := msS (d + 1) s.fElse (msS (d + 1) s.fThen (msT s.fTerm 1 (incM d b)))) (by rw [if_neg ho])]
        exact ih (i + 1) _
  have hm : ∀ (b : Measure) (x : Bool), -1000000 ≤ b.fNodes → b.fNodes ≤ 1000000 → x = (b.fDeep || decide (12 < d)) → m109 ⟨IntKind.i64.wrap (b.fNodes + 1), x⟩ = (overM (incM d b), incM d b) := fun b x b1 b2 hx => by
    rw [m109_eq, wrap_id (by omega) (by omega), hx]
    rfl
  -- one step, not over
  have hs : ∀ (i : Nat) (b : Measure), i < l.length → 0 ≤ b.fNodes → b.fNodes + nS l[i]! ≤ 1000 → overM (incM d b) = false → d ≤ 12 ∧ r110 l[i]!.fTerm 1 (incM d b) = some (msT l[i]!.fTerm 1 (incM d b)) ∧ M l[i]!.fThen (d + 1) (msT l[i]!.fTerm 1 (incM d b)) = some (msS (d + 1) l[i]!.fThen (msT l[i]!.fTerm 1 (incM d b))) ∧ M l[i]!.fElse (d + 1) (msS (d + 1) l[i]!.fThen (msT l[i]!.fTerm 1 (incM d b))) = some (msS (d + 1) l[i]!.fElse (msS (d + 1) l[i]!.fThen (msT l[i]!.fTerm 1 (incM d b)))) ∧ 0 ≤ (msS (d + 1) l[i]!.fElse (msS (d + 1) l[i]!.fThen (msT l[i]!.fTerm 1 (incM d b)))).fNodes ∧ (msS (d + 1) l[i]!.fElse (msS (d + 1) l[i]!.fThen (msT l[i]!.fTerm 1 (incM d b)))).fNodes ≤ b.fNodes + nS l[i]! := fun i b hi b1 b2 ho => by
    have hd2 : d ≤ 12 := by unfold overM incM at ho; grind
    have hN := nS_eq l[i]!
    have hp : (incM d b).fNodes = b.fNodes + 1 := rfl
    obtain ⟨a1, a2, a3⟩ := msT_ok l[i]!.fTerm 1 (incM d b) (by omega) (by omega) (by omega)
    obtain ⟨c1, c2, c3⟩ := msS_ok (d + 1) l[i]!.fThen (msT l[i]!.fTerm 1 (incM d b)) (by omega) (by omega) (by omega) (by omega)
    obtain ⟨g1, g2, g3⟩ := msS_ok (d + 1) l[i]!.fElse (msS (d + 1) l[i]!.fThen (msT l[i]!.fTerm 1 (incM d b))) (by omega) (by omega) (by omega) (by omega)
    exact ⟨hd2, r110_eq _ 1 _ (by omega) (by omega) (by omega) (by omega), (hM _ (get_memL hi) (d + 1) _ (by omega) (by omega) (by omega)).1 (by omega), (hM _ (get_memL hi) (d + 1) _ (by omega) (by omega) (by omega)).2 (by omega), by omega, by omega⟩
  obtain ⟨i, v, e1, hI, hc⟩ := loopV (rnd := n108_0 M) l (fun i (b : Measure) => ⟨d, l, (l.length : Int), (i : Int), b⟩) (fun _ (b : Measure) (s : GStep) => if overM (incM d b) = true then (.inr (incM d b) : Measure ⊕ Measure) else .inl (msS (d + 1) s.fElse (msS (d + 1) s.fThen (msT s.fTerm 1 (incM d b))))) id id (fun i x => 0 ≤ x.fNodes ∧ x.fNodes ≤ b.fNodes + nSs (l.take i)) (fun i x hi hx => by
      have hn := nSs_step hi
      have hw := w1L hi (by omega)
      have hi1 : (i : Int) < (l.length : Int) := by omega
      have hi0 : (0 : Int) ≤ (i : Int) := by omega
      have hmx := hm x
      cases ho : overM (incM d x) with
      | true =>
        refine ⟨fun b' hb' => by simp at hb', fun r hr => ?_⟩
        unfold n108_0
        dsimp only
        simp only [Int.toNat_natCast, hi1, hi0, decide_true, cond_true, and_self, if_true]
        cases hb : x.fDeep with
        | true => rw [hmx true (by omega) (by omega) (by rw [hb]; rfl), ho]; rfl
        | false => rw [hmx (decide (12 < d)) (by omega) (by omega) (by rw [hb]; rfl), ho]; rfl
      | false =>
        obtain ⟨q0, q1, q2, q3, q4, q5⟩ := hs i x hi hx.1 (by omega) ho
        refine ⟨fun b' hb' => ?_, fun r hr => by simp at hr⟩
        have hb' : msS (d + 1) l[i]!.fElse (msS (d + 1) l[i]!.fThen (msT l[i]!.fTerm 1 (incM d x))) = b' := by simpa using hb'
        subst hb'
        refine ⟨?_, ⟨q4, by rw [take_succL hi, nSs_snoc]; omega⟩⟩
        unfold n108_0
        dsimp only
        simp only [Int.toNat_natCast, hi1, hi0, decide_true, cond_true, and_self, if_true]
        cases hb : x.fDeep with
        | true => rw [hmx true (by omega) (by omega) (by rw [hb]; rfl), ho]; simp only [GTerm.eta, q1, q2, q3, hw1, hw, cond_true, cond_false]
        | false => rw [hmx (decide (12 < d)) (by omega) (by omega) (by rw [hb]; rfl), ho]; simp only [GTerm.eta, q1, q2, q3, hw1, hw, cond_true, cond_false]) (fun x _ => by unfold n108_0; simp) (b := b) ⟨h1, by simp [nSs]⟩
  have e1' : a108_0 M ⟨d, l, (l.length : Int), 0, b⟩ = some ⟨d, l, (l.length : Int), (i : Int), v⟩ := e1
  rw [hgo] at hc
  unfold s108
  rw [e1']
  dsimp only
  rcases hc with ⟨rfl, hc⟩ | ⟨hi, r, hr, hc⟩
  · rw [hc, decide_eq_false (by omega)]
    rfl
  · have hn := nSs_step hi
    have hi1 : (i : Int) < (l.length : Int) := by omega
    have hi0 : (0 : Int) ≤ (i : Int) := by omega
    have ho : overM (incM d v) = true := by
      by_cases ho : overM (incM d v) = true
      · exact ho
      · rw [if_neg ho] at hr; cases hr
    rw [if_pos ho] at hr
    cases hr
    rw [hc]
    have hmx := hm v
    simp only [Int.toNat_natCast, hi1, hi0, decide_true, cond_true, and_self, if_true]
    cases hb : v.fDeep with
    | true => rw [hmx true (by omega) (by omega) (by rw [hb]; rfl), ho]; rfl
    | false => rw [hmx (decide (12 < d)) (by omega) (by omega) (by rw [hb]; rfl), ho]; rfl
theorem m108_eq : ∀ (n : Nat) (l : List GStep) (d : Int) (b : Measure), SizeOf.sizeOf l < n → 0 ≤ d → d ≤ 13 → 0 ≤ b.fNodes → b.fNodes + nSs l ≤ 1000 → m108 n l d b = some (msS d l b)
  | 0, _, _, _, h, _, _, _, _ => by omega
  | n + 1, l, d, b, h, h0, hd, h1, h2 => s108_eq (m108 n) l (fun s hs d b a1 a2 a3 => ⟨fun a4 => m108_eq n _ d b (by have := sizeOf_then hs; omega) a1 a2 a3 a4, fun a4 => m108_eq n _ d b (by have := sizeOf_then hs; omega) a1 a2 a3 a4⟩) d b h0 hd h1 h2
theorem r108_eq (l : List GStep) (d : Int) (b : Measure) (h0 : 0 ≤ d) (hd : d ≤ 13) (h1 : 0 ≤ b.fNodes) (h2 : b.fNodes + nSs l ≤ 1000) : r108 l d b = some (msS d l b) := lim_eq (SizeOf.sizeOf l + 1) fun n hn => m108_eq n l d b (by omega) h0 hd h1 h2
theorem sizes56 (f : Flat) (h : nSs f.fBody + nTs (f.fHatches.map (·.fTerm)) ≤ 900) (hl : f.fHatches.length ≤ 1000000) : ∃ r q, r108 f.fBody 1 ⟨0, false⟩ = some r ∧ a56_0 ⟨f.fHatches, (f.fHatches.length : Int), 0, f, r⟩ = some ⟨f.fHatches, (f.fHatches.length : Int), (f.fHatches.length : Int), f, q⟩ ∧ overM q = !(f.fHatches.all (fun h => decide (dT h.fTerm ≤ 12)) && decide (dSs f.fBody ≤ 12) && !tDeep f.fBody) := by
  obtain ⟨p1, p2, p3⟩ := msS_ok 1 f.fBody ⟨0, false⟩ (by omega) (by omega) (Int.le_refl 0) (by show (0 : Int) + _ ≤ _; omega)
  have p2 : 0 ≤ (msS 1 f.fBody ⟨0, false⟩).fNodes := p2
  have p3 : (msS 1 f.fBody ⟨0, false⟩).fNodes ≤ 0 + nSs f.fBody := p3
  refine ⟨msS 1 f.fBody ⟨0, false⟩, ?_⟩
  have p4 := r108_eq f.fBody 1 ⟨0, false⟩ (by omega) (by omega) (Int.le_refl 0) (by show (0 : Int) + _ ≤ _; omega)
  generalize msS 1 f.fBody ⟨0, false⟩ = r at *
  obtain ⟨q, e1, hI⟩ := loopI (rnd := n56_0) f.fHatches.length (fun i (q : Measure) => ⟨f.fHatches, (f.fHatches.length : Int), (i : Int), f, q⟩) (fun i q => q.fDeep = (r.fDeep || (f.fHatches.take i).any fun h => decide (12 < dT h.fTerm)) ∧ 0 ≤ q.fNodes ∧ q.fNodes ≤ r.fNodes + nTs ((f.fHatches.take i).map (·.fTerm))) (fun i q hi hI => by
    have hn := hat_nodes hi
    have hw := w1L hi hl
    have hi1 : (i : Int) < (f.fHatches.length : Int) := by omega
    have hi0 : (0 : Int) ≤ (i : Int) := by omega
    have hn2 : nTs ((f.fHatches.take (i + 1)).map (·.fTerm)) = nTs ((f.fHatches.take i).map (·.fTerm)) + nT f.fHatches[i]!.fTerm := by
      rw [take_succL hi, List.map_append, nTs_app]
      simp [nTs]
    have ha : ((f.fHatches.take (i + 1)).any fun h => decide (12 < dT h.fTerm)) = (((f.fHatches.take i).any fun h => decide (12 < dT h.fTerm)) || decide (12 < dT f.fHatches[i]!.fTerm)) := by
      rw [take_succL hi, List.any_append, List.any_cons, List.any_nil, Bool.or_false]
    rw [ha, hn2]
    obtain ⟨q1, q2, q3⟩ := hI
    cases ho : overM q with
    | true =>
      refine ⟨q, ?_, ?_, q2, by omega⟩
      · unfold n56_0
        dsimp only
        simp only [Int.toNat_natCast, hi1, hi0, decide_true, cond_true, cond_false, and_self, if_true, m109_eq, ho, hw]
      · unfold overM at ho
        rw [decide_eq_false (show ¬ 1024 < q.fNodes by omega), Bool.or_false] at ho
        rw [← Bool.or_assoc, ← q1, ho]
        rfl
    | false =>
      obtain ⟨c1, c2, c3⟩ := msT_ok f.fHatches[i]!.fTerm 1 q (by omega) q2 (by omega)
      have k := r110_eq f.fHatches[i]!.fTerm 1 q (by omega) (by omega) q2 (by omega)
      refine ⟨msT f.fHatches[i]!.fTerm 1 q, ?_, ?_, by omega, by omega⟩
      · unfold n56_0
        dsimp only
        simp only [Int.toNat_natCast, GTerm.eta, hi1, hi0, decide_true, cond_true, cond_false, and_self, if_true, m109_eq, ho, hw, k]
      · rw [c1, q1, Bool.or_assoc]
        rw [show decide (12 < 1 - 1 + dT f.fHatches[i]!.fTerm) = decide (12 < dT f.fHatches[i]!.fTerm) from decide_eq_decide.2 (by omega)]) (fun q _ => by unfold n56_0; simp) (b := r) ⟨by simp, p2, by simp [nTs]⟩
  have e1' : a56_0 ⟨f.fHatches, (f.fHatches.length : Int), 0, f, r⟩ = some ⟨f.fHatches, (f.fHatches.length : Int), (f.fHatches.length : Int), f, q⟩ := e1
  refine ⟨q, p4, e1', ?_⟩
  rw [List.take_length] at hI
  obtain ⟨q1, q2, q3⟩ := hI
  unfold overM
  rw [decide_eq_false (show ¬ 1024 < q.fNodes by omega), Bool.or_false, q1, p1]
  have e2 : (f.fHatches.any fun h => decide (12 < dT h.fTerm)) = !(f.fHatches.all fun h => decide (dT h.fTerm ≤ 12)) := by
    rw [List.not_all_eq_any_not]
    congr 1
    funext h
    by_cases hd : dT h.fTerm ≤ 12
    · simp [hd]
    · simp [hd]; omega
  have e3 : decide (12 < 1 - 1 + dSs f.fBody) = !decide (dSs f.fBody ≤ 12) := by
    by_cases hd : dSs f.fBody ≤ 12
    · simp [hd]
    · simp [hd]; omega
  rw [e2, e3]
  generalize (f.fHatches.all fun h => decide (dT h.fTerm ≤ 12)) = x
  generalize decide (dSs f.fBody ≤ 12) = y
  generalize tDeep f.fBody = z
  cases x <;> cases y <;> cases z <;> rfl
/-! ### bounds on what steps do -/
/-- steps whose numbers are in their ranges -/
def SOk : List GStep → Prop
  | [] => True
  | s :: l => (0 ≤ s.fCost ∧ s.fCost ≤ 67108864) ∧ (s.fDo = 4 → 0 ≤ s.fN ∧ s.fN ≤ 4096) ∧ (s.fDo ≠ 3 → s.fDo ≠ 4 → s.fThen = []) ∧ (s.fDo ≠ 3 → s.fElse = []) ∧ SOk s.fThen ∧ SOk s.fElse ∧ SOk l
termination_by l => SizeOf.sizeOf l
decreasing_by
  · exact (sizeOf_then (List.mem_cons_self ..)).1
  · exact (sizeOf_then (List.mem_cons_self ..)).2
  · exact size_tail _ _
theorem num_bd {s : GStep} (h : numB s = true) : (0 ≤ s.fCost ∧ s.fCost ≤ 67108864) ∧ (s.fDo = 4 → 0 ≤ s.fN ∧ s.fN ≤ 4096) := by
  unfold numB at h
  simp only [Bool.and_eq_true, decide_eq_true_eq] at h
  grind
theorem SOk_of (f : Flat) : ∀ (n : Nat) (l : List GStep) (top : Bool), SizeOf.sizeOf l < n → stepC f top l = 0 → SOk l
  | 0, _, _, h, _ => by omega
  | n + 1, [], top, h, hc => by rw [SOk]; trivial
  | n + 1, s :: l, top, h, hc => by
    rw [stepC] at hc
    have hz := sizeOf_then (l := s :: l) (List.mem_cons_self ..)
    have hz2 := size_tail s l
    by_cases h1 : ownC f (top && l.isEmpty) s ≠ 0
    · rw [if_pos h1] at hc; exact absurd hc h1
    rw [if_neg h1] at hc
    by_cases h2 : stepC f false s.fThen ≠ 0
    · rw [if_pos h2] at hc; exact absurd hc h2
    rw [if_neg h2] at hc
    by_cases h3 : stepC f false s.fElse ≠ 0
    · rw [if_pos h3] at hc; exact absurd hc h3
    rw [if_neg h3] at hc
    have q1 := SOk_of f n s.fThen false (by omega) (by omega)
    have q2 := SOk_of f n s.fElse false (by omega) (by omega)
    have q3 := SOk_of f n l top (by omega) hc
    have h1 : ownC f (top && l.isEmpty) s = 0 := by omega
    unfold ownC at h1
    cases hS : shapeB f s (top && l.isEmpty) with
    | false => rw [hS] at h1; simp at h1
    | true =>
      rw [hS] at h1
      cases hN : numB s with
      | false => rw [hN] at h1; simp at h1
      | true =>
        obtain ⟨n1, n2⟩ := num_bd hN
        obtain ⟨b1, b2, b3, b4, b5⟩ := shape_bounds hS
        rw [SOk]
        exact ⟨n1, n2, b3, b4, q1, q2, q3⟩
/-- what one step adds -/
def uS1 (s : GStep) (a b : Int × Int × Int) : Int × Int × Int :=
  if s.fDo = 1 then (1, 1, s.fCost)
  else if s.fDo = 3 then (1 + max a.1 b.1, max a.2.1 b.2.1, s.fCost + max a.2.2 b.2.2)
  else if s.fDo = 4 then (1 + s.fN * (1 + a.1), s.fN * a.2.1, s.fN * (s.fCost + a.2.2))
  else (1, 0, s.fCost)
def add3 (a b : Int × Int × Int) : Int × Int × Int := (a.1 + b.1, a.2.1 + b.2.1, a.2.2 + b.2.2)
theorem uSs_cons (s : GStep) (l : List GStep) : uSs (s :: l) = add3 (uS1 s (uSs s.fThen) (uSs s.fElse)) (uSs l) := by
  rw [uSs]
  unfold uS1 add3
  dsimp only
  split
  · rfl
  · split
    · rfl
    · split
      · rfl
      · simp
theorem uSs_snoc (l : List GStep) (s : GStep) : uSs (l ++ [s]) = add3 (uSs l) (uS1 s (uSs s.fThen) (uSs s.fElse)) := by
  have h0 : uSs [] = (0, 0, 0) := by rw [uSs]
  induction l with
  | nil => rw [List.nil_append, uSs_cons, h0]; unfold add3; simp
  | cons a l ih =>
    rw [List.cons_append, uSs_cons, uSs_cons, ih]
    unfold add3
    simp only [Int.add_assoc]
/-- the same, cut at limits -/
def cut3 (c : Int × Int × Int) (a : Int × Int × Int) : Int × Int × Int := (min a.1 c.1, min a.2.1 c.2.1, min a.2.2 c.2.2)
theorem min_mul {n x c k : Int} (hn : 0 ≤ n) (hk : 0 ≤ k) (hx : 0 ≤ x) (hc : 0 ≤ c) : min (n * (k + min x c)) c = min (n * (k + x)) c := by
  by_cases h : x ≤ c
  · rw [Int.min_eq_left h]
  · rw [Int.min_eq_right (show c ≤ x by omega)]
    by_cases h0 : n = 0
    · subst h0; simp
    · have e1 : 1 * (k + c) ≤ n * (k + c) := Int.mul_le_mul_of_nonneg_right (by omega) (by omega)
      have e2 : 1 * (k + x) ≤ n * (k + x) := Int.mul_le_mul_of_nonneg_right (by omega) (by omega)
      rw [Int.min_eq_right (by omega), Int.min_eq_right (by omega)]
theorem min_add {a b c : Int} (ha : 0 ≤ a) (hb : 0 ≤ b) (hc : 0 ≤ c) : min (min a c + b) c = min (a + b) c := by omega
theorem min_add2 {a b b' c : Int} (ha : 0 ≤ a) (hb : 0 ≤ b) (hb' : 0 ≤ b') (h : min b c = min b' c) (hc : 0 ≤ c) : min (a + b) c = min (a + b') c := by omega
end Go.Proofs.YtaonipoflmbhgaaGreat
end
section
set_option linter.unusedSectionVars false
set_option linter.unusedVariables false
set_option linter.unusedSimpArgs false
namespace Go.Proofs.YtaonipoflmbhgaaGreat
open Go Go.Iv

theorem SOk_mem : ∀ {l : List GStep}, SOk l → ∀ s ∈ l, (0 ≤ s.fCost ∧ s.fCost ≤ 67108864) ∧ (s.fDo = 4 → 0 ≤ s.fN ∧ s.fN ≤ 4096) ∧ (s.fDo ≠ 3 → s.fDo ≠ 4 → s.fThen = []) ∧ (s.fDo ≠ 3 → s.fElse = []) ∧ SOk s.fThen ∧ SOk s.fElse
  | [], _, s, hs => by cases hs
  | a :: l, h, s, hs => by
    rw [SOk] at h
    rcases List.mem_cons.1 hs with rfl | hs
    · exact ⟨h.1, h.2.1, h.2.2.1, h.2.2.2.1, h.2.2.2.2.1, h.2.2.2.2.2.1⟩
    · exact SOk_mem h.2.2.2.2.2.2 s hs
def nn3 (a : Int × Int × Int) : Prop := 0 ≤ a.1 ∧ 0 ≤ a.2.1 ∧ 0 ≤ a.2.2
theorem uS1_nn {s : GStep} {a b : Int × Int × Int} (hc : 0 ≤ s.fCost) (hN : s.fDo = 4 → 0 ≤ s.fN) (ha : nn3 a) (hb : nn3 b) : nn3 (uS1 s a b) := by
  unfold nn3 at *
  unfold uS1
  split
  · exact ⟨Int.le_of_lt (by decide : (0 : Int) < 1), Int.le_of_lt (by decide : (0 : Int) < 1), hc⟩
  · split
    · dsimp only; omega
    · split
      · rename_i h4
        have := hN h4
        have e1 : 0 ≤ s.fN * (1 + a.1) := Int.mul_nonneg this (by omega)
        have e2 : 0 ≤ s.fN * a.2.1 := Int.mul_nonneg this (by omega)
        have e3 : 0 ≤ s.fN * (s.fCost + a.2.2) := Int.mul_nonneg this (by omega)
        dsimp only; omega
      · exact ⟨Int.le_of_lt (by decide : (0 : Int) < 1), Int.le_refl (0 : Int), hc⟩
theorem uSs_nn : ∀ (n : Nat) (l : List GStep), SizeOf.sizeOf l < n → SOk l → nn3 (uSs l)
  | 0, _, h, _ => by omega
  | n + 1, [], h, _ => by rw [show uSs [] = (0, 0, 0) by rw [uSs]]; exact ⟨by decide, by decide, by decide⟩
  | n + 1, s :: l, h, ho => by
    have hz := sizeOf_then (l := s :: l) (List.mem_cons_self ..)
    have hz2 := size_tail s l
    rw [SOk] at ho
    have q1 := uSs_nn n s.fThen (by omega) ho.2.2.2.2.1
    have q2 := uSs_nn n s.fElse (by omega) ho.2.2.2.2.2.1
    have q3 := uSs_nn n l (by omega) ho.2.2.2.2.2.2
    have q4 := uS1_nn ho.1.1 (fun h => (ho.2.1 h).1) q1 q2
    rw [uSs_cons]
    unfold nn3 add3 at *
    dsimp only
    omega
theorem uSs_nn' {l : List GStep} (h : SOk l) : nn3 (uSs l) := uSs_nn _ l (Nat.lt_succ_self _) h
theorem SOk_take : ∀ {l : List GStep} (i : Nat), SOk l → SOk (l.take i)
  | [], i, h => by rw [List.take_nil]; exact h
  | s :: l, 0, h => by rw [List.take_zero, SOk]; trivial
  | s :: l, i + 1, h => by
    rw [SOk] at h
    rw [List.take_succ_cons, SOk]
    exact ⟨h.1, h.2.1, h.2.2.1, h.2.2.2.1, h.2.2.2.2.1, h.2.2.2.2.2.1, SOk_take i h.2.2.2.2.2.2⟩
def M3 (a : Int × Int × Int) : Most := ⟨a.1, a.2.1, a.2.2⟩
def big3 : Int × Int × Int := (1099511627776, 1099511627776, 1099511627776)
def lim3 : Int × Int × Int := (4097, 9, 67108865)
theorem mul_bd2 {n x : Int} (h1 : 0 ≤ n) (h2 : n ≤ 4096) (h3 : 0 ≤ x) (h4 : x ≤ 1200000000000) : 0 ≤ n * x ∧ n * x ≤ 4915200000000000 := by
  have e1 : n * x ≤ 4096 * x := Int.mul_le_mul_of_nonneg_right h2 h3
  have e2 : 0 ≤ n * x := Int.mul_nonneg h1 h3
  omega
theorem ifmin1 (w c : Int) : (if c < w then c else w) = min w c := by omega
theorem ifmin2 (w c : Int) : (if w < c then w else c) = min w c := by omega
theorem maxcut (a b c : Int) : (if min a c < min b c then min b c else min a c) = min (max a b) c := by omega
theorem maxcut2 (a b c : Int) : (if min b c < min a c then min a c else min b c) = min (max a b) c := by omega
section
variable {C x y m k n a : Int} (h0 : 0 ≤ C) (h1 : C ≤ 1099511627776) (hx : 0 ≤ x)
include h0 h1 hx
theorem cutA (hy : 0 ≤ y) (hy2 : y ≤ 67108864) : min (IntKind.i64.wrap (min x C + y)) C = min (x + y) C := by
  rw [wrap_id (by omega) (by omega)]
  omega
theorem cutB (hm : 0 ≤ m) (hk : 0 ≤ k) (hk2 : k ≤ 67108864) : min (IntKind.i64.wrap (min x C + IntKind.i64.wrap (k + min m C))) C = min (x + (k + m)) C := by
  have : IntKind.i64.wrap (k + min m C) = k + min m C := wrap_id (by omega) (by omega)
  rw [this, wrap_id (by omega) (by omega)]
  omega
theorem cutB0 (hm : 0 ≤ m) : min (IntKind.i64.wrap (min x C + min m C)) C = min (x + m) C := by
  rw [wrap_id (by omega) (by omega)]
  omega
theorem cutY {z : Int} (hz : 0 ≤ z) (hy : 0 ≤ y) (hy2 : y ≤ 4915200000000001) (h : min y C = min z C) : min (IntKind.i64.wrap (min x C + y)) C = min (x + z) C := by
  rw [wrap_id (by omega) (by omega)]
  omega
omit hx in
theorem cutNk (hn : 0 ≤ n) (hn2 : n ≤ 4096) (ha : 0 ≤ a) (hk : 0 ≤ k) (hk2 : k ≤ 67108864) : IntKind.i64.wrap (n * IntKind.i64.wrap (k + min a C)) = n * (k + min a C) ∧ 0 ≤ n * (k + min a C) ∧ n * (k + min a C) ≤ 4915200000000000 ∧ 0 ≤ n * (k + a) ∧ min (n * (k + min a C)) C = min (n * (k + a)) C := by
  have e1 : IntKind.i64.wrap (k + min a C) = k + min a C := wrap_id (by omega) (by omega)
  have e2 := mul_bd2 (x := k + min a C) hn hn2 (by omega) (by omega)
  rw [e1]
  exact ⟨wrap_id (by omega) (by omega), e2.1, e2.2, Int.mul_nonneg hn (by omega), min_mul hn hk ha h0⟩
theorem cutN (hn : 0 ≤ n) (hn2 : n ≤ 4096) (ha : 0 ≤ a) (hk : 0 ≤ k) (hk2 : k ≤ 67108864) : min (IntKind.i64.wrap (min x C + IntKind.i64.wrap (n * IntKind.i64.wrap (k + min a C)))) C = min (x + n * (k + a)) C := by
  obtain ⟨q1, q2, q3, q4, q5⟩ := cutNk h0 h1 hn hn2 ha hk hk2
  rw [q1]
  exact cutY h0 h1 hx q4 q2 (by omega) q5
theorem cutN1 (hn : 0 ≤ n) (hn2 : n ≤ 4096) (ha : 0 ≤ a) : min (IntKind.i64.wrap (min x C + IntKind.i64.wrap (1 + IntKind.i64.wrap (n * IntKind.i64.wrap (1 + min a C))))) C = min (x + (1 + n * (1 + a))) C := by
  obtain ⟨q1, q2, q3, q4, q5⟩ := cutNk (k := 1) h0 h1 hn hn2 ha (by omega) (by omega)
  rw [q1]
  generalize n * (1 + min a C) = y at *
  generalize n * (1 + a) = z at *
  rw [show IntKind.i64.wrap (1 + y) = 1 + y from wrap_id (by omega) (by omega)]
  exact cutY h0 h1 hx (by omega) (by omega) (by omega) (by omega)
theorem cutN0 (hn : 0 ≤ n) (hn2 : n ≤ 4096) (ha : 0 ≤ a) : min (IntKind.i64.wrap (min x C + IntKind.i64.wrap (n * min a C))) C = min (x + n * a) C := by
  obtain ⟨q1, q2, q3, q4, q5⟩ := cutNk (k := 0) h0 h1 hn hn2 ha (by omega) (by omega)
  rw [Int.zero_add] at q2 q3 q4 q5
  rw [Int.zero_add] at q5
  rw [show IntKind.i64.wrap (n * min a C) = n * min a C from wrap_id (by omega) (by omega)]
  exact cutY h0 h1 hx q4 q2 (by omega) q5
end
theorem s114_eq (M : List GStep → Option E114) (l : List GStep) (hl : l.length ≤ 1000000) (ho : SOk l) (hM : ∀ s ∈ l, M s.fThen = some (M3 (cut3 big3 (uSs s.fThen))) ∧ M s.fElse = some (M3 (cut3 big3 (uSs s.fElse)))) : s114 M l = some (M3 (cut3 big3 (uSs l))) := by
  obtain ⟨v, e1, hv⟩ := loopI (rnd := n114_0 M) l.length (fun i (b : Most) => ⟨l, (l.length : Int), (i : Int), ⟨0, 0, 0⟩, b⟩) (fun i b => b = M3 (cut3 big3 (uSs (l.take i)))) (fun i bb hi hb => by
    have hw := w1L hi hl
    obtain ⟨k1, k2⟩ := hM _ (get_memL hi)
    obtain ⟨⟨c1, c2⟩, hN, _, _, o1, o2⟩ := SOk_mem ho _ (get_memL hi)
    obtain ⟨x1, x2, x3⟩ := uSs_nn' (SOk_take i ho)
    obtain ⟨a1, a2, a3⟩ := uSs_nn' o1
    obtain ⟨b1, b2, b3⟩ := uSs_nn' o2
    refine ⟨M3 (cut3 big3 (uSs (l.take (i + 1)))), ?_, rfl⟩
    have hi1 : (i : Int) < (l.length : Int) := by omega
    have hi0 : (0 : Int) ≤ (i : Int) := by omega
    rw [take_succL hi, uSs_snoc]
    generalize uSs (l.take i) = x at *
    generalize uSs l[i]!.fThen = a at *
    generalize uSs l[i]!.fElse = b at *
    obtain ⟨X1, X2, X3⟩ := x
    obtain ⟨A1, A2, A3⟩ := a
    obtain ⟨B1, B2, B3⟩ := b
    have hb : bb = ⟨min X1 1099511627776, min X2 1099511627776, min X3 1099511627776⟩ := hb
    have k1 : M l[i]!.fThen = some ⟨min A1 1099511627776, min A2 1099511627776, min A3 1099511627776⟩ := k1
    have k2 : M l[i]!.fElse = some ⟨min B1 1099511627776, min B2 1099511627776, min B3 1099511627776⟩ := k2
    subst hb
    have z0 : (0 : Int) ≤ 1099511627776 := by decide
    have z1 : (1099511627776 : Int) ≤ 1099511627776 := by decide
    dsimp only at x1 x2 x3 a1 a2 a3 b1 b2 b3
    unfold n114_0
    dsimp only
    simp only [Int.toNat_natCast, hi1, hi0, decide_true, cond_true, and_self, if_true, k1, k2, hw]
    by_cases h1 : l[i]!.fDo = 1
    · have e : uS1 l[i]! (A1, A2, A3) (B1, B2, B3) = (1, 1, l[i]!.fCost) := by unfold uS1; rw [if_pos h1]
      rw [decide_eq_true h1, cond_true, e, ifmin1, ifmin1, ifmin1, cutA z0 z1 x1 (by omega) (by omega), cutA z0 z1 x2 (by omega) (by omega), cutA z0 z1 x3 c1 c2]
      rfl
    · rw [decide_eq_false h1, cond_false]
      by_cases h3 : l[i]!.fDo = 3
      · have e : uS1 l[i]! (A1, A2, A3) (B1, B2, B3) = (1 + max A1 B1, max A2 B2, l[i]!.fCost + max A3 B3) := by unfold uS1; rw [if_neg h1, if_pos h3]
        rw [decide_eq_true h3, cond_true, e, maxcut, maxcut, maxcut, ifmin1, ifmin1, ifmin1, cutB z0 z1 x1 (by omega) (by omega) (by omega), cutB0 z0 z1 x2 (by omega), cutB z0 z1 x3 (by omega) c1 c2]
        rfl
      · rw [decide_eq_false h3, cond_false]
        by_cases h4 : l[i]!.fDo = 4
        · obtain ⟨n1, n2⟩ := hN h4
          have e : uS1 l[i]! (A1, A2, A3) (B1, B2, B3) = (1 + l[i]!.fN * (1 + A1), l[i]!.fN * A2, l[i]!.fN * (l[i]!.fCost + A3)) := by unfold uS1; rw [if_neg h1, if_neg h3, if_pos h4]
          rw [decide_eq_true h4, cond_true, e, ifmin1, ifmin1, ifmin1, cutN1 z0 z1 x1 n1 n2 a1, cutN0 z0 z1 x2 n1 n2 a2, cutN z0 z1 x3 n1 n2 a3 c1 c2]
          rfl
        · have e : uS1 l[i]! (A1, A2, A3) (B1, B2, B3) = (1, 0, l[i]!.fCost) := by unfold uS1; rw [if_neg h1, if_neg h3, if_neg h4]
          rw [decide_eq_false h4, cond_false, e, ifmin1, ifmin1, ifmin1, cutA z0 z1 x1 (by omega) (by omega), cutA z0 z1 x2 (by omega) (by omega), cutA z0 z1 x3 c1 c2]
          rfl) (fun b _ => by unfold n114_0; simp) (b := ⟨0, 0, 0⟩) (by rw [List.take_zero, show uSs [] = (0, 0, 0) by rw [uSs]]; rfl)
  have e1' : a114_0 M ⟨l, (l.length : Int), 0, ⟨0, 0, 0⟩, ⟨0, 0, 0⟩⟩ = some ⟨l, (l.length : Int), (l.length : Int), ⟨0, 0, 0⟩, v⟩ := e1
  unfold s114
  rw [e1']
  rw [List.take_length] at hv
  rw [hv]
  simp
theorem m114_eq : ∀ (n : Nat) (l : List GStep), SizeOf.sizeOf l < n → nSs l ≤ 1000 → SOk l → m114 n l = some (M3 (cut3 big3 (uSs l)))
  | 0, _, h, _, _ => by omega
  | n + 1, l, h, h2, ho => s114_eq (m114 n) l (by have := nSs_len l; omega) ho (fun s hs => ⟨m114_eq n _ (by have := sizeOf_then hs; omega) (by have := then_le hs; omega) (SOk_mem ho s hs).2.2.2.2.1, m114_eq n _ (by have := sizeOf_then hs; omega) (by have := then_le hs; omega) (SOk_mem ho s hs).2.2.2.2.2⟩)
theorem r114_eq (l : List GStep) (h : nSs l ≤ 1000) (ho : SOk l) : r114 l = some (M3 (cut3 big3 (uSs l))) := lim_eq (SizeOf.sizeOf l + 1) fun n hn => m114_eq n l (by omega) h ho
theorem s64_eq (M : List GStep → Option E64) (l : List GStep) (hl : l.length ≤ 1000000) (ho : SOk l) (hM : ∀ s ∈ l, M s.fThen = some (cut3 lim3 (uSs s.fThen)) ∧ M s.fElse = some (cut3 lim3 (uSs s.fElse))) : s64 M l = some (cut3 lim3 (uSs l)) := by
  obtain ⟨v, e1, hv⟩ := loopI (rnd := n64_0 M) l.length (fun i (b : Int × Int × Int) => ⟨l, b.1, b.2.1, b.2.2, (i : Int)⟩) (fun i b => b = cut3 lim3 (uSs (l.take i))) (fun i bb hi hb => by
    have hw := w1L hi hl
    obtain ⟨k1, k2⟩ := hM _ (get_memL hi)
    obtain ⟨⟨c1, c2⟩, hN, hT, hE, o1, o2⟩ := SOk_mem ho _ (get_memL hi)
    obtain ⟨x1, x2, x3⟩ := uSs_nn' (SOk_take i ho)
    obtain ⟨a1, a2, a3⟩ := uSs_nn' o1
    obtain ⟨b1, b2, b3⟩ := uSs_nn' o2
    have zT : l[i]!.fDo ≠ 3 → l[i]!.fDo ≠ 4 → uSs l[i]!.fThen = (0, 0, 0) := fun h3 h4 => by rw [hT h3 h4, uSs]
    have zE : l[i]!.fDo ≠ 3 → uSs l[i]!.fElse = (0, 0, 0) := fun h3 => by rw [hE h3, uSs]
    refine ⟨cut3 lim3 (uSs (l.take (i + 1))), ?_, rfl⟩
    have hi1 : (i : Int) < (l.length : Int) := by omega
    have hi0 : (0 : Int) ≤ (i : Int) := by omega
    rw [take_succL hi, uSs_snoc]
    generalize uSs (l.take i) = x at *
    generalize uSs l[i]!.fThen = a at *
    generalize uSs l[i]!.fElse = b at *
    obtain ⟨X1, X2, X3⟩ := x
    obtain ⟨A1, A2, A3⟩ := a
    obtain ⟨B1, B2, B3⟩ := b
    have hb : bb = (min X1 4097, min X2 9, min X3 67108865) := hb
    have k1 : M l[i]!.fThen = some (min A1 4097, min A2 9, min A3 67108865) := k1
    have k2 : M l[i]!.fElse = some (min B1 4097, min B2 9, min B3 67108865) := k2
    subst hb
    have z0 : (0 : Int) ≤ 4097 := by decide
    have z1 : (4097 : Int) ≤ 1099511627776 := by decide
    have y0 : (0 : Int) ≤ 9 := by decide
    have y1 : (9 : Int) ≤ 1099511627776 := by decide
    have u0 : (0 : Int) ≤ 67108865 := by decide
    have u1 : (67108865 : Int) ≤ 1099511627776 := by decide
    dsimp only at x1 x2 x3 a1 a2 a3 b1 b2 b3
    unfold n64_0
    dsimp only
    simp only [Int.toNat_natCast, hi1, hi0, decide_true, cond_true, and_self, if_true, k1, k2, hw, m126_eq, m125_eq, ifmin2, maxcut2]
    by_cases h4 : l[i]!.fDo = 4
    · obtain ⟨n1, n2⟩ := hN h4
      have h1 : ¬ l[i]!.fDo = 1 := by omega
      have h3 : ¬ l[i]!.fDo = 3 := by omega
      have e : uS1 l[i]! (A1, A2, A3) (B1, B2, B3) = (1 + l[i]!.fN * (1 + A1), l[i]!.fN * A2, l[i]!.fN * (l[i]!.fCost + A3)) := by unfold uS1; rw [if_neg h1, if_neg h3, if_pos h4]
      rw [decide_eq_true h4, decide_eq_false h1, cond_true, cond_false, e, cutN1 z0 z1 x1 n1 n2 a1, cutN0 y0 y1 x2 n1 n2 a2, cutN u0 u1 x3 n1 n2 a3 c1 c2]
      rfl
    · rw [decide_eq_false h4, cond_false]
      by_cases h1 : l[i]!.fDo = 1
      · have h3 : ¬ l[i]!.fDo = 3 := by omega
        have ea := zT h3 h4
        have eb := zE h3
        cases ea
        cases eb
        have e : uS1 l[i]! (0, 0, 0) (0, 0, 0) = (1, 1, l[i]!.fCost) := by unfold uS1; rw [if_pos h1]
        rw [decide_eq_true h1, cond_true, e, cutB z0 z1 x1 (by omega) (by omega) (by omega), cutA y0 y1 x2 (by omega) (by omega), cutB u0 u1 x3 (by omega) c1 c2]
        simp only [cut3, lim3, add3, Int.max_self, Int.add_zero]
      · rw [decide_eq_false h1, cond_false, cutB z0 z1 x1 (by omega) (by omega) (by omega), cutB0 y0 y1 x2 (by omega), cutB u0 u1 x3 (by omega) c1 c2]
        by_cases h3 : l[i]!.fDo = 3
        · have e : uS1 l[i]! (A1, A2, A3) (B1, B2, B3) = (1 + max A1 B1, max A2 B2, l[i]!.fCost + max A3 B3) := by unfold uS1; rw [if_neg h1, if_pos h3]
          rw [e]
          rfl
        · have ea := zT h3 h4
          have eb := zE h3
          cases ea
          cases eb
          have e : uS1 l[i]! (0, 0, 0) (0, 0, 0) = (1, 0, l[i]!.fCost) := by unfold uS1; rw [if_neg h1, if_neg h3, if_neg h4]
          rw [e]
          simp only [cut3, lim3, add3, Int.max_self, Int.add_zero]) (fun b _ => by unfold n64_0; simp) (b := (0, 0, 0)) (by rw [List.take_zero, show uSs [] = (0, 0, 0) by rw [uSs]]; rfl)
  have e1' : a64_0 M ⟨l, 0, 0, 0, 0⟩ = some ⟨l, v.1, v.2.1, v.2.2, (l.length : Int)⟩ := e1
  unfold s64
  rw [e1']
  rw [List.take_length] at hv
  rw [hv]
  simp
theorem m64_eq : ∀ (n : Nat) (l : List GStep), SizeOf.sizeOf l < n → nSs l ≤ 1000 → SOk l → m64 n l = some (cut3 lim3 (uSs l))
  | 0, _, h, _, _ => by omega
  | n + 1, l, h, h2, ho => s64_eq (m64 n) l (by have := nSs_len l; omega) ho (fun s hs => ⟨m64_eq n _ (by have := sizeOf_then hs; omega) (by have := then_le hs; omega) (SOk_mem ho s hs).2.2.2.2.1, m64_eq n _ (by have := sizeOf_then hs; omega) (by have := then_le hs; omega) (SOk_mem ho s hs).2.2.2.2.2⟩)
theorem r64_eq (l : List GStep) (h : nSs l ≤ 1000) (ho : SOk l) : r64 l = some (cut3 lim3 (uSs l)) := lim_eq (SizeOf.sizeOf l + 1) fun n hn => m64_eq n l (by omega) h ho
/-! ### both checkers -/
theorem m56_eq (f : Flat) (h : nSs f.fBody + nTs (f.fHatches.map (·.fTerm)) ≤ 900) (hh : f.fHatches.length ≤ 1000000) (hvl : f.fVars.length ≤ 1000000) : m56 f = some (chk f) := by
  obtain ⟨r, q, e1, e2, e3⟩ := sizes56 f h hh
  unfold m56 chk
  rw [e1]
  dsimp only
  rw [e2]
  dsimp only
  rw [decide_eq_false (show ¬ ((f.fHatches.length : Int) < (f.fHatches.length : Int)) by omega), cond_false, m109_eq, e3]
  unfold sizesB
  generalize (f.fHatches.all fun h => decide (dT h.fTerm ≤ 12)) = x
  generalize decide (dSs f.fBody ≤ 12) = y
  generalize tDeep f.fBody = z
  by_cases h1 : 64 < (f.fVars.length : Int)
  · simp [h1, show ¬ f.fVars.length ≤ 64 by omega]
  by_cases h2 : 8 < (f.fHatches.length : Int)
  · simp [h1, h2, show ¬ f.fHatches.length ≤ 8 by omega]
  rw [decide_eq_false h1, decide_eq_false h2, decide_eq_true (show f.fVars.length ≤ 64 by omega), decide_eq_true (show f.fHatches.length ≤ 8 by omega)]
  dsimp only [cond_false, Bool.true_and]
  simp only [Bool.true_and]
  cases hx : (x && y && !z) with
  | false => rfl
  | true =>
    rw [m111_eq f.fVars hvl]
    dsimp only [Bool.not_true, cond_false]
    rw [if_neg (by decide)]
    by_cases hvc : varsC f.fVars = 0
    case neg => simp [hvc]
    have hv : VarsOk f.fVars := by
      apply varsOk_of
      unfold varsC at hvc
      by_cases h0 : firstC (varC f.fVars) f.fVars 0 = 0
      · exact h0
      · rw [if_pos h0] at hvc; exact absurd hvc h0
    rw [decide_eq_true hvc, cond_true, cond_false, if_neg (by simpa using hvc), m112_eq f hv hh]
    dsimp only
    by_cases hhc : firstC (hatC f) f.fHatches 0 = 0
    case neg => simp [hhc]
    rw [decide_eq_true hhc, cond_true, cond_false, if_neg (by simpa using hhc), r113_eq f hv f.fBody true (by omega)]
    dsimp only
    by_cases hsc : stepC f true f.fBody = 0
    case neg => simp [hsc]
    have ho : SOk f.fBody := SOk_of f _ f.fBody true (Nat.lt_succ_self _) hsc
    rw [decide_eq_true hsc, cond_true, cond_false, if_neg (by simpa using hsc)]
    have e := r114_eq f.fBody (by omega) ho
    unfold overB
    generalize uSs f.fBody = u at e ⊢
    obtain ⟨a, b, c⟩ := u
    have e : r114 f.fBody = some ⟨min a 1099511627776, min b 1099511627776, min c 1099511627776⟩ := e
    rw [e]
    dsimp only
    by_cases a1 : 4096 < a
    · simp [a1, show 4096 < min a 1099511627776 by omega]
    · by_cases b1 : 8 < b
      · simp [a1, b1, show ¬ 4096 < min a 1099511627776 by omega, show 8 < min b 1099511627776 by omega]
      · by_cases d1 : 67108864 < c
        · simp [a1, b1, d1, show ¬ 4096 < min a 1099511627776 by omega, show ¬ 8 < min b 1099511627776 by omega, show 67108864 < min c 1099511627776 by omega]
        · simp [a1, b1, d1, show ¬ 4096 < min a 1099511627776 by omega, show ¬ 8 < min b 1099511627776 by omega, show ¬ 67108864 < min c 1099511627776 by omega]
theorem m18_eq (f : Flat) (h : nSs f.fBody + nTs (f.fHatches.map (·.fTerm)) ≤ 900) (hh : f.fHatches.length ≤ 1000000) (hvl : f.fVars.length ≤ 1000000) : m18 f = some (chk f) := by
  unfold m18 chk
  rw [m58_eq f h hh]
  dsimp only
  cases hx : sizesB f with
  | false => rfl
  | true =>
    rw [m59_eq f.fVars hvl]
    dsimp only [cond_true, cond_false]
    rw [if_neg (by decide)]
    by_cases hvc : varsC f.fVars = 0
    case neg => simp [hvc]
    have hv : VarsOk f.fVars := by
      apply varsOk_of
      unfold varsC at hvc
      by_cases h0 : firstC (varC f.fVars) f.fVars 0 = 0
      · exact h0
      · rw [if_pos h0] at hvc; exact absurd hvc h0
    obtain ⟨i, e1, hc⟩ := a18_0_eq f hv hh
    rw [decide_eq_true hvc, cond_true, cond_false, if_neg (by simpa using hvc), e1]
    dsimp only
    rcases hc with ⟨rfl, hc⟩ | ⟨hi, h0, hc⟩
    · rw [if_neg (show ¬ (firstC (hatC f) f.fHatches 0 ≠ 0) by rw [hc]; simp), decide_eq_false (show ¬ ((f.fHatches.length : Int) < (f.fHatches.length : Int)) by omega), cond_false, r63_eq f hv f.fBody true (by omega)]
      dsimp only
      by_cases hsc : stepC f true f.fBody = 0
      case neg => simp [hsc]
      have ho : SOk f.fBody := SOk_of f _ f.fBody true (Nat.lt_succ_self _) hsc
      rw [decide_eq_true hsc, cond_true, cond_false, if_neg (show ¬ (stepC f true f.fBody ≠ 0) by rw [hsc]; simp)]
      have e := r64_eq f.fBody (by omega) ho
      unfold overB
      generalize uSs f.fBody = u at e ⊢
      obtain ⟨a, b, c⟩ := u
      have e : r64 f.fBody = some (min a 4097, min b 9, min c 67108865) := e
      rw [e]
      dsimp only
      by_cases a1 : 4096 < a
      · simp [a1, show 4096 < min a 4097 by omega]
      · by_cases b1 : 8 < b
        · simp [a1, b1, show ¬ 4096 < min a 4097 by omega, show 8 < min b 9 by omega]
        · by_cases d1 : 67108864 < c
          · simp [a1, b1, d1, show ¬ 4096 < min a 4097 by omega, show ¬ 8 < min b 9 by omega, show 67108864 < min c 67108865 by omega]
          · simp [a1, b1, d1, show ¬ 4096 < min a 4097 by omega, show ¬ 8 < min b 9 by omega, show ¬ 67108864 < min c 67108865 by omega]
    · obtain ⟨j, h2, h3⟩ := a18_1_eq f hh i (by omega) f.fHatches[i]!
      rw [if_pos (show firstC (hatC f) f.fHatches 0 ≠ 0 by rw [hc]; exact h0), hc]
      have hi1 : (i : Int) < (f.fHatches.length : Int) := by omega
      have hi0 : (0 : Int) ≤ (i : Int) := by omega
      revert h0
      unfold hatC
      simp only [Int.toNat_natCast, GTerm.eta, Hatch.eta, m61_eq, m60_eq, h2, m62_eq f.fVars hv, hi0, hi1, and_self, if_true, decide_true, cond_true]
      generalize nameB f.fHatches[i]!.fName = B
      generalize ((f.fHatches.take i).any fun w => w.fName.toList == f.fHatches[i]!.fName.toList) = A at h3
      generalize boundB f.fHatches[i]!.fLow f.fHatches[i]!.fHigh = C
      generalize termC f.fVars true f.fHatches[i]!.fTerm = T
      rcases h3 with ⟨rfl, rfl⟩ | ⟨hj, h4, rfl⟩
      · cases B <;> cases C <;> by_cases hT : T = 0 <;> simp [hT]
      · have hj1 : (j : Int) < (i : Int) := by omega
        have hj2 : (j : Int) < (f.fHatches.length : Int) := by omega
        have hj0 : (0 : Int) ≤ (j : Int) := by omega
        simp only [hj0, hj1, hj2, h4, and_self, if_true, decide_true, cond_true]
        cases B <;> simp
theorem chk_vars {f : Flat} (h : chk f = 0) : VarsOk f.fVars := by
  unfold chk at h
  by_cases h1 : sizesB f = false
  · rw [if_pos h1] at h; exact absurd h (by decide)
  rw [if_neg h1] at h
  by_cases hvc : varsC f.fVars = 0
  · apply varsOk_of
    unfold varsC at hvc
    by_cases h0 : firstC (varC f.fVars) f.fVars 0 = 0
    · exact h0
    · rw [if_pos h0] at hvc; exact absurd hvc h0
  · rw [if_pos hvc] at h; exact absurd h hvc
end Go.Proofs.YtaonipoflmbhgaaGreat
end
section
set_option linter.unusedSectionVars false
set_option linter.unusedVariables false
set_option linter.unusedSimpArgs false
set_option maxRecDepth 100000
namespace Go.Proofs.YtaonipoflmbhgaaGreat
open Go Go.Iv
/-! ### 80: keyhole/numeric.inRange -/
noncomputable def F80 : Orc := or0
theorem F80_ok : OrcG Tryz.prog F80 := or0_g
abbrev E80 : Type := Bool
abbrev P80_e : Type := (Bool × Unit) × (Unit)
noncomputable def rb80_e : St → Option P80_e := stR 0 (slC 2 asB slN) rsN
noncomputable def pb80_e : P80_e → St := stP 0 (fun z => [(2, .b z.1)]) (fun z => [])
noncomputable def mk80_e (z : P80_e) : E80 := z.1.1
noncomputable def pt80_e (x : E80) : St := pb80_e ((x, ()), (()))
noncomputable def rd80_e : St → Option E80 := rdC 0 [] [2] (rdM mk80_e rb80_e)
theorem rb80_e_ok (n : Nat) : RdOk 0 n rb80_e pb80_e := stR_ok (.cons .b .nil) .nil
theorem rd80_e_ok (n : Nat) : RdOk 0 n rd80_e pt80_e := rdC_ok ((rb80_e_ok n).m mk80_e (pat' := pt80_e) fun _ => rfl)
noncomputable def an80 : An := (.two .no (.two (.rb [] 2) .no))
theorem pu80  : ∀ f ∈ ([] : List Nat), PureF (F80) f := fun f hf => by
  cases hf
theorem fa80 : FnAn Tryz.prog (F80) 0 300 80 (an80) := fnAn_of (l := [(.skip, (.rb [] 2))]) Tryz.func80 (bodyOf_eq (by kernel_rfl)) (by kernel_rfl) fun p hp => by
  simp only [List.mem_cons, List.not_mem_nil, or_false] at hp
  rcases hp with rfl
  · exact pu80
noncomputable def m80 (a0 : Int) : E80 :=
  let r1 : Bool := bif decide (-1099511627776 ≤ a0) then
    decide (a0 ≤ 1099511627776)
  else
    false
  r1
theorem c80 (a0 : Int) : callR Tryz.prog (F80) 300 (an80) 80 [.n .i64 a0] [] 0 rd80_e = some (m80 a0) := by
  refine Eq.trans (b := (
    match bif decide (-1099511627776 ≤ a0) then
      some (decide (a0 ≤ 1099511627776))
    else
      some (false) with
    | none =>
      none
    | some r1 =>
      some (r1) : Option E80)) (by kernel_rfl) ?_
  simp only [m80, cond_some, ite_some]
noncomputable def o80 (x : E80) : Out := match (match outOf Tryz.prog 80 (pt80_e x) with
    | some ds => some (Out.mk (resA ds) (keepR (pt80_e x).R 0 (resA ds)) (pt80_e x).nx)
    | none => none) with
  | some o => o
  | none => ⟨.tup [], [], 0⟩
theorem fn80 (a0 : Int) (r : E80) (h : m80 a0 = r) : fnOk Tryz.prog 80 ∧ FnY Tryz.prog 80 [.n .i64 a0] [] 0 (o80 r) :=
  fnY_of (p := r) F80_ok (fa80) rd80_e_ok (fun p => by kernel_rfl) (ltd_of (by kernel_rfl)) (rltd_of (by kernel_rfl)) ((c80 a0).trans (congrArg some h))
theorem fnok80 : fnOk Tryz.prog 80 := ⟨_, Tryz.func80, by kernel_rfl, by kernel_rfl⟩
noncomputable def e80 (F : Orc) : Orc := orL 80 false (pkC (asI .i64) pkN) (fun g => some (m80 g.1) : (Int × Unit) → Option E80) o80 F
theorem e80_ok {F : Orc} (h : OrcG Tryz.prog F) : OrcG Tryz.prog (e80 F) := orL_g (sc := scU) h scU_ok fnok80 (ca := fun g => [.n .i64 g.1]) ((.cons (.i .i64) .nil) : PkN (pkC (asI .i64) pkN) _) (fun b => by kernel_rfl) (fun b => by kernel_rfl) (fun g b hb => (fn80 g.1 b (Option.some.inj hb)).2)
theorem e80_pure {F : Orc} {f : Nat} (h : PureF F f) : PureF (e80 F) f := orL_pure h (fun b => by kernel_rfl)
/-! ### 84: keyhole/numeric.single -/
noncomputable def F84 : Orc := or0
theorem F84_ok : OrcG Tryz.prog F84 := or0_g
abbrev E84 : Type := Num
abbrev P84_e : Type := (Unit × Unit) × (Num × Unit)
noncomputable def rb84_e : St → Option P84_e := stR 1 (slC 2 (asP 0 0) slN) (rsN2 0 34 (asCs 34) rsN)
noncomputable def pb84_e : P84_e → St := stP 1 (fun z => [(2, .ptr 0 0)]) (fun z => [(0, .box 34 (uni.cells 34 z.1))])
noncomputable def mk84_e (z : P84_e) : E84 := z.2.1
noncomputable def pt84_e (x : E84) : St := pb84_e (((), ()), (x, ()))
noncomputable def rd84_e : St → Option E84 := rdC 0 [] [2] (rdM mk84_e rb84_e)
theorem rb84_e_ok (n : Nat) : RdOk 0 n rb84_e pb84_e := stR_ok (.cons (.p 0 0) .nil) (.boxN (PkN.parse 34) .nil)
theorem rd84_e_ok (n : Nat) : RdOk 0 n rd84_e pt84_e := rdC_ok ((rb84_e_ok n).m mk84_e (pat' := pt84_e) fun _ => rfl)
noncomputable def an84 : An := .no
theorem fa84 : FnAn Tryz.prog (F84) 0 300 84 (an84) := fnAn_of (l := []) Tryz.func84 (bodyOf_eq (by kernel_rfl)) (by kernel_rfl) fun p hp => by
  cases hp
noncomputable def m84 (a0 : Int) : E84 :=
  Num.mk a0 a0 (0)
theorem c84 (a0 : Int) : callR Tryz.prog (F84) 300 (an84) 84 [.n .i64 a0] [] 0 rd84_e = some (m84 a0) := by kernel_rfl
noncomputable def o84 (x : E84) : Out := match (match outOf Tryz.prog 84 (pt84_e x) with
    | some ds => some (Out.mk (resA ds) (keepR (pt84_e x).R 0 (resA ds)) (pt84_e x).nx)
    | none => none) with
  | some o => o
  | none => ⟨.tup [], [], 0⟩
theorem fn84 (a0 : Int) (r : E84) (h : m84 a0 = r) : fnOk Tryz.prog 84 ∧ FnY Tryz.prog 84 [.n .i64 a0] [] 0 (o84 r) :=
  fnY_of (p := r) F84_ok (fa84) rd84_e_ok (fun p => by kernel_rfl) (ltd_of (by kernel_rfl)) (rltd_of (by kernel_rfl)) ((c84 a0).trans (congrArg some h))
theorem fnok84 : fnOk Tryz.prog 84 := ⟨_, Tryz.func84, by kernel_rfl, by kernel_rfl⟩
noncomputable def e84 (F : Orc) : Orc := orL 84 false (pkC (asI .i64) pkN) (fun g => some (m84 g.1) : (Int × Unit) → Option E84) o84 F
theorem e84_ok {F : Orc} (h : OrcG Tryz.prog F) : OrcG Tryz.prog (e84 F) := orL_g (sc := scU) h scU_ok fnok84 (ca := fun g => [.n .i64 g.1]) ((.cons (.i .i64) .nil) : PkN (pkC (asI .i64) pkN) _) (fun b => by kernel_rfl) (fun b => by kernel_rfl) (fun g b hb => (fn84 g.1 b (Option.some.inj hb)).2)
theorem e84_pure {F : Orc} {f : Nat} (h : PureF F f) : PureF (e84 F) f := orL_pure h (fun b => by kernel_rfl)
/-! ### 136: keyhole/numeric.none -/
noncomputable def F136 : Orc := or0
theorem F136_ok : OrcG Tryz.prog F136 := or0_g
abbrev E136 : Type := Num
abbrev P136_e : Type := (Unit × Unit) × (Num × Unit)
noncomputable def rb136_e : St → Option P136_e := stR 1 (slC 0 (asP 0 0) slN) (rsN2 0 34 (asCs 34) rsN)
noncomputable def pb136_e : P136_e → St := stP 1 (fun z => [(0, .ptr 0 0)]) (fun z => [(0, .box 34 (uni.cells 34 z.1))])
noncomputable def mk136_e (z : P136_e) : E136 := z.2.1
noncomputable def pt136_e (x : E136) : St := pb136_e (((), ()), (x, ()))
noncomputable def rd136_e : St → Option E136 := rdC 0 [] [0] (rdM mk136_e rb136_e)
theorem rb136_e_ok (n : Nat) : RdOk 0 n rb136_e pb136_e := stR_ok (.cons (.p 0 0) .nil) (.boxN (PkN.parse 34) .nil)
theorem rd136_e_ok (n : Nat) : RdOk 0 n rd136_e pt136_e := rdC_ok ((rb136_e_ok n).m mk136_e (pat' := pt136_e) fun _ => rfl)
noncomputable def an136 : An := .no
theorem fa136 : FnAn Tryz.prog (F136) 0 300 136 (an136) := fnAn_of (l := []) Tryz.func136 (bodyOf_eq (by kernel_rfl)) (by kernel_rfl) fun p hp => by
  cases hp
noncomputable def m136  : E136 :=
  Num.mk (1) (0) (0)
theorem c136  : callR Tryz.prog (F136) 300 (an136) 136 [] [] 0 rd136_e = some (m136 ) := by kernel_rfl
noncomputable def o136 (x : E136) : Out := match (match outOf Tryz.prog 136 (pt136_e x) with
    | some ds => some (Out.mk (resA ds) (keepR (pt136_e x).R 0 (resA ds)) (pt136_e x).nx)
    | none => none) with
  | some o => o
  | none => ⟨.tup [], [], 0⟩
theorem fn136  (r : E136) (h : m136  = r) : fnOk Tryz.prog 136 ∧ FnY Tryz.prog 136 [] [] 0 (o136 r) :=
  fnY_of (p := r) F136_ok (fa136) rd136_e_ok (fun p => by kernel_rfl) (ltd_of (by kernel_rfl)) (rltd_of (by kernel_rfl)) ((c136 ).trans (congrArg some h))
theorem fnok136 : fnOk Tryz.prog 136 := ⟨_, Tryz.func136, by kernel_rfl, by kernel_rfl⟩
noncomputable def e136 (F : Orc) : Orc := orL 136 false pkN (fun g => some (m136 ) : (Unit) → Option E136) o136 F
theorem e136_ok {F : Orc} (h : OrcG Tryz.prog F) : OrcG Tryz.prog (e136 F) := orL_g (sc := scU) h scU_ok fnok136 (ca := fun g => []) (.nil : PkN pkN _) (fun b => by kernel_rfl) (fun b => by kernel_rfl) (fun g b hb => (fn136  b (Option.some.inj hb)).2)
theorem e136_pure {F : Orc} {f : Nat} (h : PureF F f) : PureF (e136 F) f := orL_pure h (fun b => by kernel_rfl)
/-! ### 137: keyhole/numeric.span -/
noncomputable def F137 : Orc := (e136 (e84 or0))
theorem F137_ok : OrcG Tryz.prog F137 := (e136_ok (e84_ok or0_g))
abbrev E137 : Type := Num
abbrev P137_e : Type := (Unit × Unit) × (Num × Unit)
noncomputable def rb137_e : St → Option P137_e := stR 1 (slC 6 (asP 0 0) slN) (rsN2 0 34 (asCs 34) rsN)
noncomputable def pb137_e : P137_e → St := stP 1 (fun z => [(6, .ptr 0 0)]) (fun z => [(0, .box 34 (uni.cells 34 z.1))])
noncomputable def mk137_e (z : P137_e) : E137 := z.2.1
noncomputable def pt137_e (x : E137) : St := pb137_e (((), ()), (x, ()))
noncomputable def rd137_e : St → Option E137 := rdC 0 [] [6] (rdM mk137_e rb137_e)
theorem rb137_e_ok (n : Nat) : RdOk 0 n rb137_e pb137_e := stR_ok (.cons (.p 0 0) .nil) (.boxN (PkN.parse 34) .nil)
theorem rd137_e_ok (n : Nat) : RdOk 0 n rd137_e pt137_e := rdC_ok ((rb137_e_ok n).m mk137_e (pat' := pt137_e) fun _ => rfl)
noncomputable def an137 : An := .no
theorem fa137 : FnAn Tryz.prog (F137) 0 300 137 (an137) := fnAn_of (l := []) Tryz.func137 (bodyOf_eq (by kernel_rfl)) (by kernel_rfl) fun p hp => by
  cases hp
noncomputable def m137 (a0 : Int) (a1 : Int) (a2 : Int) : Option E137 :=
  bif decide (a1 < a0) then
    some (m136)
  else
    bif decide (a2 = 0) then
      some (m84 a0)
    else
      if ¬a2 = (0 : Int) then
        bif decide (a0 = IntKind.i64.wrap (a0 + IntKind.i64.wrap (IntKind.i64.wrap ((IntKind.i64.wrap (a1 - a0)).tdiv a2) * a2))) then
          some (m84 a0)
        else
          some (Num.mk a0 (IntKind.i64.wrap (a0 + IntKind.i64.wrap (IntKind.i64.wrap ((IntKind.i64.wrap (a1 - a0)).tdiv a2) * a2))) a2)
      else
        none
theorem c137 (a0 : Int) (a1 : Int) (a2 : Int) : callR Tryz.prog (F137) 300 (an137) 137 [.n .i64 a0, .n .i64 a1, .n .i64 a2] [] 0 rd137_e = m137 a0 a1 a2 := by kernel_rfl
noncomputable def o137 (x : E137) : Out := match (match outOf Tryz.prog 137 (pt137_e x) with
    | some ds => some (Out.mk (resA ds) (keepR (pt137_e x).R 0 (resA ds)) (pt137_e x).nx)
    | none => none) with
  | some o => o
  | none => ⟨.tup [], [], 0⟩
theorem fn137 (a0 : Int) (a1 : Int) (a2 : Int) (r : E137) (h : m137 a0 a1 a2 = some r) : fnOk Tryz.prog 137 ∧ FnY Tryz.prog 137 [.n .i64 a0, .n .i64 a1, .n .i64 a2] [] 0 (o137 r) :=
  fnY_of (p := r) F137_ok (fa137) rd137_e_ok (fun p => by kernel_rfl) (ltd_of (by kernel_rfl)) (rltd_of (by kernel_rfl)) ((c137 a0 a1 a2).trans h)
theorem fnok137 : fnOk Tryz.prog 137 := ⟨_, Tryz.func137, by kernel_rfl, by kernel_rfl⟩
noncomputable def e137 (F : Orc) : Orc := orL 137 false (pkC (asI .i64) (pkC (asI .i64) (pkC (asI .i64) pkN))) (fun g => m137 g.1 g.2.1 g.2.2.1 : (Int × Int × Int × Unit) → Option E137) o137 F
theorem e137_ok {F : Orc} (h : OrcG Tryz.prog F) : OrcG Tryz.prog (e137 F) := orL_g (sc := scU) h scU_ok fnok137 (ca := fun g => [.n .i64 g.1, .n .i64 g.2.1, .n .i64 g.2.2.1]) ((.cons (.i .i64) (.cons (.i .i64) (.cons (.i .i64) .nil))) : PkN (pkC (asI .i64) (pkC (asI .i64) (pkC (asI .i64) pkN))) _) (fun b => by kernel_rfl) (fun b => by kernel_rfl) (fun g b hb => (fn137 g.1 g.2.1 g.2.2.1 b hb).2)
theorem e137_pure {F : Orc} {f : Nat} (h : PureF F f) : PureF (e137 F) f := orL_pure h (fun b => by kernel_rfl)
/-! ### 115: keyhole/numeric.Make -/
noncomputable def F115 : Orc := (e137 (e80 or0))
theorem F115_ok : OrcG Tryz.prog F115 := (e137_ok (e80_ok or0_g))
abbrev E115 : Type := Num × Int
abbrev P115_e : Type := (Unit × Int × Unit) × (Num × Unit)
noncomputable def rb115_e : St → Option P115_e := stR 1 (slC 6 (asP 0 0) (slC 7 (asI .i64) slN)) (rsN2 0 34 (asCs 34) rsN)
noncomputable def pb115_e : P115_e → St := stP 1 (fun z => [(6, .ptr 0 0), (7, .n .i64 z.2.1)]) (fun z => [(0, .box 34 (uni.cells 34 z.1))])
noncomputable def mk115_e (z : P115_e) : E115 := (z.2.1, z.1.2.1)
noncomputable def pt115_e (x : E115) : St := pb115_e (((), x.2, ()), (x.1, ()))
noncomputable def rd115_e : St → Option E115 := rdC 0 [] [6, 7] (rdM mk115_e rb115_e)
theorem rb115_e_ok (n : Nat) : RdOk 0 n rb115_e pb115_e := stR_ok (.cons (.p 0 0) (.cons (.i .i64) .nil)) (.boxN (PkN.parse 34) .nil)
theorem rd115_e_ok (n : Nat) : RdOk 0 n rd115_e pt115_e := rdC_ok ((rb115_e_ok n).m mk115_e (pat' := pt115_e) fun _ => rfl)
noncomputable def an115 : An := (.two .no (.two (.two (.rb [80] 19) .no) .no))
theorem pu115  : ∀ f ∈ ([80] : List Nat), PureF (F115) f := fun f hf => by
  simp only [List.mem_cons, List.not_mem_nil, or_false] at hf
  rcases hf with rfl
  · exact (e137_pure (e80_pure or0_pure))
theorem fa115 : FnAn Tryz.prog (F115) 0 300 115 (an115) := fnAn_of (l := [(.skip, (.rb [80] 19))]) Tryz.func115 (bodyOf_eq (by kernel_rfl)) (by kernel_rfl) fun p hp => by
  simp only [List.mem_cons, List.not_mem_nil, or_false] at hp
  rcases hp with rfl
  · exact pu115
noncomputable def m115 (a0 : Int) (a1 : Int) (a2 : Int) : Option E115 :=
  match bif bif m80 a0 then false else true then
    some (true)
  else
    bif bif m80 a1 then false else true then
      some (true)
    else
      some (decide (a2 < 1)) with
  | none =>
    none
  | some r1 =>
    bif r1 then
      some ((Num.mk (0) (0) (0), 3))
    else
      match m137 a0 a1 a2 with
      | none =>
        none
      | some r2 =>
        some ((r2, 0))
theorem c115 (a0 : Int) (a1 : Int) (a2 : Int) : callR Tryz.prog (F115) 300 (an115) 115 [.n .i64 a0, .n .i64 a1, .n .i64 a2] [] 0 rd115_e = m115 a0 a1 a2 := by kernel_rfl
noncomputable def o115 (x : E115) : Out := match (match outOf Tryz.prog 115 (pt115_e x) with
    | some ds => some (Out.mk (resA ds) (keepR (pt115_e x).R 0 (resA ds)) (pt115_e x).nx)
    | none => none) with
  | some o => o
  | none => ⟨.tup [], [], 0⟩
theorem fn115 (a0 : Int) (a1 : Int) (a2 : Int) (r : E115) (h : m115 a0 a1 a2 = some r) : fnOk Tryz.prog 115 ∧ FnY Tryz.prog 115 [.n .i64 a0, .n .i64 a1, .n .i64 a2] [] 0 (o115 r) :=
  fnY_of (p := r) F115_ok (fa115) rd115_e_ok (fun p => by kernel_rfl) (ltd_of (by kernel_rfl)) (rltd_of (by kernel_rfl)) ((c115 a0 a1 a2).trans h)
theorem fnok115 : fnOk Tryz.prog 115 := ⟨_, Tryz.func115, by kernel_rfl, by kernel_rfl⟩
noncomputable def e115 (F : Orc) : Orc := orL 115 false (pkC (asI .i64) (pkC (asI .i64) (pkC (asI .i64) pkN))) (fun g => m115 g.1 g.2.1 g.2.2.1 : (Int × Int × Int × Unit) → Option E115) o115 F
theorem e115_ok {F : Orc} (h : OrcG Tryz.prog F) : OrcG Tryz.prog (e115 F) := orL_g (sc := scU) h scU_ok fnok115 (ca := fun g => [.n .i64 g.1, .n .i64 g.2.1, .n .i64 g.2.2.1]) ((.cons (.i .i64) (.cons (.i .i64) (.cons (.i .i64) .nil))) : PkN (pkC (asI .i64) (pkC (asI .i64) (pkC (asI .i64) pkN))) _) (fun b => by kernel_rfl) (fun b => by kernel_rfl) (fun g b hb => (fn115 g.1 g.2.1 g.2.2.1 b hb).2)
theorem e115_pure {F : Orc} {f : Nat} (h : PureF F f) : PureF (e115 F) f := orL_pure h (fun b => by kernel_rfl)
/-! ### 57: keyhole/numeric.Range -/
noncomputable def F57 : Orc := (e115 or0)
theorem F57_ok : OrcG Tryz.prog F57 := (e115_ok or0_g)
abbrev E57 : Type := Num × Int
abbrev P57_e : Type := (Unit × Int × Unit) × (Num × Unit)
noncomputable def rb57_e : St → Option P57_e := stR 1 (slC 4 (asP 0 0) (slC 5 (asI .i64) slN)) (rsN2 0 34 (asCs 34) rsN)
noncomputable def pb57_e : P57_e → St := stP 1 (fun z => [(4, .ptr 0 0), (5, .n .i64 z.2.1)]) (fun z => [(0, .box 34 (uni.cells 34 z.1))])
noncomputable def mk57_e (z : P57_e) : E57 := (z.2.1, z.1.2.1)
noncomputable def pt57_e (x : E57) : St := pb57_e (((), x.2, ()), (x.1, ()))
noncomputable def rd57_e : St → Option E57 := rdC 0 [] [4, 5] (rdM mk57_e rb57_e)
theorem rb57_e_ok (n : Nat) : RdOk 0 n rb57_e pb57_e := stR_ok (.cons (.p 0 0) (.cons (.i .i64) .nil)) (.boxN (PkN.parse 34) .nil)
theorem rd57_e_ok (n : Nat) : RdOk 0 n rd57_e pt57_e := rdC_ok ((rb57_e_ok n).m mk57_e (pat' := pt57_e) fun _ => rfl)
noncomputable def an57 : An := .no
theorem fa57 : FnAn Tryz.prog (F57) 0 300 57 (an57) := fnAn_of (l := []) Tryz.func57 (bodyOf_eq (by kernel_rfl)) (by kernel_rfl) fun p hp => by
  cases hp
noncomputable def m57 (a0 : Int) (a1 : Int) : Option E57 :=
  match m115 a0 a1 (1) with
  | none =>
    none
  | some r1 =>
    some (r1)
theorem c57 (a0 : Int) (a1 : Int) : callR Tryz.prog (F57) 300 (an57) 57 [.n .i64 a0, .n .i64 a1] [] 0 rd57_e = m57 a0 a1 := by kernel_rfl
noncomputable def o57 (x : E57) : Out := match (match outOf Tryz.prog 57 (pt57_e x) with
    | some ds => some (Out.mk (resA ds) (keepR (pt57_e x).R 0 (resA ds)) (pt57_e x).nx)
    | none => none) with
  | some o => o
  | none => ⟨.tup [], [], 0⟩
theorem fn57 (a0 : Int) (a1 : Int) (r : E57) (h : m57 a0 a1 = some r) : fnOk Tryz.prog 57 ∧ FnY Tryz.prog 57 [.n .i64 a0, .n .i64 a1] [] 0 (o57 r) :=
  fnY_of (p := r) F57_ok (fa57) rd57_e_ok (fun p => by kernel_rfl) (ltd_of (by kernel_rfl)) (rltd_of (by kernel_rfl)) ((c57 a0 a1).trans h)
theorem fnok57 : fnOk Tryz.prog 57 := ⟨_, Tryz.func57, by kernel_rfl, by kernel_rfl⟩
noncomputable def e57 (F : Orc) : Orc := orL 57 false (pkC (asI .i64) (pkC (asI .i64) pkN)) (fun g => m57 g.1 g.2.1 : (Int × Int × Unit) → Option E57) o57 F
theorem e57_ok {F : Orc} (h : OrcG Tryz.prog F) : OrcG Tryz.prog (e57 F) := orL_g (sc := scU) h scU_ok fnok57 (ca := fun g => [.n .i64 g.1, .n .i64 g.2.1]) ((.cons (.i .i64) (.cons (.i .i64) .nil)) : PkN (pkC (asI .i64) (pkC (asI .i64) pkN)) _) (fun b => by kernel_rfl) (fun b => by kernel_rfl) (fun g b hb => (fn57 g.1 g.2.1 b hb).2)
theorem e57_pure {F : Orc} {f : Nat} (h : PureF F f) : PureF (e57 F) f := orL_pure h (fun b => by kernel_rfl)
/-! ### 17: keyhole/abstract.Whole -/
noncomputable def F17 : Orc := (e57 (e56 or0))
theorem F17_ok : OrcG Tryz.prog F17 := (e57_ok (e56_ok or0_g))
structure L17_1 where
  t5 : List Num
  t7 : Int
  t17 : List Int
  t18 : Int
  t19 : Int
  t24 : List GVar
  t25 : Int
  t26 : Int
  b0 : Flat
abbrev P17_1 : Type := (Unit × Unit × Int × Unit × Int × Int × (List GVar) × Int × Int × Unit) × (Flat × (List Num) × (List Int) × Unit)
noncomputable def rb17_1 : St → Option P17_1 := stR 3 (slC 1 (asP 0 0) (slC 5 (asO 1) (slC 7 (asI .i64) (slC 17 (asO 2) (slC 18 (asI .i64) (slC 19 (asI .i64) (slC 24 (asL 91) (slC 25 (asI .i64) (slC 26 (asI .i64) slN))))))))) (rsN2 0 26 (asCs 26) (rsR 1 34 (rsR 2 89 rsN)))
noncomputable def pb17_1 : P17_1 → St := stP 3 (fun z => [(1, .ptr 0 0), (5, .own 1), (7, .n .i64 z.2.2.1), (17, .own 2), (18, .n .i64 z.2.2.2.2.1), (19, .n .i64 z.2.2.2.2.2.1), (24, .sl 91 z.2.2.2.2.2.2.1), (25, .n .i64 z.2.2.2.2.2.2.2.1), (26, .n .i64 z.2.2.2.2.2.2.2.2.1)]) (fun z => [(0, .box 26 (uni.cells 26 z.1)), (1, .row 34 z.2.1), (2, .row 89 z.2.2.1)])
noncomputable def mk17_1 (z : P17_1) : L17_1 := ⟨z.2.2.1, z.1.2.2.1, z.2.2.2.1, z.1.2.2.2.2.1, z.1.2.2.2.2.2.1, z.1.2.2.2.2.2.2.1, z.1.2.2.2.2.2.2.2.1, z.1.2.2.2.2.2.2.2.2.1, z.2.1⟩
noncomputable def pt17_1 (x : L17_1) : St := pb17_1 (((), (), x.t7, (), x.t18, x.t19, x.t24, x.t25, x.t26, ()), (x.b0, x.t5, x.t17, ()))
noncomputable def rd17_1 : St → Option L17_1 := rdC 0 [] [1, 5, 7, 17, 18, 19, 24, 25, 26] (rdM mk17_1 rb17_1)
theorem rb17_1_ok (n : Nat) : RdOk 0 n rb17_1 pb17_1 := stR_ok (.cons (.p 0 0) (.cons (.o 1) (.cons (.i .i64) (.cons (.o 2) (.cons (.i .i64) (.cons (.i .i64) (.cons (.l 91) (.cons (.i .i64) (.cons (.i .i64) .nil))))))))) (.boxN (PkN.parse 26) (.row (.row .nil)))
theorem rd17_1_ok (n : Nat) : RdOk 0 n rd17_1 pt17_1 := rdC_ok ((rb17_1_ok n).m mk17_1 (pat' := pt17_1) fun _ => rfl)
noncomputable def n17_1 (p : L17_1) : Option (Option L17_1) :=
  bif decide (p.t26 < p.t25) then
    if (0 : Int) ≤ p.t26 ∧ p.t26 < (↑p.t24.length : Int) then
      bif decide (p.t24[p.t26.toNat]!.fKind = p.t7) then
        match m57 p.t24[p.t26.toNat]!.fLow p.t24[p.t26.toNat]!.fHigh with
        | none =>
          none
        | some r3 =>
          if (p.t5 ++ [r3.fst]).length ≤ 1073741824 then
            some (some (L17_1.mk (p.t5 ++ [r3.fst]) p.t7 p.t17 p.t18 p.t19 p.t24 p.t25 (IntKind.i64.wrap (p.t26 + 1)) p.b0))
          else
            none
      else
        some (some (L17_1.mk p.t5 p.t7 p.t17 p.t18 p.t19 p.t24 p.t25 (IntKind.i64.wrap (p.t26 + 1)) p.b0))
    else
      none
  else
    some (none)
theorem q17_1 (p : L17_1) : execA Tryz.prog (F17) Tryz.f17.ntmps 300 (loopAt Tryz.f17 1) .no (Option L17_1) (pt17_1 p) (kOn rd17_1) = n17_1 p := by kernel_rfl
noncomputable def a17_1 : L17_1 → Option L17_1 := advG (n17_1)
structure L17_0 where
  t5 : List Num
  t17 : List Int
  t18 : Int
  t19 : Int
  b0 : Flat
abbrev P17_0 : Type := (Unit × Unit × Unit × Int × Int × Unit) × (Flat × (List Num) × (List Int) × Unit)
noncomputable def rb17_0 : St → Option P17_0 := stR 3 (slC 1 (asP 0 0) (slC 5 (asO 1) (slC 17 (asO 2) (slC 18 (asI .i64) (slC 19 (asI .i64) slN))))) (rsN2 0 26 (asCs 26) (rsR 1 34 (rsR 2 89 rsN)))
noncomputable def pb17_0 : P17_0 → St := stP 3 (fun z => [(1, .ptr 0 0), (5, .own 1), (17, .own 2), (18, .n .i64 z.2.2.2.1), (19, .n .i64 z.2.2.2.2.1)]) (fun z => [(0, .box 26 (uni.cells 26 z.1)), (1, .row 34 z.2.1), (2, .row 89 z.2.2.1)])
noncomputable def mk17_0 (z : P17_0) : L17_0 := ⟨z.2.2.1, z.2.2.2.1, z.1.2.2.2.1, z.1.2.2.2.2.1, z.2.1⟩
noncomputable def pt17_0 (x : L17_0) : St := pb17_0 (((), (), (), x.t18, x.t19, ()), (x.b0, x.t5, x.t17, ()))
noncomputable def rd17_0 : St → Option L17_0 := rdC 0 [] [1, 5, 17, 18, 19] (rdF (ownS 5 [] 34) (rdC 0 [] [1, 5, 17, 18, 19] (rdM mk17_0 rb17_0)))
theorem rb17_0_ok (n : Nat) : RdOk 0 n rb17_0 pb17_0 := stR_ok (.cons (.p 0 0) (.cons (.o 1) (.cons (.o 2) (.cons (.i .i64) (.cons (.i .i64) .nil))))) (.boxN (PkN.parse 26) (.row (.row .nil)))
theorem rd17_0_ok (n : Nat) : RdOk 0 n rd17_0 pt17_0 := rdC_ok (rdF_ok (.s 5 [] 34) (rdC_ok ((rb17_0_ok n).m mk17_0 (pat' := pt17_0) fun _ => rfl)))
noncomputable def n17_0 (p : L17_0) : Option (Option L17_0) :=
  bif decide (p.t19 < p.t18) then
    if (0 : Int) ≤ p.t19 ∧ p.t19 < (↑p.t17.length : Int) then
      if 89 = 89 ∧ p.t19.toNat < p.t17.length then
        match a17_1 (L17_1.mk p.t5 p.t17[p.t19.toNat]! p.t17 p.t18 p.t19 p.b0.fVars (↑p.b0.fVars.length : Int) (0) p.b0) with
        | none =>
          none
        | some r1 =>
          bif decide (r1.t26 < r1.t25) then
            if (0 : Int) ≤ r1.t26 ∧ r1.t26 < (↑r1.t24.length : Int) then
              bif decide (r1.t24[r1.t26.toNat]!.fKind = r1.t7) then
                match m57 r1.t24[r1.t26.toNat]!.fLow r1.t24[r1.t26.toNat]!.fHigh with
                | none =>
                  none
                | some r2 =>
                  if (r1.t5 ++ [r2.fst]).length ≤ 1073741824 then
                    none
                  else
                    none
              else
                none
            else
              none
          else
            some (some (L17_0.mk r1.t5 r1.t17 r1.t18 (IntKind.i64.wrap (r1.t19 + 1)) r1.b0))
      else
        none
    else
      none
  else
    some (none)
theorem q17_0 (p : L17_0) : execA Tryz.prog (F17) Tryz.f17.ntmps 300 (loopAt Tryz.f17 0) (.two .no (.two .no (.two (.two .no (.two .no (.lp L17_1 rd17_1 pt17_1 a17_1 .no))) .no))) (Option L17_0) (pt17_0 p) (kOn rd17_0) = n17_0 p := by kernel_rfl
noncomputable def a17_0 : L17_0 → Option L17_0 := advG (n17_0)
abbrev E17 : Type := (List Num) × Int
abbrev P17_e : Type := (Unit × Int × Unit) × ((List Num) × Unit)
noncomputable def rb17_e : St → Option P17_e := stR 1 (slC 2 (asO 0) (slC 3 (asI .i64) slN)) (rsR 0 34 rsN)
noncomputable def pb17_e : P17_e → St := stP 1 (fun z => [(2, .own 0), (3, .n .i64 z.2.1)]) (fun z => [(0, .row 34 z.1)])
noncomputable def mk17_e (z : P17_e) : E17 := (z.2.1, z.1.2.1)
noncomputable def pt17_e (x : E17) : St := pb17_e (((), x.2, ()), (x.1, ()))
noncomputable def rd17_e : St → Option E17 := rdC 0 [] [2, 3] (rdF (ownS 2 [] 34) (rdC 0 [] [2, 3] (rdM mk17_e rb17_e)))
theorem rb17_e_ok (n : Nat) : RdOk 0 n rb17_e pb17_e := stR_ok (.cons (.o 0) (.cons (.i .i64) .nil)) (.row .nil)
theorem rd17_e_ok (n : Nat) : RdOk 0 n rd17_e pt17_e := rdC_ok (rdF_ok (.s 2 [] 34) (rdC_ok ((rb17_e_ok n).m mk17_e (pat' := pt17_e) fun _ => rfl)))
noncomputable def an17 : An := (.two .no (.two .no (.two .no (.two (.two .no (.lp L17_0 rd17_0 pt17_0 a17_0 (.two .no (.two .no (.two (.two .no (.two .no (.lp L17_1 rd17_1 pt17_1 a17_1 .no))) .no))))) .no))))
theorem fa17 : FnAn Tryz.prog (F17) 0 300 17 (an17) := fnAn_of (l := [(loopAt Tryz.f17 0, (.lp L17_0 rd17_0 pt17_0 a17_0 (.two .no (.two .no (.two (.two .no (.two .no (.lp L17_1 rd17_1 pt17_1 a17_1 .no))) .no))))), (loopAt Tryz.f17 1, (.lp L17_1 rd17_1 pt17_1 a17_1 .no))]) Tryz.func17 (bodyOf_eq (by kernel_rfl)) (by kernel_rfl) fun p hp => by
  simp only [List.mem_cons, List.not_mem_nil, or_false] at hp
  rcases hp with rfl | rfl
  · exact ⟨rd17_0_ok _, advG_ok (q17_0)⟩
  · exact ⟨rd17_1_ok _, advG_ok (q17_1)⟩
noncomputable def m17 (a0 : Flat) : Option E17 :=
  match m56 a0 with
  | none =>
    none
  | some r4 =>
    bif bif decide (r4 = 0) then false else true then
      some (([], r4))
    else
      match a17_0 (L17_0.mk [] [1, 3] (↑2 : Int) (0) a0) with
      | none =>
        none
      | some r5 =>
        bif decide (r5.t19 < r5.t18) then
          if (0 : Int) ≤ r5.t19 ∧ r5.t19 < (↑r5.t17.length : Int) then
            if 89 = 89 ∧ r5.t19.toNat < r5.t17.length then
              match a17_1 (L17_1.mk r5.t5 r5.t17[r5.t19.toNat]! r5.t17 r5.t18 r5.t19 r5.b0.fVars (↑r5.b0.fVars.length : Int) (0) r5.b0) with
              | none =>
                none
              | some r6 =>
                bif decide (r6.t26 < r6.t25) then
                  if (0 : Int) ≤ r6.t26 ∧ r6.t26 < (↑r6.t24.length : Int) then
                    bif decide (r6.t24[r6.t26.toNat]!.fKind = r6.t7) then
                      match m57 r6.t24[r6.t26.toNat]!.fLow r6.t24[r6.t26.toNat]!.fHigh with
                      | none =>
                        none
                      | some r7 =>
                        if (r6.t5 ++ [r7.fst]).length ≤ 1073741824 then
                          none
                        else
                          none
                    else
                      none
                  else
                    none
                else
                  none
            else
              none
          else
            none
        else
          some ((r5.t5, 0))
theorem c17 (a0 : Flat) : callR Tryz.prog (F17) 300 (an17) 17 [.agg (uni.cells 26 a0)] [] 0 rd17_e = m17 a0 := by kernel_rfl
noncomputable def o17 (x : E17) : Out := match (match outOf Tryz.prog 17 (pt17_e x) with
    | some ds => some (Out.mk (resA ds) (keepR (pt17_e x).R 0 (resA ds)) (pt17_e x).nx)
    | none => none) with
  | some o => o
  | none => ⟨.tup [], [], 0⟩
theorem fn17 (a0 : Flat) (r : E17) (h : m17 a0 = some r) : fnOk Tryz.prog 17 ∧ FnY Tryz.prog 17 [.agg (uni.cells 26 a0)] [] 0 (o17 r) :=
  fnY_of (p := r) F17_ok (fa17) rd17_e_ok (fun p => by kernel_rfl) (ltd_of (by kernel_rfl)) (rltd_of (by kernel_rfl)) ((c17 a0).trans h)
theorem fnok17 : fnOk Tryz.prog 17 := ⟨_, Tryz.func17, by kernel_rfl, by kernel_rfl⟩
noncomputable def e17 (F : Orc) : Orc := orL 17 false (pkC (asGc 26) pkN) (fun g => m17 g.1 : (Flat × Unit) → Option E17) o17 F
theorem e17_ok {F : Orc} (h : OrcG Tryz.prog F) : OrcG Tryz.prog (e17 F) := orL_g (sc := scU) h scU_ok fnok17 (ca := fun g => [.agg (uni.cells 26 g.1)]) ((.cons (.g 26) .nil) : PkN (pkC (asGc 26) pkN) _) (fun b => by kernel_rfl) (fun b => by kernel_rfl) (fun g b hb => (fn17 g.1 b hb).2)
theorem e17_skip {F : Orc} {f : Nat} (hne : Nat.beq f 17 = false) (h : PureF F f) : PureF (e17 F) f := orL_skip hne h
end Go.Proofs.YtaonipoflmbhgaaGreat
end
section
set_option linter.unusedSectionVars false
set_option linter.unusedVariables false
set_option linter.unusedSimpArgs false
namespace Go.Proofs.YtaonipoflmbhgaaGreat
open Go Go.Iv
theorem t10 : callN Tryz.prog or0 (fun _ => false) 300 60 Bool 10 [] [] 0 (kRes asB) = some true := by kernel_rfl
end Go.Proofs.YtaonipoflmbhgaaGreat
end
section
set_option linter.unusedSectionVars false
set_option linter.unusedVariables false
set_option linter.unusedSimpArgs false
set_option maxRecDepth 100000
namespace Go.Proofs.YtaonipoflmbhgaaGreat
open Go Go.Iv
/-! ### 10: keyhole/keyholelaw36.known -/
abbrev E10 : Type := Bool
abbrev P10_e : Type := (Bool × Unit) × (Unit)
noncomputable def rb10_e : St → Option P10_e := stR 0 (slC 0 asB slN) rsN
noncomputable def pb10_e : P10_e → St := stP 0 (fun z => [(0, .b z.1)]) (fun z => [])
noncomputable def mk10_e (z : P10_e) : E10 := z.1.1
noncomputable def pt10_e (x : E10) : St := pb10_e ((x, ()), (()))
noncomputable def rd10_e : St → Option E10 := rdC 0 [] [0] (rdM mk10_e rb10_e)
theorem rb10_e_ok (n : Nat) : RdOk 0 n rb10_e pb10_e := stR_ok (.cons .b .nil) .nil
theorem rd10_e_ok (n : Nat) : RdOk 0 n rd10_e pt10_e := rdC_ok ((rb10_e_ok n).m mk10_e (pat' := pt10_e) fun _ => rfl)
noncomputable def o10 (x : E10) : Out := match (match outOf Tryz.prog 10 (pt10_e x) with
    | some ds => some (Out.mk (resA ds) (keepR (pt10_e x).R 0 (resA ds)) (pt10_e x).nx)
    | none => none) with
  | some o => o
  | none => ⟨.tup [], [], 0⟩
theorem fnok10 : fnOk Tryz.prog 10 := ⟨_, Tryz.func10, by kernel_rfl, by kernel_rfl⟩
def m10 : E10 := true
def Gv10 : Prop := FnY Tryz.prog 10 [] [] 0 (o10 m10)
noncomputable def e10 (F : Orc) : Orc := orL 10 false pkN (fun g => some m10 : (Unit) → Option E10) o10 F
theorem e10_okv (hv : Gv10) {F : Orc} (h : OrcG Tryz.prog F) : OrcG Tryz.prog (e10 F) := orL_g (sc := scU) h scU_ok fnok10 (ca := fun g => []) (.nil : PkN pkN _) (fun b => by kernel_rfl) (fun b => by kernel_rfl) (fun g b hb => by cases hb; exact hv)
theorem e10_pure {F : Orc} {f : Nat} (h : PureF F f) : PureF (e10 F) f := orL_pure h (fun b => by kernel_rfl)
theorem fnY_ofFn' {P : Program} {f : FuncId} {xs : List AV} {d : AV} (h : Iv.Fn P f xs [] (fun a s => a = d ∧ s = [])) (ha : ∀ ρ : Gh, xs.map (AVq.sub ρ) = xs) (hd : ∀ ρ : Gh, d.sub ρ = d) : FnY P f xs [] 0 ⟨d, [], 0⟩ := fun ρ => by
  rw [ha ρ]
  exact h.mono fun a s ⟨h1, h2⟩ => ⟨ρ, fun _ _ => ⟨rfl, rfl⟩, by rw [h1]; exact (hd ρ).symm, by rw [h2]; exact List.Perm.refl _⟩
theorem o10_eq : o10 m10 = ⟨.b true, [], 0⟩ := by kernel_rfl
theorem gv10 : Gv10 := by
  unfold Gv10
  rw [o10_eq]
  exact fnY_ofFn' (fn_run (callN_ok (P := Tryz.prog) (or0_g (P := Tryz.prog)).ok (or0_g (P := Tryz.prog)).nat 300 60) P0.b rfl (fun d hd => by cases hd) t10).2 (fun _ => rfl) (fun ρ => cloB_sub 2 (by kernel_rfl))
/-! ### 19: slices.Equal[[]keyhole/api.Num,keyhole/api.Num] -/
noncomputable def F19 : Orc := or0
theorem F19_ok : OrcG Tryz.prog F19 := or0_g
structure L19_0 where
  t0 : List Num
  t1 : List Num
  t12 : Int
  t13 : Int
abbrev P19_0 : Type := ((List Num) × (List Num) × Int × Int × Unit) × (Unit)
noncomputable def rb19_0 : St → Option P19_0 := stR 0 (slC 0 (asL 34) (slC 1 (asL 34) (slC 12 (asI .i64) (slC 13 (asI .i64) slN)))) rsN
noncomputable def pb19_0 : P19_0 → St := stP 0 (fun z => [(0, .sl 34 z.1), (1, .sl 34 z.2.1), (12, .n .i64 z.2.2.1), (13, .n .i64 z.2.2.2.1)]) (fun z => [])
noncomputable def mk19_0 (z : P19_0) : L19_0 := ⟨z.1.1, z.1.2.1, z.1.2.2.1, z.1.2.2.2.1⟩
noncomputable def pt19_0 (x : L19_0) : St := pb19_0 ((x.t0, x.t1, x.t12, x.t13, ()), (()))
noncomputable def rd19_0 : St → Option L19_0 := rdC 0 [] [0, 1, 12, 13] (rdM mk19_0 rb19_0)
theorem rb19_0_ok (n : Nat) : RdOk 0 n rb19_0 pb19_0 := stR_ok (.cons (.l 34) (.cons (.l 34) (.cons (.i .i64) (.cons (.i .i64) .nil)))) .nil
theorem rd19_0_ok (n : Nat) : RdOk 0 n rd19_0 pt19_0 := rdC_ok ((rb19_0_ok n).m mk19_0 (pat' := pt19_0) fun _ => rfl)
noncomputable def n19_0 (p : L19_0) : Option (Option L19_0) :=
  bif decide (p.t13 < p.t12) then
    if (0 : Int) ≤ p.t13 ∧ p.t13 < (↑p.t0.length : Int) then
      if (0 : Int) ≤ p.t13 ∧ p.t13 < (↑p.t1.length : Int) then
        bif bif bif decide (p.t0[p.t13.toNat]!.fLow = p.t1[p.t13.toNat]!.fLow) then bif decide (p.t0[p.t13.toNat]!.fHigh = p.t1[p.t13.toNat]!.fHigh) then bif decide (p.t0[p.t13.toNat]!.fStep = p.t1[p.t13.toNat]!.fStep) then true else false else false else false then false else true then
          some (none)
        else
          some (some (L19_0.mk p.t0 p.t1 p.t12 (IntKind.i64.wrap (p.t13 + 1))))
      else
        none
    else
      none
  else
    some (none)
theorem q19_0 (p : L19_0) : execA Tryz.prog (F19) Tryz.f19.ntmps 300 (loopAt Tryz.f19 0) .no (Option L19_0) (pt19_0 p) (kOn rd19_0) = n19_0 p := by kernel_rfl
noncomputable def a19_0 : L19_0 → Option L19_0 := advG (n19_0)
abbrev E19 : Type := Bool
abbrev P19_e : Type := (Bool × Unit) × (Unit)
noncomputable def rb19_e : St → Option P19_e := stR 0 (slC 4 asB slN) rsN
noncomputable def pb19_e : P19_e → St := stP 0 (fun z => [(4, .b z.1)]) (fun z => [])
noncomputable def mk19_e (z : P19_e) : E19 := z.1.1
noncomputable def pt19_e (x : E19) : St := pb19_e ((x, ()), (()))
noncomputable def rd19_e : St → Option E19 := rdC 0 [] [4] (rdM mk19_e rb19_e)
theorem rb19_e_ok (n : Nat) : RdOk 0 n rb19_e pb19_e := stR_ok (.cons .b .nil) .nil
theorem rd19_e_ok (n : Nat) : RdOk 0 n rd19_e pt19_e := rdC_ok ((rb19_e_ok n).m mk19_e (pat' := pt19_e) fun _ => rfl)
noncomputable def an19 : An := (.two .no (.two .no (.two (.two .no (.lp L19_0 rd19_0 pt19_0 a19_0 .no)) .no)))
theorem fa19 : FnAn Tryz.prog (F19) 0 300 19 (an19) := fnAn_of (l := [(loopAt Tryz.f19 0, (.lp L19_0 rd19_0 pt19_0 a19_0 .no))]) Tryz.func19 (bodyOf_eq (by kernel_rfl)) (by kernel_rfl) fun p hp => by
  simp only [List.mem_cons, List.not_mem_nil, or_false] at hp
  rcases hp with rfl
  · exact ⟨rd19_0_ok _, advG_ok (q19_0)⟩
noncomputable def m19 (a0 : List Num) (a1 : List Num) : Option E19 :=
  bif bif decide ((↑a0.length : Int) = (↑a1.length : Int)) then false else true then
    some (false)
  else
    match a19_0 (L19_0.mk a0 a1 (↑a0.length : Int) (0)) with
    | none =>
      none
    | some r1 =>
      bif decide (r1.t13 < r1.t12) then
        if (0 : Int) ≤ r1.t13 ∧ r1.t13 < (↑r1.t0.length : Int) then
          if (0 : Int) ≤ r1.t13 ∧ r1.t13 < (↑r1.t1.length : Int) then
            bif bif bif decide (r1.t0[r1.t13.toNat]!.fLow = r1.t1[r1.t13.toNat]!.fLow) then bif decide (r1.t0[r1.t13.toNat]!.fHigh = r1.t1[r1.t13.toNat]!.fHigh) then bif decide (r1.t0[r1.t13.toNat]!.fStep = r1.t1[r1.t13.toNat]!.fStep) then true else false else false else false then false else true then
              some (false)
            else
              none
          else
            none
        else
          none
      else
        some (true)
theorem c19 (a0 : List Num) (a1 : List Num) : callR Tryz.prog (F19) 300 (an19) 19 [.sl 34 a0, .sl 34 a1] [] 0 rd19_e = m19 a0 a1 := by kernel_rfl
noncomputable def o19 (x : E19) : Out := match (match outOf Tryz.prog 19 (pt19_e x) with
    | some ds => some (Out.mk (resA ds) (keepR (pt19_e x).R 0 (resA ds)) (pt19_e x).nx)
    | none => none) with
  | some o => o
  | none => ⟨.tup [], [], 0⟩
theorem fn19 (a0 : List Num) (a1 : List Num) (r : E19) (h : m19 a0 a1 = some r) : fnOk Tryz.prog 19 ∧ FnY Tryz.prog 19 [.sl 34 a0, .sl 34 a1] [] 0 (o19 r) :=
  fnY_of (p := r) F19_ok (fa19) rd19_e_ok (fun p => by kernel_rfl) (ltd_of (by kernel_rfl)) (rltd_of (by kernel_rfl)) ((c19 a0 a1).trans h)
theorem fnok19 : fnOk Tryz.prog 19 := ⟨_, Tryz.func19, by kernel_rfl, by kernel_rfl⟩
noncomputable def e19 (F : Orc) : Orc := orL 19 false (pkC (asL 34) (pkC (asL 34) pkN)) (fun g => m19 g.1 g.2.1 : ((List Num) × (List Num) × Unit) → Option E19) o19 F
theorem e19_ok {F : Orc} (h : OrcG Tryz.prog F) : OrcG Tryz.prog (e19 F) := orL_g (sc := scU) h scU_ok fnok19 (ca := fun g => [.sl 34 g.1, .sl 34 g.2.1]) ((.cons (.l 34) (.cons (.l 34) .nil)) : PkN (pkC (asL 34) (pkC (asL 34) pkN)) _) (fun b => by kernel_rfl) (fun b => by kernel_rfl) (fun g b hb => (fn19 g.1 g.2.1 b hb).2)
theorem e19_pure {F : Orc} {f : Nat} (h : PureF F f) : PureF (e19 F) f := orL_pure h (fun b => by kernel_rfl)
/-! ### 78: keyhole/keyholeref35.None -/
noncomputable def F78 : Orc := or0
theorem F78_ok : OrcG Tryz.prog F78 := or0_g
abbrev E78 : Type := Num
abbrev P78_e : Type := (Unit × Unit) × (Num × Unit)
noncomputable def rb78_e : St → Option P78_e := stR 1 (slC 0 (asP 0 0) slN) (rsN2 0 34 (asCs 34) rsN)
noncomputable def pb78_e : P78_e → St := stP 1 (fun z => [(0, .ptr 0 0)]) (fun z => [(0, .box 34 (uni.cells 34 z.1))])
noncomputable def mk78_e (z : P78_e) : E78 := z.2.1
noncomputable def pt78_e (x : E78) : St := pb78_e (((), ()), (x, ()))
noncomputable def rd78_e : St → Option E78 := rdC 0 [] [0] (rdM mk78_e rb78_e)
theorem rb78_e_ok (n : Nat) : RdOk 0 n rb78_e pb78_e := stR_ok (.cons (.p 0 0) .nil) (.boxN (PkN.parse 34) .nil)
theorem rd78_e_ok (n : Nat) : RdOk 0 n rd78_e pt78_e := rdC_ok ((rb78_e_ok n).m mk78_e (pat' := pt78_e) fun _ => rfl)
noncomputable def an78 : An := .no
theorem fa78 : FnAn Tryz.prog (F78) 0 300 78 (an78) := fnAn_of (l := []) Tryz.func78 (bodyOf_eq (by kernel_rfl)) (by kernel_rfl) fun p hp => by
  cases hp
noncomputable def m78  : E78 :=
  Num.mk (1) (0) (0)
theorem c78  : callR Tryz.prog (F78) 300 (an78) 78 [] [] 0 rd78_e = some (m78 ) := by kernel_rfl
noncomputable def o78 (x : E78) : Out := match (match outOf Tryz.prog 78 (pt78_e x) with
    | some ds => some (Out.mk (resA ds) (keepR (pt78_e x).R 0 (resA ds)) (pt78_e x).nx)
    | none => none) with
  | some o => o
  | none => ⟨.tup [], [], 0⟩
theorem fn78  (r : E78) (h : m78  = r) : fnOk Tryz.prog 78 ∧ FnY Tryz.prog 78 [] [] 0 (o78 r) :=
  fnY_of (p := r) F78_ok (fa78) rd78_e_ok (fun p => by kernel_rfl) (ltd_of (by kernel_rfl)) (rltd_of (by kernel_rfl)) ((c78 ).trans (congrArg some h))
theorem fnok78 : fnOk Tryz.prog 78 := ⟨_, Tryz.func78, by kernel_rfl, by kernel_rfl⟩
noncomputable def e78 (F : Orc) : Orc := orL 78 false pkN (fun g => some (m78 ) : (Unit) → Option E78) o78 F
theorem e78_ok {F : Orc} (h : OrcG Tryz.prog F) : OrcG Tryz.prog (e78 F) := orL_g (sc := scU) h scU_ok fnok78 (ca := fun g => []) (.nil : PkN pkN _) (fun b => by kernel_rfl) (fun b => by kernel_rfl) (fun g b hb => (fn78  b (Option.some.inj hb)).2)
theorem e78_pure {F : Orc} {f : Nat} (h : PureF F f) : PureF (e78 F) f := orL_pure h (fun b => by kernel_rfl)
/-! ### 97: keyhole/keyholeref35.Fits -/
noncomputable def F97 : Orc := or0
theorem F97_ok : OrcG Tryz.prog F97 := or0_g
abbrev E97 : Type := Bool
abbrev P97_e : Type := (Bool × Unit) × (Unit)
noncomputable def rb97_e : St → Option P97_e := stR 0 (slC 2 asB slN) rsN
noncomputable def pb97_e : P97_e → St := stP 0 (fun z => [(2, .b z.1)]) (fun z => [])
noncomputable def mk97_e (z : P97_e) : E97 := z.1.1
noncomputable def pt97_e (x : E97) : St := pb97_e ((x, ()), (()))
noncomputable def rd97_e : St → Option E97 := rdC 0 [] [2] (rdM mk97_e rb97_e)
theorem rb97_e_ok (n : Nat) : RdOk 0 n rb97_e pb97_e := stR_ok (.cons .b .nil) .nil
theorem rd97_e_ok (n : Nat) : RdOk 0 n rd97_e pt97_e := rdC_ok ((rb97_e_ok n).m mk97_e (pat' := pt97_e) fun _ => rfl)
noncomputable def an97 : An := (.two .no (.two (.rb [] 2) .no))
theorem pu97  : ∀ f ∈ ([] : List Nat), PureF (F97) f := fun f hf => by
  cases hf
theorem fa97 : FnAn Tryz.prog (F97) 0 300 97 (an97) := fnAn_of (l := [(.skip, (.rb [] 2))]) Tryz.func97 (bodyOf_eq (by kernel_rfl)) (by kernel_rfl) fun p hp => by
  simp only [List.mem_cons, List.not_mem_nil, or_false] at hp
  rcases hp with rfl
  · exact pu97
noncomputable def m97 (a0 : Int) : E97 :=
  let r1 : Bool := bif decide (-1099511627776 ≤ a0) then
    decide (a0 ≤ 1099511627776)
  else
    false
  r1
theorem c97 (a0 : Int) : callR Tryz.prog (F97) 300 (an97) 97 [.n .i64 a0] [] 0 rd97_e = some (m97 a0) := by
  refine Eq.trans (b := (
    match bif decide (-1099511627776 ≤ a0) then
      some (decide (a0 ≤ 1099511627776))
    else
      some (false) with
    | none =>
      none
    | some r1 =>
      some (r1) : Option E97)) (by kernel_rfl) ?_
  simp only [m97, cond_some, ite_some]
noncomputable def o97 (x : E97) : Out := match (match outOf Tryz.prog 97 (pt97_e x) with
    | some ds => some (Out.mk (resA ds) (keepR (pt97_e x).R 0 (resA ds)) (pt97_e x).nx)
    | none => none) with
  | some o => o
  | none => ⟨.tup [], [], 0⟩
theorem fn97 (a0 : Int) (r : E97) (h : m97 a0 = r) : fnOk Tryz.prog 97 ∧ FnY Tryz.prog 97 [.n .i64 a0] [] 0 (o97 r) :=
  fnY_of (p := r) F97_ok (fa97) rd97_e_ok (fun p => by kernel_rfl) (ltd_of (by kernel_rfl)) (rltd_of (by kernel_rfl)) ((c97 a0).trans (congrArg some h))
theorem fnok97 : fnOk Tryz.prog 97 := ⟨_, Tryz.func97, by kernel_rfl, by kernel_rfl⟩
noncomputable def e97 (F : Orc) : Orc := orL 97 false (pkC (asI .i64) pkN) (fun g => some (m97 g.1) : (Int × Unit) → Option E97) o97 F
theorem e97_ok {F : Orc} (h : OrcG Tryz.prog F) : OrcG Tryz.prog (e97 F) := orL_g (sc := scU) h scU_ok fnok97 (ca := fun g => [.n .i64 g.1]) ((.cons (.i .i64) .nil) : PkN (pkC (asI .i64) pkN) _) (fun b => by kernel_rfl) (fun b => by kernel_rfl) (fun g b hb => (fn97 g.1 b (Option.some.inj hb)).2)
theorem e97_pure {F : Orc} {f : Nat} (h : PureF F f) : PureF (e97 F) f := orL_pure h (fun b => by kernel_rfl)
/-! ### 65: keyhole/keyholeref35.Make -/
noncomputable def F65 : Orc := (e97 (e78 or0))
theorem F65_ok : OrcG Tryz.prog F65 := (e97_ok (e78_ok or0_g))
abbrev E65 : Type := Num × Int
abbrev P65_e : Type := (Unit × Int × Unit) × (Num × Unit)
noncomputable def rb65_e : St → Option P65_e := stR 1 (slC 6 (asP 0 0) (slC 7 (asI .i64) slN)) (rsN2 0 34 (asCs 34) rsN)
noncomputable def pb65_e : P65_e → St := stP 1 (fun z => [(6, .ptr 0 0), (7, .n .i64 z.2.1)]) (fun z => [(0, .box 34 (uni.cells 34 z.1))])
noncomputable def mk65_e (z : P65_e) : E65 := (z.2.1, z.1.2.1)
noncomputable def pt65_e (x : E65) : St := pb65_e (((), x.2, ()), (x.1, ()))
noncomputable def rd65_e : St → Option E65 := rdC 0 [] [6, 7] (rdM mk65_e rb65_e)
theorem rb65_e_ok (n : Nat) : RdOk 0 n rb65_e pb65_e := stR_ok (.cons (.p 0 0) (.cons (.i .i64) .nil)) (.boxN (PkN.parse 34) .nil)
theorem rd65_e_ok (n : Nat) : RdOk 0 n rd65_e pt65_e := rdC_ok ((rb65_e_ok n).m mk65_e (pat' := pt65_e) fun _ => rfl)
noncomputable def an65 : An := (.two .no (.two (.two (.rb [97] 19) .no) .no))
theorem pu65  : ∀ f ∈ ([97] : List Nat), PureF (F65) f := fun f hf => by
  simp only [List.mem_cons, List.not_mem_nil, or_false] at hf
  rcases hf with rfl
  · exact (e97_pure (e78_pure or0_pure))
theorem fa65 : FnAn Tryz.prog (F65) 0 300 65 (an65) := fnAn_of (l := [(.skip, (.rb [97] 19))]) Tryz.func65 (bodyOf_eq (by kernel_rfl)) (by kernel_rfl) fun p hp => by
  simp only [List.mem_cons, List.not_mem_nil, or_false] at hp
  rcases hp with rfl
  · exact pu65
noncomputable def m65 (a0 : Int) (a1 : Int) (a2 : Int) : Option E65 :=
  match bif bif m97 a0 then false else true then
    some (true)
  else
    bif bif m97 a1 then false else true then
      some (true)
    else
      some (decide (a2 < 1)) with
  | none =>
    none
  | some r1 =>
    bif r1 then
      some ((Num.mk (0) (0) (0), 3))
    else
      bif decide (a1 < a0) then
        some ((m78, 0))
      else
        if ¬a2 = (0 : Int) then
          bif decide (a0 = IntKind.i64.wrap (a0 + IntKind.i64.wrap (IntKind.i64.wrap ((IntKind.i64.wrap (a1 - a0)).tdiv a2) * a2))) then
            some ((Num.mk a0 (IntKind.i64.wrap (a0 + IntKind.i64.wrap (IntKind.i64.wrap ((IntKind.i64.wrap (a1 - a0)).tdiv a2) * a2))) (0), 0))
          else
            some ((Num.mk a0 (IntKind.i64.wrap (a0 + IntKind.i64.wrap (IntKind.i64.wrap ((IntKind.i64.wrap (a1 - a0)).tdiv a2) * a2))) a2, 0))
        else
          none
theorem c65 (a0 : Int) (a1 : Int) (a2 : Int) : callR Tryz.prog (F65) 300 (an65) 65 [.n .i64 a0, .n .i64 a1, .n .i64 a2] [] 0 rd65_e = m65 a0 a1 a2 := by kernel_rfl
noncomputable def o65 (x : E65) : Out := match (match outOf Tryz.prog 65 (pt65_e x) with
    | some ds => some (Out.mk (resA ds) (keepR (pt65_e x).R 0 (resA ds)) (pt65_e x).nx)
    | none => none) with
  | some o => o
  | none => ⟨.tup [], [], 0⟩
theorem fn65 (a0 : Int) (a1 : Int) (a2 : Int) (r : E65) (h : m65 a0 a1 a2 = some r) : fnOk Tryz.prog 65 ∧ FnY Tryz.prog 65 [.n .i64 a0, .n .i64 a1, .n .i64 a2] [] 0 (o65 r) :=
  fnY_of (p := r) F65_ok (fa65) rd65_e_ok (fun p => by kernel_rfl) (ltd_of (by kernel_rfl)) (rltd_of (by kernel_rfl)) ((c65 a0 a1 a2).trans h)
theorem fnok65 : fnOk Tryz.prog 65 := ⟨_, Tryz.func65, by kernel_rfl, by kernel_rfl⟩
noncomputable def e65 (F : Orc) : Orc := orL 65 false (pkC (asI .i64) (pkC (asI .i64) (pkC (asI .i64) pkN))) (fun g => m65 g.1 g.2.1 g.2.2.1 : (Int × Int × Int × Unit) → Option E65) o65 F
theorem e65_ok {F : Orc} (h : OrcG Tryz.prog F) : OrcG Tryz.prog (e65 F) := orL_g (sc := scU) h scU_ok fnok65 (ca := fun g => [.n .i64 g.1, .n .i64 g.2.1, .n .i64 g.2.2.1]) ((.cons (.i .i64) (.cons (.i .i64) (.cons (.i .i64) .nil))) : PkN (pkC (asI .i64) (pkC (asI .i64) (pkC (asI .i64) pkN))) _) (fun b => by kernel_rfl) (fun b => by kernel_rfl) (fun g b hb => (fn65 g.1 g.2.1 g.2.2.1 b hb).2)
theorem e65_pure {F : Orc} {f : Nat} (h : PureF F f) : PureF (e65 F) f := orL_pure h (fun b => by kernel_rfl)
/-! ### 20: keyhole/keyholelaw36.boxOf -/
noncomputable def F20 : Orc := (e65 or0)
theorem F20_ok : OrcG Tryz.prog F20 := (e65_ok or0_g)
structure L20_1 where
  t3 : List Num
  t5 : Int
  t10 : List Int
  t11 : Int
  t12 : Int
  t17 : List GVar
  t18 : Int
  t19 : Int
  b0 : Flat
abbrev P20_1 : Type := (Unit × Unit × Int × Unit × Int × Int × (List GVar) × Int × Int × Unit) × (Flat × (List Num) × (List Int) × Unit)
noncomputable def rb20_1 : St → Option P20_1 := stR 3 (slC 1 (asP 0 0) (slC 3 (asO 1) (slC 5 (asI .i64) (slC 10 (asO 2) (slC 11 (asI .i64) (slC 12 (asI .i64) (slC 17 (asL 91) (slC 18 (asI .i64) (slC 19 (asI .i64) slN))))))))) (rsN2 0 26 (asCs 26) (rsR 1 34 (rsR 2 89 rsN)))
noncomputable def pb20_1 : P20_1 → St := stP 3 (fun z => [(1, .ptr 0 0), (3, .own 1), (5, .n .i64 z.2.2.1), (10, .own 2), (11, .n .i64 z.2.2.2.2.1), (12, .n .i64 z.2.2.2.2.2.1), (17, .sl 91 z.2.2.2.2.2.2.1), (18, .n .i64 z.2.2.2.2.2.2.2.1), (19, .n .i64 z.2.2.2.2.2.2.2.2.1)]) (fun z => [(0, .box 26 (uni.cells 26 z.1)), (1, .row 34 z.2.1), (2, .row 89 z.2.2.1)])
noncomputable def mk20_1 (z : P20_1) : L20_1 := ⟨z.2.2.1, z.1.2.2.1, z.2.2.2.1, z.1.2.2.2.2.1, z.1.2.2.2.2.2.1, z.1.2.2.2.2.2.2.1, z.1.2.2.2.2.2.2.2.1, z.1.2.2.2.2.2.2.2.2.1, z.2.1⟩
noncomputable def pt20_1 (x : L20_1) : St := pb20_1 (((), (), x.t5, (), x.t11, x.t12, x.t17, x.t18, x.t19, ()), (x.b0, x.t3, x.t10, ()))
noncomputable def rd20_1 : St → Option L20_1 := rdC 0 [] [1, 3, 5, 10, 11, 12, 17, 18, 19] (rdM mk20_1 rb20_1)
theorem rb20_1_ok (n : Nat) : RdOk 0 n rb20_1 pb20_1 := stR_ok (.cons (.p 0 0) (.cons (.o 1) (.cons (.i .i64) (.cons (.o 2) (.cons (.i .i64) (.cons (.i .i64) (.cons (.l 91) (.cons (.i .i64) (.cons (.i .i64) .nil))))))))) (.boxN (PkN.parse 26) (.row (.row .nil)))
theorem rd20_1_ok (n : Nat) : RdOk 0 n rd20_1 pt20_1 := rdC_ok ((rb20_1_ok n).m mk20_1 (pat' := pt20_1) fun _ => rfl)
noncomputable def n20_1 (p : L20_1) : Option (Option L20_1) :=
  bif decide (p.t19 < p.t18) then
    if (0 : Int) ≤ p.t19 ∧ p.t19 < (↑p.t17.length : Int) then
      bif decide (p.t17[p.t19.toNat]!.fKind = p.t5) then
        match m65 p.t17[p.t19.toNat]!.fLow p.t17[p.t19.toNat]!.fHigh (1) with
        | none =>
          none
        | some r3 =>
          if (p.t3 ++ [r3.fst]).length ≤ 1073741824 then
            some (some (L20_1.mk (p.t3 ++ [r3.fst]) p.t5 p.t10 p.t11 p.t12 p.t17 p.t18 (IntKind.i64.wrap (p.t19 + 1)) p.b0))
          else
            none
      else
        some (some (L20_1.mk p.t3 p.t5 p.t10 p.t11 p.t12 p.t17 p.t18 (IntKind.i64.wrap (p.t19 + 1)) p.b0))
    else
      none
  else
    some (none)
theorem q20_1 (p : L20_1) : execA Tryz.prog (F20) Tryz.f20.ntmps 300 (loopAt Tryz.f20 1) .no (Option L20_1) (pt20_1 p) (kOn rd20_1) = n20_1 p := by kernel_rfl
noncomputable def a20_1 : L20_1 → Option L20_1 := advG (n20_1)
structure L20_0 where
  t3 : List Num
  t10 : List Int
  t11 : Int
  t12 : Int
  b0 : Flat
abbrev P20_0 : Type := (Unit × Unit × Unit × Int × Int × Unit) × (Flat × (List Num) × (List Int) × Unit)
noncomputable def rb20_0 : St → Option P20_0 := stR 3 (slC 1 (asP 0 0) (slC 3 (asO 1) (slC 10 (asO 2) (slC 11 (asI .i64) (slC 12 (asI .i64) slN))))) (rsN2 0 26 (asCs 26) (rsR 1 34 (rsR 2 89 rsN)))
noncomputable def pb20_0 : P20_0 → St := stP 3 (fun z => [(1, .ptr 0 0), (3, .own 1), (10, .own 2), (11, .n .i64 z.2.2.2.1), (12, .n .i64 z.2.2.2.2.1)]) (fun z => [(0, .box 26 (uni.cells 26 z.1)), (1, .row 34 z.2.1), (2, .row 89 z.2.2.1)])
noncomputable def mk20_0 (z : P20_0) : L20_0 := ⟨z.2.2.1, z.2.2.2.1, z.1.2.2.2.1, z.1.2.2.2.2.1, z.2.1⟩
noncomputable def pt20_0 (x : L20_0) : St := pb20_0 (((), (), (), x.t11, x.t12, ()), (x.b0, x.t3, x.t10, ()))
noncomputable def rd20_0 : St → Option L20_0 := rdC 0 [] [1, 3, 10, 11, 12] (rdF (ownS 3 [] 34) (rdC 0 [] [1, 3, 10, 11, 12] (rdM mk20_0 rb20_0)))
theorem rb20_0_ok (n : Nat) : RdOk 0 n rb20_0 pb20_0 := stR_ok (.cons (.p 0 0) (.cons (.o 1) (.cons (.o 2) (.cons (.i .i64) (.cons (.i .i64) .nil))))) (.boxN (PkN.parse 26) (.row (.row .nil)))
theorem rd20_0_ok (n : Nat) : RdOk 0 n rd20_0 pt20_0 := rdC_ok (rdF_ok (.s 3 [] 34) (rdC_ok ((rb20_0_ok n).m mk20_0 (pat' := pt20_0) fun _ => rfl)))
noncomputable def n20_0 (p : L20_0) : Option (Option L20_0) :=
  bif decide (p.t12 < p.t11) then
    if (0 : Int) ≤ p.t12 ∧ p.t12 < (↑p.t10.length : Int) then
      if 89 = 89 ∧ p.t12.toNat < p.t10.length then
        match a20_1 (L20_1.mk p.t3 p.t10[p.t12.toNat]! p.t10 p.t11 p.t12 p.b0.fVars (↑p.b0.fVars.length : Int) (0) p.b0) with
        | none =>
          none
        | some r1 =>
          bif decide (r1.t19 < r1.t18) then
            if (0 : Int) ≤ r1.t19 ∧ r1.t19 < (↑r1.t17.length : Int) then
              bif decide (r1.t17[r1.t19.toNat]!.fKind = r1.t5) then
                match m65 r1.t17[r1.t19.toNat]!.fLow r1.t17[r1.t19.toNat]!.fHigh (1) with
                | none =>
                  none
                | some r2 =>
                  if (r1.t3 ++ [r2.fst]).length ≤ 1073741824 then
                    none
                  else
                    none
              else
                none
            else
              none
          else
            some (some (L20_0.mk r1.t3 r1.t10 r1.t11 (IntKind.i64.wrap (r1.t12 + 1)) r1.b0))
      else
        none
    else
      none
  else
    some (none)
theorem q20_0 (p : L20_0) : execA Tryz.prog (F20) Tryz.f20.ntmps 300 (loopAt Tryz.f20 0) (.two .no (.two .no (.two (.two .no (.two .no (.lp L20_1 rd20_1 pt20_1 a20_1 .no))) .no))) (Option L20_0) (pt20_0 p) (kOn rd20_0) = n20_0 p := by kernel_rfl
noncomputable def a20_0 : L20_0 → Option L20_0 := advG (n20_0)
abbrev E20 : Type := List Num
abbrev P20_e : Type := (Unit × Unit) × ((List Num) × Unit)
noncomputable def rb20_e : St → Option P20_e := stR 1 (slC 2 (asO 0) slN) (rsR 0 34 rsN)
noncomputable def pb20_e : P20_e → St := stP 1 (fun z => [(2, .own 0)]) (fun z => [(0, .row 34 z.1)])
noncomputable def mk20_e (z : P20_e) : E20 := z.2.1
noncomputable def pt20_e (x : E20) : St := pb20_e (((), ()), (x, ()))
noncomputable def rd20_e : St → Option E20 := rdC 0 [] [2] (rdM mk20_e rb20_e)
theorem rb20_e_ok (n : Nat) : RdOk 0 n rb20_e pb20_e := stR_ok (.cons (.o 0) .nil) (.row .nil)
theorem rd20_e_ok (n : Nat) : RdOk 0 n rd20_e pt20_e := rdC_ok ((rb20_e_ok n).m mk20_e (pat' := pt20_e) fun _ => rfl)
noncomputable def an20 : An := (.two .no (.two .no (.two (.two .no (.lp L20_0 rd20_0 pt20_0 a20_0 (.two .no (.two .no (.two (.two .no (.two .no (.lp L20_1 rd20_1 pt20_1 a20_1 .no))) .no))))) .no)))
theorem fa20 : FnAn Tryz.prog (F20) 0 300 20 (an20) := fnAn_of (l := [(loopAt Tryz.f20 0, (.lp L20_0 rd20_0 pt20_0 a20_0 (.two .no (.two .no (.two (.two .no (.two .no (.lp L20_1 rd20_1 pt20_1 a20_1 .no))) .no))))), (loopAt Tryz.f20 1, (.lp L20_1 rd20_1 pt20_1 a20_1 .no))]) Tryz.func20 (bodyOf_eq (by kernel_rfl)) (by kernel_rfl) fun p hp => by
  simp only [List.mem_cons, List.not_mem_nil, or_false] at hp
  rcases hp with rfl | rfl
  · exact ⟨rd20_0_ok _, advG_ok (q20_0)⟩
  · exact ⟨rd20_1_ok _, advG_ok (q20_1)⟩
noncomputable def m20 (a0 : Flat) : Option E20 :=
  match a20_0 (L20_0.mk [] [1, 3] (↑2 : Int) (0) a0) with
  | none =>
    none
  | some r4 =>
    bif decide (r4.t12 < r4.t11) then
      if (0 : Int) ≤ r4.t12 ∧ r4.t12 < (↑r4.t10.length : Int) then
        if 89 = 89 ∧ r4.t12.toNat < r4.t10.length then
          match a20_1 (L20_1.mk r4.t3 r4.t10[r4.t12.toNat]! r4.t10 r4.t11 r4.t12 r4.b0.fVars (↑r4.b0.fVars.length : Int) (0) r4.b0) with
          | none =>
            none
          | some r5 =>
            bif decide (r5.t19 < r5.t18) then
              if (0 : Int) ≤ r5.t19 ∧ r5.t19 < (↑r5.t17.length : Int) then
                bif decide (r5.t17[r5.t19.toNat]!.fKind = r5.t5) then
                  match m65 r5.t17[r5.t19.toNat]!.fLow r5.t17[r5.t19.toNat]!.fHigh (1) with
                  | none =>
                    none
                  | some r6 =>
                    if (r5.t3 ++ [r6.fst]).length ≤ 1073741824 then
                      none
                    else
                      none
                else
                  none
              else
                none
            else
              none
        else
          none
      else
        none
    else
      some (r4.t3)
theorem c20 (a0 : Flat) : callR Tryz.prog (F20) 300 (an20) 20 [.agg (uni.cells 26 a0)] [] 0 rd20_e = m20 a0 := by kernel_rfl
noncomputable def o20 (x : E20) : Out := match (match outOf Tryz.prog 20 (pt20_e x) with
    | some ds => some (Out.mk (resA ds) (keepR (pt20_e x).R 0 (resA ds)) (pt20_e x).nx)
    | none => none) with
  | some o => o
  | none => ⟨.tup [], [], 0⟩
theorem fn20 (a0 : Flat) (r : E20) (h : m20 a0 = some r) : fnOk Tryz.prog 20 ∧ FnY Tryz.prog 20 [.agg (uni.cells 26 a0)] [] 0 (o20 r) :=
  fnY_of (p := r) F20_ok (fa20) rd20_e_ok (fun p => by kernel_rfl) (ltd_of (by kernel_rfl)) (rltd_of (by kernel_rfl)) ((c20 a0).trans h)
theorem fnok20 : fnOk Tryz.prog 20 := ⟨_, Tryz.func20, by kernel_rfl, by kernel_rfl⟩
noncomputable def e20 (F : Orc) : Orc := orL 20 false (pkC (asGc 26) pkN) (fun g => m20 g.1 : (Flat × Unit) → Option E20) o20 F
theorem e20_ok {F : Orc} (h : OrcG Tryz.prog F) : OrcG Tryz.prog (e20 F) := orL_g (sc := scU) h scU_ok fnok20 (ca := fun g => [.agg (uni.cells 26 g.1)]) ((.cons (.g 26) .nil) : PkN (pkC (asGc 26) pkN) _) (fun b => by kernel_rfl) (fun b => by kernel_rfl) (fun g b hb => (fn20 g.1 b hb).2)
theorem e20_skip {F : Orc} {f : Nat} (hne : Nat.beq f 20 = false) (h : PureF F f) : PureF (e20 F) f := orL_skip hne h
/-! ### 4: keyhole/keyholelaw36.AbstractWholes -/
noncomputable def F4 : Orc := (e20 (e19 (e18 (e17 (e16 (e10 or0))))))
theorem F4_ok : OrcG Tryz.prog F4 := (e20_ok (e19_ok (e18_ok (e17_ok (e16_ok (e10_okv gv10 or0_g))))))
abbrev E4 : Type := Bool
abbrev P4_e : Type := (Bool × Unit) × (Unit)
noncomputable def rb4_e : St → Option P4_e := stR 0 (slC 2 asB slN) rsN
noncomputable def pb4_e : P4_e → St := stP 0 (fun z => [(2, .b z.1)]) (fun z => [])
noncomputable def mk4_e (z : P4_e) : E4 := z.1.1
noncomputable def pt4_e (x : E4) : St := pb4_e ((x, ()), (()))
noncomputable def rd4_e : St → Option E4 := rdC 0 [] [2] (rdM mk4_e rb4_e)
theorem rb4_e_ok (n : Nat) : RdOk 0 n rb4_e pb4_e := stR_ok (.cons .b .nil) .nil
theorem rd4_e_ok (n : Nat) : RdOk 0 n rd4_e pt4_e := rdC_ok ((rb4_e_ok n).m mk4_e (pat' := pt4_e) fun _ => rfl)
noncomputable def an4 : An := (.two .no (.two .no (.two .no (.two .no (.two (.two .no (.two .no (.two (.two (.rb [] 2) .no) .no))) .no)))))
theorem pu4  : ∀ f ∈ ([] : List Nat), PureF (F4) f := fun f hf => by
  cases hf
theorem fa4 : FnAn Tryz.prog (F4) 0 300 4 (an4) := fnAn_of (l := [(.skip, (.rb [] 2))]) Tryz.func4 (bodyOf_eq (by kernel_rfl)) (by kernel_rfl) fun p hp => by
  simp only [List.mem_cons, List.not_mem_nil, or_false] at hp
  rcases hp with rfl
  · exact pu4
noncomputable def m4 (a0 : Flat) : Option E4 :=
  bif bif m10 then false else true then
    some (false)
  else
    match m16 a0 (70) (300) with
    | none =>
      none
    | some r1 =>
      bif bif r1 then false else true then
        some (true)
      else
        match m17 a0 with
        | none =>
          none
        | some r2 =>
          match m18 a0 with
          | none =>
            none
          | some r3 =>
            bif bif decide (r3 = 0) then false else true then
              match bif decide (r2.snd = r3) then
                some (decide ((↑r2.fst.length : Int) = 0))
              else
                some (false) with
              | none =>
                none
              | some r4 =>
                some (r4)
            else
              bif decide (r2.snd = 0) then
                match m20 a0 with
                | none =>
                  none
                | some r5 =>
                  match m19 r2.fst r5 with
                  | none =>
                    none
                  | some r6 =>
                    some (r6)
              else
                some (false)
theorem c4 (a0 : Flat) : callR Tryz.prog (F4) 300 (an4) 4 [.agg (uni.cells 26 a0)] [] 0 rd4_e = m4 a0 := by kernel_rfl
noncomputable def o4 (x : E4) : Out := match (match outOf Tryz.prog 4 (pt4_e x) with
    | some ds => some (Out.mk (resA ds) (keepR (pt4_e x).R 0 (resA ds)) (pt4_e x).nx)
    | none => none) with
  | some o => o
  | none => ⟨.tup [], [], 0⟩
theorem fn4 (a0 : Flat) (r : E4) (h : m4 a0 = some r) : fnOk Tryz.prog 4 ∧ FnY Tryz.prog 4 [.agg (uni.cells 26 a0)] [] 0 (o4 r) :=
  fnY_of (p := r) F4_ok (fa4) rd4_e_ok (fun p => by kernel_rfl) (ltd_of (by kernel_rfl)) (rltd_of (by kernel_rfl)) ((c4 a0).trans h)
theorem fnok4 : fnOk Tryz.prog 4 := ⟨_, Tryz.func4, by kernel_rfl, by kernel_rfl⟩
noncomputable def e4 (F : Orc) : Orc := orL 4 false (pkC (asGc 26) pkN) (fun g => m4 g.1 : (Flat × Unit) → Option E4) o4 F
theorem e4_ok {F : Orc} (h : OrcG Tryz.prog F) : OrcG Tryz.prog (e4 F) := orL_g (sc := scU) h scU_ok fnok4 (ca := fun g => [.agg (uni.cells 26 g.1)]) ((.cons (.g 26) .nil) : PkN (pkC (asGc 26) pkN) _) (fun b => by kernel_rfl) (fun b => by kernel_rfl) (fun g b hb => (fn4 g.1 b hb).2)
theorem e4_pure {F : Orc} {f : Nat} (h : PureF F f) : PureF (e4 F) f := orL_pure h (fun b => by kernel_rfl)
end Go.Proofs.YtaonipoflmbhgaaGreat
end
section
set_option linter.unusedSectionVars false
set_option linter.unusedVariables false
set_option linter.unusedSimpArgs false
namespace Go.Proofs.YtaonipoflmbhgaaGreat
open Go Go.Iv

/-- the range of a variable -/
def numV (v : GVar) : Num := if v.fLow = v.fHigh then ⟨v.fLow, v.fLow, 0⟩ else ⟨v.fLow, v.fHigh, 1⟩
theorem span1 {a b : Int} (h : -1048576 ≤ a ∧ a ≤ b ∧ b ≤ 1048576) : IntKind.i64.wrap (a + IntKind.i64.wrap (IntKind.i64.wrap ((IntKind.i64.wrap (b - a)).tdiv 1) * 1)) = b := by
  have w1 : IntKind.i64.wrap (b - a) = b - a := wrap_id (by omega) (by omega)
  rw [w1, Int.tdiv_one, w1, Int.mul_one, w1, wrap_id (by omega) (by omega)]
  omega
theorem m57_eq {v : GVar} (h : -1048576 ≤ v.fLow ∧ v.fLow ≤ v.fHigh ∧ v.fHigh ≤ 1048576) : m57 v.fLow v.fHigh = some (numV v, 0) := by
  unfold m57 m115 m137 m80 m84 numV
  rw [span1 h]
  have d1 : decide (-1099511627776 ≤ v.fLow) = true := decide_eq_true (by omega)
  have d2 : decide (v.fLow ≤ 1099511627776) = true := decide_eq_true (by omega)
  have d3 : decide (-1099511627776 ≤ v.fHigh) = true := decide_eq_true (by omega)
  have d4 : decide (v.fHigh ≤ 1099511627776) = true := decide_eq_true (by omega)
  have d5 : decide (v.fHigh < v.fLow) = false := decide_eq_false (by omega)
  by_cases he : v.fLow = v.fHigh
  · simp [d1, d2, d3, d4, d5, he]
  · simp [d1, d2, d3, d4, d5, he]
theorem m65_eq {v : GVar} (h : -1048576 ≤ v.fLow ∧ v.fLow ≤ v.fHigh ∧ v.fHigh ≤ 1048576) : m65 v.fLow v.fHigh 1 = some (numV v, 0) := by
  unfold m65 m97 numV
  rw [span1 h]
  have d1 : decide (-1099511627776 ≤ v.fLow) = true := decide_eq_true (by omega)
  have d2 : decide (v.fLow ≤ 1099511627776) = true := decide_eq_true (by omega)
  have d3 : decide (-1099511627776 ≤ v.fHigh) = true := decide_eq_true (by omega)
  have d4 : decide (v.fHigh ≤ 1099511627776) = true := decide_eq_true (by omega)
  have d5 : decide (v.fHigh < v.fLow) = false := decide_eq_false (by omega)
  by_cases he : v.fLow = v.fHigh
  · simp [d1, d2, d3, d4, d5, he]
  · simp [d1, d2, d3, d4, d5, he]
/-- the ranges of the variables of a kind -/
def boxK (kind : Int) (l : List GVar) : List Num := (l.filter fun v => decide (v.fKind = kind)).map numV
theorem boxK_snoc (kind : Int) (l : List GVar) (v : GVar) : boxK kind (l ++ [v]) = if v.fKind = kind then boxK kind l ++ [numV v] else boxK kind l := by
  unfold boxK
  rw [List.filter_append, List.map_append]
  by_cases h : v.fKind = kind <;> simp [h]
theorem boxK_len (kind : Int) (l : List GVar) : (boxK kind l).length ≤ l.length := by
  unfold boxK
  rw [List.length_map]
  exact List.length_filter_le _ _
theorem a17_1_eq (f : Flat) (hv : VarsOk f.fVars) (hl : f.fVars.length ≤ 1000000) (acc : List Num) (ha : acc.length ≤ 1000000) (kind : Int) (ks : List Int) (n i : Int) : a17_1 ⟨acc, kind, ks, n, i, f.fVars, (f.fVars.length : Int), 0, f⟩ = some ⟨acc ++ boxK kind f.fVars, kind, ks, n, i, f.fVars, (f.fVars.length : Int), (f.fVars.length : Int), f⟩ := by
  obtain ⟨v, e1, hV⟩ := loopI (rnd := n17_1) f.fVars.length (fun j (b : List Num) => ⟨b, kind, ks, n, i, f.fVars, (f.fVars.length : Int), (j : Int), f⟩) (fun j b => b = acc ++ boxK kind (f.fVars.take j)) (fun j b hj hb => by
    have hw := w1L hj hl
    have hm := m57_eq (hv _ (get_memL hj))
    have hlen := boxK_len kind (f.fVars.take j)
    rw [List.length_take] at hlen
    have hi1 : (j : Int) < (f.fVars.length : Int) := by omega
    have hi0 : (0 : Int) ≤ (j : Int) := by omega
    rw [take_succL hj, boxK_snoc]
    by_cases hk : f.fVars[j]!.fKind = kind
    · refine ⟨acc ++ (boxK kind (f.fVars.take j) ++ [numV f.fVars[j]!]), ?_, by rw [if_pos hk]⟩
      subst hb
      have hl2 : ((acc ++ boxK kind (f.fVars.take j)) ++ [numV f.fVars[j]!]).length ≤ 1073741824 := by
        rw [List.length_append, List.length_append, List.length_singleton]
        omega
      unfold n17_1
      dsimp only
      simp only [Int.toNat_natCast, hi1, hi0, decide_true, cond_true, and_self, if_true, hk, hm, hl2, hw]
      rw [List.append_assoc]
    · refine ⟨b, ?_, by rw [if_neg hk]; exact hb⟩
      unfold n17_1
      dsimp only
      simp only [Int.toNat_natCast, hi1, hi0, decide_true, cond_true, cond_false, and_self, if_true, hk, decide_false, hw]) (fun b _ => by unfold n17_1; simp) (b := acc) (by simp [boxK])
  rw [List.take_length] at hV
  rw [← hV]
  exact e1
theorem a20_1_eq (f : Flat) (hv : VarsOk f.fVars) (hl : f.fVars.length ≤ 1000000) (acc : List Num) (ha : acc.length ≤ 1000000) (kind : Int) (ks : List Int) (n i : Int) : a20_1 ⟨acc, kind, ks, n, i, f.fVars, (f.fVars.length : Int), 0, f⟩ = some ⟨acc ++ boxK kind f.fVars, kind, ks, n, i, f.fVars, (f.fVars.length : Int), (f.fVars.length : Int), f⟩ := by
  obtain ⟨v, e1, hV⟩ := loopI (rnd := n20_1) f.fVars.length (fun j (b : List Num) => ⟨b, kind, ks, n, i, f.fVars, (f.fVars.length : Int), (j : Int), f⟩) (fun j b => b = acc ++ boxK kind (f.fVars.take j)) (fun j b hj hb => by
    have hw := w1L hj hl
    have hm := m65_eq (hv _ (get_memL hj))
    have hlen := boxK_len kind (f.fVars.take j)
    rw [List.length_take] at hlen
    have hi1 : (j : Int) < (f.fVars.length : Int) := by omega
    have hi0 : (0 : Int) ≤ (j : Int) := by omega
    rw [take_succL hj, boxK_snoc]
    by_cases hk : f.fVars[j]!.fKind = kind
    · refine ⟨acc ++ (boxK kind (f.fVars.take j) ++ [numV f.fVars[j]!]), ?_, by rw [if_pos hk]⟩
      subst hb
      have hl2 : ((acc ++ boxK kind (f.fVars.take j)) ++ [numV f.fVars[j]!]).length ≤ 1073741824 := by
        rw [List.length_append, List.length_append, List.length_singleton]
        omega
      unfold n20_1
      dsimp only
      simp only [Int.toNat_natCast, hi1, hi0, decide_true, cond_true, and_self, if_true, hk, hm, hl2, hw]
      rw [List.append_assoc]
    · refine ⟨b, ?_, by rw [if_neg hk]; exact hb⟩
      unfold n20_1
      dsimp only
      simp only [Int.toNat_natCast, hi1, hi0, decide_true, cond_true, cond_false, and_self, if_true, hk, decide_false, hw]) (fun b _ => by unfold n20_1; simp) (b := acc) (by simp [boxK])
  rw [List.take_length] at hV
  rw [← hV]
  exact e1
/-- the box of a program -/
def boxF (f : Flat) : List Num := boxK 1 f.fVars ++ boxK 3 f.fVars
theorem a17_0_eq (f : Flat) (hv : VarsOk f.fVars) (hl : f.fVars.length ≤ 1000) : a17_0 ⟨[], [1, 3], 2, 0, f⟩ = some ⟨boxF f, [1, 3], 2, 2, f⟩ := by
  have b1 := boxK_len 1 f.fVars
  have e1 := a17_1_eq f hv (by omega) [] (by simp) 1 [1, 3] 2 0
  have e2 := a17_1_eq f hv (by omega) (boxK 1 f.fVars) (by omega) 3 [1, 3] 2 1
  have w0 : IntKind.i64.wrap 1 = 1 := rfl
  have w1 : IntKind.i64.wrap 2 = 2 := rfl
  have r1 : n17_0 ⟨[], [1, 3], 2, 0, f⟩ = some (some ⟨boxK 1 f.fVars, [1, 3], 2, 1, f⟩) := by
    unfold n17_0
    simp [e1, w0]
  have r2 : n17_0 ⟨boxK 1 f.fVars, [1, 3], 2, 1, f⟩ = some (some ⟨boxF f, [1, 3], 2, 2, f⟩) := by
    unfold n17_0
    simp [e2, w1, boxF]
  unfold a17_0
  rw [advG_step r1, advG_step r2]
  exact advG_stop fun r => by unfold n17_0; simp
theorem a20_0_eq (f : Flat) (hv : VarsOk f.fVars) (hl : f.fVars.length ≤ 1000) : a20_0 ⟨[], [1, 3], 2, 0, f⟩ = some ⟨boxF f, [1, 3], 2, 2, f⟩ := by
  have b1 := boxK_len 1 f.fVars
  have e1 := a20_1_eq f hv (by omega) [] (by simp) 1 [1, 3] 2 0
  have e2 := a20_1_eq f hv (by omega) (boxK 1 f.fVars) (by omega) 3 [1, 3] 2 1
  have w0 : IntKind.i64.wrap 1 = 1 := rfl
  have w1 : IntKind.i64.wrap 2 = 2 := rfl
  have r1 : n20_0 ⟨[], [1, 3], 2, 0, f⟩ = some (some ⟨boxK 1 f.fVars, [1, 3], 2, 1, f⟩) := by
    unfold n20_0
    simp [e1, w0]
  have r2 : n20_0 ⟨boxK 1 f.fVars, [1, 3], 2, 1, f⟩ = some (some ⟨boxF f, [1, 3], 2, 2, f⟩) := by
    unfold n20_0
    simp [e2, w1, boxF]
  unfold a20_0
  rw [advG_step r1, advG_step r2]
  exact advG_stop fun r => by unfold n20_0; simp
theorem m17_eq (f : Flat) (h : nSs f.fBody + nTs (f.fHatches.map (·.fTerm)) ≤ 900) (hh : f.fHatches.length ≤ 1000000) (hvl : f.fVars.length ≤ 1000) : m17 f = some (if chk f = 0 then (boxF f, 0) else ([], chk f)) := by
  unfold m17
  rw [m56_eq f h hh (by omega)]
  dsimp only
  by_cases hc : chk f = 0
  · rw [if_pos hc, decide_eq_true hc]
    have hv := chk_vars hc
    rw [show ((↑(2 : Int) : Int)) = 2 from rfl, a17_0_eq f hv hvl]
    simp
  · rw [if_neg hc, decide_eq_false hc]
    rfl
theorem m20_eq (f : Flat) (hv : VarsOk f.fVars) (hvl : f.fVars.length ≤ 1000) : m20 f = some (boxF f) := by
  unfold m20
  rw [show ((↑(2 : Int) : Int)) = 2 from rfl, a20_0_eq f hv hvl]
  simp
theorem m19_same (l : List Num) (hl : l.length ≤ 1000000) : m19 l l = some true := by
  have e : a19_0 ⟨l, l, (l.length : Int), 0⟩ = some ⟨l, l, (l.length : Int), (l.length : Int)⟩ := by
    obtain ⟨v, e1, _⟩ := loopI (β := Unit) (rnd := n19_0) l.length (fun i _ => ⟨l, l, (l.length : Int), (i : Int)⟩) (fun _ _ => True) (fun i b hi _ => by
      have hw := w1L hi hl
      have hi1 : (i : Int) < (l.length : Int) := by omega
      have hi0 : (0 : Int) ≤ (i : Int) := by omega
      refine ⟨(), ?_, trivial⟩
      unfold n19_0
      dsimp only
      simp only [Int.toNat_natCast, hi1, hi0, decide_true, cond_true, cond_false, and_self, if_true, hw]) (fun b _ => by unfold n19_0; simp) (b := ()) trivial
    exact e1
  unfold m19
  rw [e]
  simp
theorem law4 (f : Flat) : m4 f = some true := by
  unfold m4
  rw [m16_eq f 70 300 (by omega) (by omega) (by omega) (by omega)]
  dsimp only [m10]
  cases hf : few f 70 300 with
  | false => rfl
  | true =>
    unfold few at hf
    rw [decide_eq_true_iff] at hf
    obtain ⟨f1, f2, f3⟩ := hf
    have h : nSs f.fBody + nTs (f.fHatches.map (·.fTerm)) ≤ 900 := by omega
    rw [m17_eq f h (by omega) (by omega), m18_eq f h (by omega) (by omega)]
    dsimp only [cond_true, cond_false]
    by_cases hc : chk f = 0
    · have hv := chk_vars hc
      have b1 := boxK_len 1 f.fVars
      have b3 := boxK_len 3 f.fVars
      rw [if_pos hc, m20_eq f hv (by omega)]
      dsimp only
      rw [m19_same (boxF f) (by unfold boxF; rw [List.length_append]; omega)]
      simp [hc]
    · rw [if_neg hc]
      simp [hc]
end Go.Proofs.YtaonipoflmbhgaaGreat
end
section
set_option linter.unusedSectionVars false
set_option linter.unusedVariables false
set_option linter.unusedSimpArgs false
namespace Go.Iv
variable [U : Uni]
open Go Go.RowKit Go.Deep Go.ChangeShapes Go.WideShapes Go.Joins
theorem fn_law {P : Program} {f : FuncId} {args : List AV} (h : Iv.Fn P f args [] (fun a s => a = .b true ∧ s = [])) {A : Nat → Prop} {w : World} {vs : List Value} (hr : RelL A w args vs) :
    Calls P f vs.toArray w fun e w' => ∃ v, e = .returned v ∧ v = .bool true ∧ Below w.heap.size w w' :=
  (h w A vs hr ⟨fun r hr => by simp at hr, fun b hb => by simp [blks] at hb⟩ (by simp [blks])).mono fun e w' ⟨v, av, σ', h1, ⟨h2, h3⟩, h4, h5⟩ => by
    subst h2
    exact ⟨v, h1, h5.litEq, h4.kp.below⟩

abbrev anyB : Nat → Prop := fun _ => True

/-- Data of Go type t read as0 values of α, whose cells are c. -/
def Opn {α : Type} {H : Type} (enc : TypeId × Value → H) (P : Program) (w : World) (t : TypeId) (c : α → List AV) (ok : α → Prop) : Prop :=
  ∀ (base : Nat) (fuel : Nat) (cs : List Value) (x : DataW H × List MemPlace), DataW.trod enc P w base (fun _ => true) true fuel t cs = some x → ∃ a, ok a ∧ RelL anyB w (c a) cs

section
variable {α : Type} {H : Type} {enc : TypeId × Value → H} {P : Program} {w : World} {t e : TypeId}

theorem Opn.int {k : IntKind} (ht : P.underlying t = some (.int k)) : Opn enc P w t (cN k) (fun n => (Lit.int k n).wf = true) := fun base fuel cs x h => by
  obtain ⟨n, rfl, _, hw⟩ := DataW.trod_int ht h
  exact ⟨n, hw, RelL.cons (.lit _) RelL.nil⟩
theorem Opn.bool (ht : P.underlying t = some .bool) : Opn enc P w t cB (fun _ => True) := fun base fuel cs x h => by
  obtain ⟨b, rfl, _⟩ := DataW.trod_bool ht h
  exact ⟨b, trivial, RelL.cons (.lit _) RelL.nil⟩
theorem Opn.slice {ok : U.Dat e → Prop} {sz : Nat} (ht : P.underlying t = some (.slice e)) (hc : P.cellsOf e = sz + 1) (hs : U.sz e = sz + 1) (he : Opn enc P w e (U.cells e) ok) :
    Opn enc P w t (fun l : List (U.Dat e) => [.sl e l]) (fun l => l.length ≤ 9223372036854775807 ∧ ∀ a ∈ l, ok a) := fun base fuel cs x h => by
  rcases open_slice ht h with ⟨rfl, _⟩ | ⟨a, len, cp, m, n, D, Pl, hcs, hb, hl, hm, hmm, _, hx⟩
  · refine ⟨[], ⟨by simp, by simp⟩, RelL.cons ?_ RelL.nil⟩
    exact .sl e ([] : List (U.Dat e)) none 0 (fun _ _ => default) (by simp) (by simp) (fun i hi => by simp at hi) (fun i hi => by simp at hi) (fun i j a hi => by simp at hi)
  · subst hcs
    have hmm : m = cp := by rw [hmm]; rfl
    rw [hc] at hx
    have hmx : cp ≤ 9223372036854775807 := by unfold maxLen at hm; omega
    obtain ⟨CS, hCS⟩ := choose_lt (α := List Value × U.Dat e) (p := fun i y => w.cells? base (a.add (i * (sz + 1))) (sz + 1) = some y.1 ∧ ok y.2 ∧ RelL anyB w (U.cells e y.2) y.1) (n := len) (fun i hi => by
      obtain ⟨cs', h1, h2⟩ := hx i (by omega)
      obtain ⟨y, h3, h4⟩ := he _ _ _ _ h2
      exact ⟨(cs', y), h1, h3, h4⟩)
    obtain ⟨l, hld⟩ : ∃ l : List (U.Dat e), l = (List.range len).map fun i => (CS i).2 := ⟨_, rfl⟩
    have hln : l.length = len := by rw [hld]; simp
    have hget : ∀ i, i < len → l[i]! = (CS i).2 := fun i hi => by
      rw [getElem!_pos l i (by omega)]; simp [hld]
    refine ⟨l, ⟨by omega, fun y hy => ?_⟩, RelL.cons ?_ RelL.nil⟩
    · rw [hld, List.mem_map] at hy
      obtain ⟨i, hi, rfl⟩ := hy
      exact (hCS i (by simpa using hi)).2.1
    · rw [← hln]
      refine .sl e l (some a) cp (fun i j => (CS i).1[j]!) (by omega) (by omega) (fun i hi => ?_) (fun i hi => ?_) (fun i j av hi hj => ?_)
      · rw [hln] at hi
        obtain ⟨h1, _, h3⟩ := hCS i hi
        obtain ⟨_, h5, _⟩ := World.cells?_some h1
        rw [hget i hi, ← h3.1, h5, hs]
      · rw [hln] at hi
        obtain ⟨h1, _, h3⟩ := hCS i hi
        obtain ⟨_, h5, h6⟩ := World.cells?_some h1
        have hj : ∀ j, j < sz + 1 → w.cell? ((a.add (i * (sz + 1))).add j) = some (CS i).1[j]! := fun j hj => by
          rw [h6 j hj, getElem!_pos _ j (by omega), List.getElem?_eq_getElem (by omega)]
        obtain ⟨b, off, spot⟩ := a
        have hs : spot = none := by
          obtain ⟨g1, _, _⟩ := hCS 0 (by omega)
          obtain ⟨_, g5, g6⟩ := World.cells?_some g1
          have := World.cell?_spot (v := (CS 0).1[0]!) (w := w) (a := ((⟨b, off, spot⟩ : Addr).add (0 * (sz + 1))).add 0) (by rw [g6 0 (by omega), getElem!_pos _ 0 (by omega), List.getElem?_eq_getElem (by omega)])
          simpa [Addr.add] using this
        subst hs
        have hj' : ∀ j, j < sz + 1 → w.cell? ⟨b, off + i * (sz + 1) + j, none⟩ = some (CS i).1[j]! := fun j hlt => by
          have := hj j hlt
          have ap : ∀ o i : Nat, (⟨b, o, none⟩ : Addr).add i = ⟨b, o + i, none⟩ := fun o i => by
            unfold Addr.add
            split
            · rename_i h0; simp only [h0, Nat.add_zero]
            · rfl
          rw [ap, ap] at this
          exact this
        exact ⟨b, off, rfl, World.block_lt_of_cell? w _ (hj' 0 (by omega)), trivial, by rw [hs]; exact hj'⟩
      · rw [hln] at hi
        rw [hget i hi] at hj
        obtain ⟨h1, _, h3⟩ := hCS i hi
        obtain ⟨v, q1, q2⟩ := h3.get hj
        show Rel anyB w av (CS i).1[j]!
        obtain ⟨q3, q4⟩ := List.getElem?_eq_some_iff.1 q1
        rw [getElem!_pos _ j q3, q4]
        exact q2
/-- an argument that is one cell -/
theorem Opn.one {c : α → AV} {ok : α → Prop} {v : Value} {d : DataW H} {p : List MemPlace} (he : Opn enc P w t (fun a => [c a]) ok) (hv : v.cells = #[v]) (h : DataW.Trod enc P w 0 (fun _ => true) true t v d p) : ∃ a, ok a ∧ Rel anyB w (c a) v := by
  obtain ⟨fuel, hf⟩ := h
  rw [hv] at hf
  obtain ⟨a, h1, h2⟩ := he _ _ _ _ hf
  exact ⟨a, h1, h2.2 0 _ _ rfl rfl⟩
/-- an argument that is a struct -/
theorem Opn.agg {c : α → List AV} {ok : α → Prop} {v : Value} {cs : Array Value} {d : DataW H} {p : List MemPlace} (he : Opn enc P w t c ok) (hv : v = .agg cs) (h : DataW.Trod enc P w 0 (fun _ => true) true t v d p) : ∃ a, ok a ∧ Rel anyB w (.agg (c a)) v := by
  obtain ⟨fuel, hf⟩ := h
  subst hv
  obtain ⟨l⟩ := cs
  obtain ⟨a, h1, h2⟩ := he _ _ _ _ hf
  exact ⟨a, h1, Rel.aggL h2⟩
end
theorem FnY.law [L : UniL] {P : Program} {f : FuncId} {args : List AV} {x : Out} (h : FnY P f args [] 0 x) (hx : x = ⟨.b true, [], 0⟩) (ha : args.all (cloB 2) = true) : Iv.Fn P f args [] (fun a s => a = .b true ∧ s = []) := by
  subst hx
  have h1 := h ⟨fun _ => undef, fun _ => 0⟩
  have : args.map (AVq.sub ⟨fun _ => undef, fun _ => 0⟩) = args.map id := List.map_congr_left fun c hcm => cloB_sub 2 (List.all_eq_true.1 ha c hcm)
  rw [this, List.map_id] at h1
  exact h1.mono fun a s ⟨ρ', _, e1, e2⟩ => ⟨by rw [e1]; exact cloB_sub 2 rfl, List.Perm.eq_nil e2⟩
end Go.Iv
end
section
set_option linter.unusedSectionVars false
set_option linter.unusedVariables false
set_option linter.unusedSimpArgs false
namespace Go.Iv
variable [U : Uni]
open Go Go.RowKit Go.Deep Go.ChangeShapes Go.WideShapes Go.Joins
theorem relSplit {A : Nat → Prop} {w : World} {xs bs : List AV} {us : List Value} {n : Nat} (h : RelL A w xs (us.take n)) (h' : RelL A w bs (us.drop n)) : RelL A w (xs ++ bs) us := by
  have := h.app h'
  rwa [List.take_append_drop] at this
/-- as0 Opn, for readings of less depth than B -/
def OpnB (B : Nat) {α : Type} {H : Type} (enc : TypeId × Value → H) (P : Program) (w : World) (t : TypeId) (c : α → List AV) (ok : α → Prop) : Prop :=
  ∀ (base : Nat) (fuel : Nat), fuel < B → ∀ (cs : List Value) (x : DataW H × List MemPlace), DataW.trod enc P w base (fun _ => true) true fuel t cs = some x → ∃ a, ok a ∧ RelL anyB w (c a) cs
section
variable {α : Type} {H : Type} {enc : TypeId × Value → H} {P : Program} {w : World} {t e : TypeId}
theorem Opn.ofB {c : α → List AV} {ok : α → Prop} (h : ∀ B, OpnB B enc P w t c ok) : Opn enc P w t c ok := fun base fuel cs x hx => h (fuel + 1) base fuel (Nat.lt_succ_self _) cs x hx
theorem Opn.toB {c : α → List AV} {ok : α → Prop} (h : Opn enc P w t c ok) (B : Nat) : OpnB B enc P w t c ok := fun base fuel _ cs x hx => h base fuel cs x hx
theorem Opn.str (ht : P.underlying t = some .string) : Opn enc P w t (fun s => [.s s]) (fun _ => True) := fun base fuel cs x h => by
  obtain ⟨b, rfl, _⟩ := DataW.trod_string ht h
  exact ⟨b, trivial, RelL.cons (.lit _) RelL.nil⟩
theorem Opn.any {c : α → List AV} {ok : α → Prop} (h : Opn enc P w t c ok) : Opn enc P w t c (fun _ => True) := fun base fuel cs x hx => by
  obtain ⟨a, _, r⟩ := h base fuel cs x hx
  exact ⟨a, trivial, r⟩
theorem OpnB.slice {B : Nat} {ok : U.Dat e → Prop} {sz : Nat} (ht : P.underlying t = some (.slice e)) (hc : P.cellsOf e = sz + 1) (hs : U.sz e = sz + 1) (he : OpnB B enc P w e (U.cells e) ok) :
    OpnB B enc P w t (fun l : List (U.Dat e) => [.sl e l]) (fun l => l.length ≤ 9223372036854775807 ∧ ∀ a ∈ l, ok a) := fun base fuel hB cs x h => by
  rcases DataW.trod_slice ht h with ⟨rfl, _⟩ | ⟨a, len, cp, elems, rest, n, hfu, hcs, _, hb, hl, hm, hlen, hx, _, _⟩
  · refine ⟨[], ⟨by simp, by simp⟩, RelL.cons ?_ RelL.nil⟩
    exact .sl e ([] : List (U.Dat e)) none 0 (fun _ _ => default) (by simp) (by simp) (fun i hi => by simp at hi) (fun i hi => by simp at hi) (fun i j a hi => by simp at hi)
  · subst hcs
    rw [hc] at hx
    have hmx : cp ≤ 9223372036854775807 := by unfold maxLen at hm; omega
    obtain ⟨CS, hCS⟩ := choose_lt (α := List Value × U.Dat e) (p := fun i y => w.cells? base (a.add (i * (sz + 1))) (sz + 1) = some y.1 ∧ ok y.2 ∧ RelL anyB w (U.cells e y.2) y.1) (n := len) (fun i hi => by
      have hk := hx i hi
      rw [List.getElem?_eq_getElem (show i < elems.length by omega)] at hk
      obtain ⟨cs', h1, h2⟩ := Option.bind_eq_some_iff.1 hk
      obtain ⟨y, h3, h4⟩ := he _ n (by omega) _ _ h2
      exact ⟨(cs', y), h1, h3, h4⟩)
    obtain ⟨l, hld⟩ : ∃ l : List (U.Dat e), l = (List.range len).map fun i => (CS i).2 := ⟨_, rfl⟩
    have hln : l.length = len := by rw [hld]; simp
    have hget : ∀ i, i < len → l[i]! = (CS i).2 := fun i hi => by
      rw [getElem!_pos l i (by omega)]; simp [hld]
    refine ⟨l, ⟨by omega, fun y hy => ?_⟩, RelL.cons ?_ RelL.nil⟩
    · rw [hld, List.mem_map] at hy
      obtain ⟨i, hi, rfl⟩ := hy
      exact (hCS i (by simpa using hi)).2.1
    · rw [← hln]
      refine .sl e l (some a) cp (fun i j => (CS i).1[j]!) (by omega) (by omega) (fun i hi => ?_) (fun i hi => ?_) (fun i j av hi hj => ?_)
      · rw [hln] at hi
        obtain ⟨h1, _, h3⟩ := hCS i hi
        obtain ⟨_, h5, _⟩ := World.cells?_some h1
        rw [hget i hi, ← h3.1, h5, hs]
      · rw [hln] at hi
        obtain ⟨h1, _, h3⟩ := hCS i hi
        obtain ⟨_, h5, h6⟩ := World.cells?_some h1
        have hj : ∀ j, j < sz + 1 → w.cell? ((a.add (i * (sz + 1))).add j) = some (CS i).1[j]! := fun j hj => by
          rw [h6 j hj, getElem!_pos _ j (by omega), List.getElem?_eq_getElem (by omega)]
        obtain ⟨b, off, spot⟩ := a
        have hs : spot = none := by
          obtain ⟨g1, _, _⟩ := hCS 0 (by omega)
          obtain ⟨_, g5, g6⟩ := World.cells?_some g1
          have := World.cell?_spot (v := (CS 0).1[0]!) (w := w) (a := ((⟨b, off, spot⟩ : Addr).add (0 * (sz + 1))).add 0) (by rw [g6 0 (by omega), getElem!_pos _ 0 (by omega), List.getElem?_eq_getElem (by omega)])
          simpa [Addr.add] using this
        subst hs
        have hj' : ∀ j, j < sz + 1 → w.cell? ⟨b, off + i * (sz + 1) + j, none⟩ = some (CS i).1[j]! := fun j hlt => by
          have := hj j hlt
          have ap : ∀ o i : Nat, (⟨b, o, none⟩ : Addr).add i = ⟨b, o + i, none⟩ := fun o i => by
            unfold Addr.add
            split
            · rename_i h0; simp only [h0, Nat.add_zero]
            · rfl
          rw [ap, ap] at this
          exact this
        exact ⟨b, off, rfl, World.block_lt_of_cell? w _ (hj' 0 (by omega)), trivial, by rw [hs]; exact hj'⟩
      · rw [hln] at hi
        rw [hget i hi] at hj
        obtain ⟨h1, _, h3⟩ := hCS i hi
        obtain ⟨v, q1, q2⟩ := h3.get hj
        show Rel anyB w av (CS i).1[j]!
        obtain ⟨q3, q4⟩ := List.getElem?_eq_some_iff.1 q1
        rw [getElem!_pos _ j q3, q4]
        exact q2
end
end Go.Iv
end
section
set_option linter.unusedSectionVars false
set_option linter.unusedVariables false
set_option linter.unusedSimpArgs false
set_option maxRecDepth 100000
namespace Go.Proofs.YtaonipoflmbhgaaGreat
open Go Go.Iv Go.RowKit Go.Deep Go.ChangeShapes Go.WideShapes Go.Joins
section
variable {H : Type} {enc : TypeId × Value → H} {w : World}
theorem og9 : Opn enc Tryz.prog w 9 (fun s => [.s s]) (fun _ => True) := Opn.str Tryz.underlying9
theorem og89 : Opn enc Tryz.prog w 89 (cN .i64) (fun _ => True) := (Opn.int Tryz.underlying89).any
theorem og3 : Opn enc Tryz.prog w 3 (cN .i64) (fun _ => True) := (Opn.int Tryz.underlying3).any
theorem og91 : Opn enc Tryz.prog w 91 (uni.cells 91) (fun _ => True) := fun base fuel cs x h => by
  obtain ⟨xs, n, hfu, rfl, hl, hlen, hf⟩ := DataW.trod_struct Tryz.underlying91 h
  rw [show Tryz.prog.cellsOf 91 = 5 from by kernel_rfl] at hl
  have hlen : xs.length = 5 := hlen
  have f0 : DataW.trod enc Tryz.prog w base (fun _ => true) true n 9 ((cs.drop 0).take (Tryz.prog.cellsOf 9)) = xs[0]? := hf 0 _ rfl
  rw [show Tryz.prog.cellsOf 9 = 1 from by kernel_rfl, List.getElem?_eq_getElem (show 0 < xs.length by omega)] at f0
  obtain ⟨a0, _, r0⟩ := og9 _ _ _ _ f0
  have f1 : DataW.trod enc Tryz.prog w base (fun _ => true) true n 89 ((cs.drop 1).take (Tryz.prog.cellsOf 89)) = xs[1]? := hf 1 _ rfl
  rw [show Tryz.prog.cellsOf 89 = 1 from by kernel_rfl, List.getElem?_eq_getElem (show 1 < xs.length by omega)] at f1
  obtain ⟨a1, _, r1⟩ := og89 _ _ _ _ f1
  have f2 : DataW.trod enc Tryz.prog w base (fun _ => true) true n 3 ((cs.drop 2).take (Tryz.prog.cellsOf 3)) = xs[2]? := hf 2 _ rfl
  rw [show Tryz.prog.cellsOf 3 = 1 from by kernel_rfl, List.getElem?_eq_getElem (show 2 < xs.length by omega)] at f2
  obtain ⟨a2, _, r2⟩ := og3 _ _ _ _ f2
  have f3 : DataW.trod enc Tryz.prog w base (fun _ => true) true n 3 ((cs.drop 3).take (Tryz.prog.cellsOf 3)) = xs[3]? := hf 3 _ rfl
  rw [show Tryz.prog.cellsOf 3 = 1 from by kernel_rfl, List.getElem?_eq_getElem (show 3 < xs.length by omega)] at f3
  obtain ⟨a3, _, r3⟩ := og3 _ _ _ _ f3
  have f4 : DataW.trod enc Tryz.prog w base (fun _ => true) true n 3 ((cs.drop 4).take (Tryz.prog.cellsOf 3)) = xs[4]? := hf 4 _ rfl
  rw [show Tryz.prog.cellsOf 3 = 1 from by kernel_rfl, List.getElem?_eq_getElem (show 4 < xs.length by omega)] at f4
  obtain ⟨a4, _, r4⟩ := og3 _ _ _ _ f4
  have e : RelL anyB w [] (cs.drop 5) := by rw [List.drop_of_length_le (by omega)]; exact RelL.nil
  have s4 := relSplit (us := cs.drop 4) r4 (by rw [List.drop_drop]; exact e)
  have s3 := relSplit (us := cs.drop 3) r3 (by rw [List.drop_drop]; exact s4)
  have s2 := relSplit (us := cs.drop 2) r2 (by rw [List.drop_drop]; exact s3)
  have s1 := relSplit (us := cs.drop 1) r1 (by rw [List.drop_drop]; exact s2)
  have s0 := relSplit (us := cs.drop 0) r0 (by rw [List.drop_drop]; exact s1)
  exact ⟨(⟨a0, a1, a2, a3, a4⟩ : GVar), trivial, s0⟩
theorem og22 : Opn enc Tryz.prog w 22 (fun l : List (uni.Dat 91) => [.sl 91 l]) (fun l => l.length ≤ 9223372036854775807 ∧ ∀ a ∈ l, True) := Opn.slice (e := 91) (sz := 4) Tryz.underlying22 (by kernel_rfl) rfl og91
theorem og94 : Opn enc Tryz.prog w 94 (cN .i64) (fun _ => True) := (Opn.int Tryz.underlying94).any
theorem ogB97 : ∀ B, OpnB B enc Tryz.prog w 97 (uni.cells 97) (fun _ => True)
  | 0 => fun base fuel hB => absurd hB (Nat.not_lt_zero _)
  | B + 1 => fun base fuel hB cs x h => by
    have ih := ogB97 B
    obtain ⟨xs, n, hfu, rfl, hl, hlen, hf⟩ := DataW.trod_struct Tryz.underlying97 h
    rw [show Tryz.prog.cellsOf 97 = 3 from by kernel_rfl] at hl
    have hlen : xs.length = 3 := hlen
    have f0 : DataW.trod enc Tryz.prog w base (fun _ => true) true n 94 ((cs.drop 0).take (Tryz.prog.cellsOf 94)) = xs[0]? := hf 0 _ rfl
    rw [show Tryz.prog.cellsOf 94 = 1 from by kernel_rfl, List.getElem?_eq_getElem (show 0 < xs.length by omega)] at f0
    obtain ⟨a0, _, r0⟩ := og94 _ _ _ _ f0
    have f1 : DataW.trod enc Tryz.prog w base (fun _ => true) true n 3 ((cs.drop 1).take (Tryz.prog.cellsOf 3)) = xs[1]? := hf 1 _ rfl
    rw [show Tryz.prog.cellsOf 3 = 1 from by kernel_rfl, List.getElem?_eq_getElem (show 1 < xs.length by omega)] at f1
    obtain ⟨a1, _, r1⟩ := og3 _ _ _ _ f1
    have f2 : DataW.trod enc Tryz.prog w base (fun _ => true) true n 95 ((cs.drop 2).take (Tryz.prog.cellsOf 95)) = xs[2]? := hf 2 _ rfl
    rw [show Tryz.prog.cellsOf 95 = 1 from by kernel_rfl, List.getElem?_eq_getElem (show 2 < xs.length by omega)] at f2
    obtain ⟨a2, _, r2⟩ := OpnB.slice (t := 95) (e := 97) (sz := 2) Tryz.underlying95 (by kernel_rfl) rfl ih base n (by omega) _ _ f2
    have e : RelL anyB w [] (cs.drop 3) := by rw [List.drop_of_length_le (by omega)]; exact RelL.nil
    have s2 := relSplit (us := cs.drop 2) r2 (by rw [List.drop_drop]; exact e)
    have s1 := relSplit (us := cs.drop 1) r1 (by rw [List.drop_drop]; exact s2)
    have s0 := relSplit (us := cs.drop 0) r0 (by rw [List.drop_drop]; exact s1)
    exact ⟨(⟨a0, a1, a2⟩ : GTerm), trivial, s0⟩
theorem og97 : Opn enc Tryz.prog w 97 (uni.cells 97) (fun _ => True) := Opn.ofB ogB97
theorem og95 : Opn enc Tryz.prog w 95 (fun l : List (uni.Dat 97) => [.sl 97 l]) (fun l => l.length ≤ 9223372036854775807 ∧ ∀ a ∈ l, True) := Opn.slice (e := 97) (sz := 2) Tryz.underlying95 (by kernel_rfl) rfl og97
theorem og99 : Opn enc Tryz.prog w 99 (uni.cells 99) (fun _ => True) := fun base fuel cs x h => by
  obtain ⟨xs, n, hfu, rfl, hl, hlen, hf⟩ := DataW.trod_struct Tryz.underlying99 h
  rw [show Tryz.prog.cellsOf 99 = 6 from by kernel_rfl] at hl
  have hlen : xs.length = 4 := hlen
  have f0 : DataW.trod enc Tryz.prog w base (fun _ => true) true n 9 ((cs.drop 0).take (Tryz.prog.cellsOf 9)) = xs[0]? := hf 0 _ rfl
  rw [show Tryz.prog.cellsOf 9 = 1 from by kernel_rfl, List.getElem?_eq_getElem (show 0 < xs.length by omega)] at f0
  obtain ⟨a0, _, r0⟩ := og9 _ _ _ _ f0
  have f1 : DataW.trod enc Tryz.prog w base (fun _ => true) true n 3 ((cs.drop 1).take (Tryz.prog.cellsOf 3)) = xs[1]? := hf 1 _ rfl
  rw [show Tryz.prog.cellsOf 3 = 1 from by kernel_rfl, List.getElem?_eq_getElem (show 1 < xs.length by omega)] at f1
  obtain ⟨a1, _, r1⟩ := og3 _ _ _ _ f1
  have f2 : DataW.trod enc Tryz.prog w base (fun _ => true) true n 3 ((cs.drop 2).take (Tryz.prog.cellsOf 3)) = xs[2]? := hf 2 _ rfl
  rw [show Tryz.prog.cellsOf 3 = 1 from by kernel_rfl, List.getElem?_eq_getElem (show 2 < xs.length by omega)] at f2
  obtain ⟨a2, _, r2⟩ := og3 _ _ _ _ f2
  have f3 : DataW.trod enc Tryz.prog w base (fun _ => true) true n 97 ((cs.drop 3).take (Tryz.prog.cellsOf 97)) = xs[3]? := hf 3 _ rfl
  rw [show Tryz.prog.cellsOf 97 = 3 from by kernel_rfl, List.getElem?_eq_getElem (show 3 < xs.length by omega)] at f3
  obtain ⟨a3, _, r3⟩ := og97 _ _ _ _ f3
  have e : RelL anyB w [] (cs.drop 6) := by rw [List.drop_of_length_le (by omega)]; exact RelL.nil
  have s3 := relSplit (us := cs.drop 3) r3 (by rw [List.drop_drop]; exact e)
  have s2 := relSplit (us := cs.drop 2) r2 (by rw [List.drop_drop]; exact s3)
  have s1 := relSplit (us := cs.drop 1) r1 (by rw [List.drop_drop]; exact s2)
  have s0 := relSplit (us := cs.drop 0) r0 (by rw [List.drop_drop]; exact s1)
  exact ⟨(⟨a0, a1, a2, a3⟩ : Hatch), trivial, s0⟩
theorem og23 : Opn enc Tryz.prog w 23 (fun l : List (uni.Dat 99) => [.sl 99 l]) (fun l => l.length ≤ 9223372036854775807 ∧ ∀ a ∈ l, True) := Opn.slice (e := 99) (sz := 5) Tryz.underlying23 (by kernel_rfl) rfl og99
theorem og132 : Opn enc Tryz.prog w 132 (cN .i64) (fun _ => True) := (Opn.int Tryz.underlying132).any
theorem og27 : Opn enc Tryz.prog w 27 (fun l : List (uni.Dat 3) => [.sl 3 l]) (fun l => l.length ≤ 9223372036854775807 ∧ ∀ a ∈ l, True) := Opn.slice (e := 3) (sz := 0) Tryz.underlying27 (by kernel_rfl) rfl og3
theorem ogB134 : ∀ B, OpnB B enc Tryz.prog w 134 (uni.cells 134) (fun _ => True)
  | 0 => fun base fuel hB => absurd hB (Nat.not_lt_zero _)
  | B + 1 => fun base fuel hB cs x h => by
    have ih := ogB134 B
    obtain ⟨xs, n, hfu, rfl, hl, hlen, hf⟩ := DataW.trod_struct Tryz.underlying134 h
    rw [show Tryz.prog.cellsOf 134 = 10 from by kernel_rfl] at hl
    have hlen : xs.length = 8 := hlen
    have f0 : DataW.trod enc Tryz.prog w base (fun _ => true) true n 132 ((cs.drop 0).take (Tryz.prog.cellsOf 132)) = xs[0]? := hf 0 _ rfl
    rw [show Tryz.prog.cellsOf 132 = 1 from by kernel_rfl, List.getElem?_eq_getElem (show 0 < xs.length by omega)] at f0
    obtain ⟨a0, _, r0⟩ := og132 _ _ _ _ f0
    have f1 : DataW.trod enc Tryz.prog w base (fun _ => true) true n 3 ((cs.drop 1).take (Tryz.prog.cellsOf 3)) = xs[1]? := hf 1 _ rfl
    rw [show Tryz.prog.cellsOf 3 = 1 from by kernel_rfl, List.getElem?_eq_getElem (show 1 < xs.length by omega)] at f1
    obtain ⟨a1, _, r1⟩ := og3 _ _ _ _ f1
    have f2 : DataW.trod enc Tryz.prog w base (fun _ => true) true n 3 ((cs.drop 2).take (Tryz.prog.cellsOf 3)) = xs[2]? := hf 2 _ rfl
    rw [show Tryz.prog.cellsOf 3 = 1 from by kernel_rfl, List.getElem?_eq_getElem (show 2 < xs.length by omega)] at f2
    obtain ⟨a2, _, r2⟩ := og3 _ _ _ _ f2
    have f3 : DataW.trod enc Tryz.prog w base (fun _ => true) true n 3 ((cs.drop 3).take (Tryz.prog.cellsOf 3)) = xs[3]? := hf 3 _ rfl
    rw [show Tryz.prog.cellsOf 3 = 1 from by kernel_rfl, List.getElem?_eq_getElem (show 3 < xs.length by omega)] at f3
    obtain ⟨a3, _, r3⟩ := og3 _ _ _ _ f3
    have f4 : DataW.trod enc Tryz.prog w base (fun _ => true) true n 97 ((cs.drop 4).take (Tryz.prog.cellsOf 97)) = xs[4]? := hf 4 _ rfl
    rw [show Tryz.prog.cellsOf 97 = 3 from by kernel_rfl, List.getElem?_eq_getElem (show 4 < xs.length by omega)] at f4
    obtain ⟨a4, _, r4⟩ := og97 _ _ _ _ f4
    have f5 : DataW.trod enc Tryz.prog w base (fun _ => true) true n 24 ((cs.drop 7).take (Tryz.prog.cellsOf 24)) = xs[5]? := hf 5 _ rfl
    rw [show Tryz.prog.cellsOf 24 = 1 from by kernel_rfl, List.getElem?_eq_getElem (show 5 < xs.length by omega)] at f5
    obtain ⟨a5, _, r5⟩ := OpnB.slice (t := 24) (e := 134) (sz := 9) Tryz.underlying24 (by kernel_rfl) rfl ih base n (by omega) _ _ f5
    have f6 : DataW.trod enc Tryz.prog w base (fun _ => true) true n 24 ((cs.drop 8).take (Tryz.prog.cellsOf 24)) = xs[6]? := hf 6 _ rfl
    rw [show Tryz.prog.cellsOf 24 = 1 from by kernel_rfl, List.getElem?_eq_getElem (show 6 < xs.length by omega)] at f6
    obtain ⟨a6, _, r6⟩ := OpnB.slice (t := 24) (e := 134) (sz := 9) Tryz.underlying24 (by kernel_rfl) rfl ih base n (by omega) _ _ f6
    have f7 : DataW.trod enc Tryz.prog w base (fun _ => true) true n 27 ((cs.drop 9).take (Tryz.prog.cellsOf 27)) = xs[7]? := hf 7 _ rfl
    rw [show Tryz.prog.cellsOf 27 = 1 from by kernel_rfl, List.getElem?_eq_getElem (show 7 < xs.length by omega)] at f7
    obtain ⟨a7, _, r7⟩ := og27 _ _ _ _ f7
    have e : RelL anyB w [] (cs.drop 10) := by rw [List.drop_of_length_le (by omega)]; exact RelL.nil
    have s7 := relSplit (us := cs.drop 9) r7 (by rw [List.drop_drop]; exact e)
    have s6 := relSplit (us := cs.drop 8) r6 (by rw [List.drop_drop]; exact s7)
    have s5 := relSplit (us := cs.drop 7) r5 (by rw [List.drop_drop]; exact s6)
    have s4 := relSplit (us := cs.drop 4) r4 (by rw [List.drop_drop]; exact s5)
    have s3 := relSplit (us := cs.drop 3) r3 (by rw [List.drop_drop]; exact s4)
    have s2 := relSplit (us := cs.drop 2) r2 (by rw [List.drop_drop]; exact s3)
    have s1 := relSplit (us := cs.drop 1) r1 (by rw [List.drop_drop]; exact s2)
    have s0 := relSplit (us := cs.drop 0) r0 (by rw [List.drop_drop]; exact s1)
    exact ⟨(⟨a0, a1, a2, a3, a4, a5, a6, a7⟩ : GStep), trivial, s0⟩
theorem og134 : Opn enc Tryz.prog w 134 (uni.cells 134) (fun _ => True) := Opn.ofB ogB134
theorem og24 : Opn enc Tryz.prog w 24 (fun l : List (uni.Dat 134) => [.sl 134 l]) (fun l => l.length ≤ 9223372036854775807 ∧ ∀ a ∈ l, True) := Opn.slice (e := 134) (sz := 9) Tryz.underlying24 (by kernel_rfl) rfl og134
theorem og26 : Opn enc Tryz.prog w 26 (uni.cells 26) (fun _ => True) := fun base fuel cs x h => by
  obtain ⟨xs, n, hfu, rfl, hl, hlen, hf⟩ := DataW.trod_struct Tryz.underlying26 h
  rw [show Tryz.prog.cellsOf 26 = 3 from by kernel_rfl] at hl
  have hlen : xs.length = 3 := hlen
  have f0 : DataW.trod enc Tryz.prog w base (fun _ => true) true n 22 ((cs.drop 0).take (Tryz.prog.cellsOf 22)) = xs[0]? := hf 0 _ rfl
  rw [show Tryz.prog.cellsOf 22 = 1 from by kernel_rfl, List.getElem?_eq_getElem (show 0 < xs.length by omega)] at f0
  obtain ⟨a0, _, r0⟩ := og22 _ _ _ _ f0
  have f1 : DataW.trod enc Tryz.prog w base (fun _ => true) true n 23 ((cs.drop 1).take (Tryz.prog.cellsOf 23)) = xs[1]? := hf 1 _ rfl
  rw [show Tryz.prog.cellsOf 23 = 1 from by kernel_rfl, List.getElem?_eq_getElem (show 1 < xs.length by omega)] at f1
  obtain ⟨a1, _, r1⟩ := og23 _ _ _ _ f1
  have f2 : DataW.trod enc Tryz.prog w base (fun _ => true) true n 24 ((cs.drop 2).take (Tryz.prog.cellsOf 24)) = xs[2]? := hf 2 _ rfl
  rw [show Tryz.prog.cellsOf 24 = 1 from by kernel_rfl, List.getElem?_eq_getElem (show 2 < xs.length by omega)] at f2
  obtain ⟨a2, _, r2⟩ := og24 _ _ _ _ f2
  have e : RelL anyB w [] (cs.drop 3) := by rw [List.drop_of_length_le (by omega)]; exact RelL.nil
  have s2 := relSplit (us := cs.drop 2) r2 (by rw [List.drop_drop]; exact e)
  have s1 := relSplit (us := cs.drop 1) r1 (by rw [List.drop_drop]; exact s2)
  have s0 := relSplit (us := cs.drop 0) r0 (by rw [List.drop_drop]; exact s1)
  exact ⟨(⟨a0, a1, a2⟩ : Flat), trivial, s0⟩
theorem og4 : Opn enc Tryz.prog w 4 cB (fun _ => True) := Opn.bool Tryz.underlying4
theorem og29 : Opn enc Tryz.prog w 29 (uni.cells 29) (fun _ => True) := fun base fuel cs x h => by
  obtain ⟨xs, n, hfu, rfl, hl, hlen, hf⟩ := DataW.trod_struct Tryz.underlying29 h
  rw [show Tryz.prog.cellsOf 29 = 2 from by kernel_rfl] at hl
  have hlen : xs.length = 2 := hlen
  have f0 : DataW.trod enc Tryz.prog w base (fun _ => true) true n 27 ((cs.drop 0).take (Tryz.prog.cellsOf 27)) = xs[0]? := hf 0 _ rfl
  rw [show Tryz.prog.cellsOf 27 = 1 from by kernel_rfl, List.getElem?_eq_getElem (show 0 < xs.length by omega)] at f0
  obtain ⟨a0, _, r0⟩ := og27 _ _ _ _ f0
  have f1 : DataW.trod enc Tryz.prog w base (fun _ => true) true n 4 ((cs.drop 1).take (Tryz.prog.cellsOf 4)) = xs[1]? := hf 1 _ rfl
  rw [show Tryz.prog.cellsOf 4 = 1 from by kernel_rfl, List.getElem?_eq_getElem (show 1 < xs.length by omega)] at f1
  obtain ⟨a1, _, r1⟩ := og4 _ _ _ _ f1
  have e : RelL anyB w [] (cs.drop 2) := by rw [List.drop_of_length_le (by omega)]; exact RelL.nil
  have s1 := relSplit (us := cs.drop 1) r1 (by rw [List.drop_drop]; exact e)
  have s0 := relSplit (us := cs.drop 0) r0 (by rw [List.drop_drop]; exact s1)
  exact ⟨(⟨a0, a1⟩ : View), trivial, s0⟩
theorem og34 : Opn enc Tryz.prog w 34 (uni.cells 34) (fun _ => True) := fun base fuel cs x h => by
  obtain ⟨xs, n, hfu, rfl, hl, hlen, hf⟩ := DataW.trod_struct Tryz.underlying34 h
  rw [show Tryz.prog.cellsOf 34 = 3 from by kernel_rfl] at hl
  have hlen : xs.length = 3 := hlen
  have f0 : DataW.trod enc Tryz.prog w base (fun _ => true) true n 3 ((cs.drop 0).take (Tryz.prog.cellsOf 3)) = xs[0]? := hf 0 _ rfl
  rw [show Tryz.prog.cellsOf 3 = 1 from by kernel_rfl, List.getElem?_eq_getElem (show 0 < xs.length by omega)] at f0
  obtain ⟨a0, _, r0⟩ := og3 _ _ _ _ f0
  have f1 : DataW.trod enc Tryz.prog w base (fun _ => true) true n 3 ((cs.drop 1).take (Tryz.prog.cellsOf 3)) = xs[1]? := hf 1 _ rfl
  rw [show Tryz.prog.cellsOf 3 = 1 from by kernel_rfl, List.getElem?_eq_getElem (show 1 < xs.length by omega)] at f1
  obtain ⟨a1, _, r1⟩ := og3 _ _ _ _ f1
  have f2 : DataW.trod enc Tryz.prog w base (fun _ => true) true n 3 ((cs.drop 2).take (Tryz.prog.cellsOf 3)) = xs[2]? := hf 2 _ rfl
  rw [show Tryz.prog.cellsOf 3 = 1 from by kernel_rfl, List.getElem?_eq_getElem (show 2 < xs.length by omega)] at f2
  obtain ⟨a2, _, r2⟩ := og3 _ _ _ _ f2
  have e : RelL anyB w [] (cs.drop 3) := by rw [List.drop_of_length_le (by omega)]; exact RelL.nil
  have s2 := relSplit (us := cs.drop 2) r2 (by rw [List.drop_drop]; exact e)
  have s1 := relSplit (us := cs.drop 1) r1 (by rw [List.drop_drop]; exact s2)
  have s0 := relSplit (us := cs.drop 0) r0 (by rw [List.drop_drop]; exact s1)
  exact ⟨(⟨a0, a1, a2⟩ : Num), trivial, s0⟩
theorem og30 : Opn enc Tryz.prog w 30 (fun l : List (uni.Dat 34) => [.sl 34 l]) (fun l => l.length ≤ 9223372036854775807 ∧ ∀ a ∈ l, True) := Opn.slice (e := 34) (sz := 2) Tryz.underlying30 (by kernel_rfl) rfl og34
theorem og60 : Opn enc Tryz.prog w 60 (uni.cells 60) (fun _ => True) := fun base fuel cs x h => by
  obtain ⟨xs, n, hfu, rfl, hl, hlen, hf⟩ := DataW.trod_struct Tryz.underlying60 h
  rw [show Tryz.prog.cellsOf 60 = 3 from by kernel_rfl] at hl
  have hlen : xs.length = 3 := hlen
  have f0 : DataW.trod enc Tryz.prog w base (fun _ => true) true n 27 ((cs.drop 0).take (Tryz.prog.cellsOf 27)) = xs[0]? := hf 0 _ rfl
  rw [show Tryz.prog.cellsOf 27 = 1 from by kernel_rfl, List.getElem?_eq_getElem (show 0 < xs.length by omega)] at f0
  obtain ⟨a0, _, r0⟩ := og27 _ _ _ _ f0
  have f1 : DataW.trod enc Tryz.prog w base (fun _ => true) true n 27 ((cs.drop 1).take (Tryz.prog.cellsOf 27)) = xs[1]? := hf 1 _ rfl
  rw [show Tryz.prog.cellsOf 27 = 1 from by kernel_rfl, List.getElem?_eq_getElem (show 1 < xs.length by omega)] at f1
  obtain ⟨a1, _, r1⟩ := og27 _ _ _ _ f1
  have f2 : DataW.trod enc Tryz.prog w base (fun _ => true) true n 27 ((cs.drop 2).take (Tryz.prog.cellsOf 27)) = xs[2]? := hf 2 _ rfl
  rw [show Tryz.prog.cellsOf 27 = 1 from by kernel_rfl, List.getElem?_eq_getElem (show 2 < xs.length by omega)] at f2
  obtain ⟨a2, _, r2⟩ := og27 _ _ _ _ f2
  have e : RelL anyB w [] (cs.drop 3) := by rw [List.drop_of_length_le (by omega)]; exact RelL.nil
  have s2 := relSplit (us := cs.drop 2) r2 (by rw [List.drop_drop]; exact e)
  have s1 := relSplit (us := cs.drop 1) r1 (by rw [List.drop_drop]; exact s2)
  have s0 := relSplit (us := cs.drop 0) r0 (by rw [List.drop_drop]; exact s1)
  exact ⟨(⟨a0, a1, a2⟩ : Inputs), trivial, s0⟩
theorem og36 : Opn enc Tryz.prog w 36 (uni.cells 36) (fun _ => True) := fun base fuel cs x h => by
  obtain ⟨xs, n, hfu, rfl, hl, hlen, hf⟩ := DataW.trod_struct Tryz.underlying36 h
  rw [show Tryz.prog.cellsOf 36 = 8 from by kernel_rfl] at hl
  have hlen : xs.length = 4 := hlen
  have f0 : DataW.trod enc Tryz.prog w base (fun _ => true) true n 34 ((cs.drop 0).take (Tryz.prog.cellsOf 34)) = xs[0]? := hf 0 _ rfl
  rw [show Tryz.prog.cellsOf 34 = 3 from by kernel_rfl, List.getElem?_eq_getElem (show 0 < xs.length by omega)] at f0
  obtain ⟨a0, _, r0⟩ := og34 _ _ _ _ f0
  have f1 : DataW.trod enc Tryz.prog w base (fun _ => true) true n 30 ((cs.drop 3).take (Tryz.prog.cellsOf 30)) = xs[1]? := hf 1 _ rfl
  rw [show Tryz.prog.cellsOf 30 = 1 from by kernel_rfl, List.getElem?_eq_getElem (show 1 < xs.length by omega)] at f1
  obtain ⟨a1, _, r1⟩ := og30 _ _ _ _ f1
  have f2 : DataW.trod enc Tryz.prog w base (fun _ => true) true n 34 ((cs.drop 4).take (Tryz.prog.cellsOf 34)) = xs[2]? := hf 2 _ rfl
  rw [show Tryz.prog.cellsOf 34 = 3 from by kernel_rfl, List.getElem?_eq_getElem (show 2 < xs.length by omega)] at f2
  obtain ⟨a2, _, r2⟩ := og34 _ _ _ _ f2
  have f3 : DataW.trod enc Tryz.prog w base (fun _ => true) true n 30 ((cs.drop 7).take (Tryz.prog.cellsOf 30)) = xs[3]? := hf 3 _ rfl
  rw [show Tryz.prog.cellsOf 30 = 1 from by kernel_rfl, List.getElem?_eq_getElem (show 3 < xs.length by omega)] at f3
  obtain ⟨a3, _, r3⟩ := og30 _ _ _ _ f3
  have e : RelL anyB w [] (cs.drop 8) := by rw [List.drop_of_length_le (by omega)]; exact RelL.nil
  have s3 := relSplit (us := cs.drop 7) r3 (by rw [List.drop_drop]; exact e)
  have s2 := relSplit (us := cs.drop 4) r2 (by rw [List.drop_drop]; exact s3)
  have s1 := relSplit (us := cs.drop 3) r1 (by rw [List.drop_drop]; exact s2)
  have s0 := relSplit (us := cs.drop 0) r0 (by rw [List.drop_drop]; exact s1)
  exact ⟨(⟨a0, a1, a2, a3⟩ : Abstract), trivial, s0⟩
theorem og51 : Opn enc Tryz.prog w 51 (uni.cells 51) (fun _ => True) := fun base fuel cs x h => by
  obtain ⟨xs, n, hfu, rfl, hl, hlen, hf⟩ := DataW.trod_struct Tryz.underlying51 h
  rw [show Tryz.prog.cellsOf 51 = 2 from by kernel_rfl] at hl
  have hlen : xs.length = 2 := hlen
  have f0 : DataW.trod enc Tryz.prog w base (fun _ => true) true n 27 ((cs.drop 0).take (Tryz.prog.cellsOf 27)) = xs[0]? := hf 0 _ rfl
  rw [show Tryz.prog.cellsOf 27 = 1 from by kernel_rfl, List.getElem?_eq_getElem (show 0 < xs.length by omega)] at f0
  obtain ⟨a0, _, r0⟩ := og27 _ _ _ _ f0
  have f1 : DataW.trod enc Tryz.prog w base (fun _ => true) true n 3 ((cs.drop 1).take (Tryz.prog.cellsOf 3)) = xs[1]? := hf 1 _ rfl
  rw [show Tryz.prog.cellsOf 3 = 1 from by kernel_rfl, List.getElem?_eq_getElem (show 1 < xs.length by omega)] at f1
  obtain ⟨a1, _, r1⟩ := og3 _ _ _ _ f1
  have e : RelL anyB w [] (cs.drop 2) := by rw [List.drop_of_length_le (by omega)]; exact RelL.nil
  have s1 := relSplit (us := cs.drop 1) r1 (by rw [List.drop_drop]; exact e)
  have s0 := relSplit (us := cs.drop 0) r0 (by rw [List.drop_drop]; exact s1)
  exact ⟨(⟨a0, a1⟩ : Observation), trivial, s0⟩
end
end Go.Proofs.YtaonipoflmbhgaaGreat
end
section
set_option linter.unusedSectionVars false
set_option linter.unusedVariables false
set_option linter.unusedSimpArgs false
namespace Go.Proofs.YtaonipoflmbhgaaGreat
open Go Go.Iv
theorem o4_eq : o4 true = ⟨.b true, [], 0⟩ := by kernel_rfl
theorem claw4 (f : Flat) : Iv.Fn Tryz.prog 4 [.agg (uni.cells 26 f)] [] (fun a s => a = .b true ∧ s = []) := (fn4 f true (law4 f)).2.law o4_eq (by kernel_rfl)
end Go.Proofs.YtaonipoflmbhgaaGreat
end
