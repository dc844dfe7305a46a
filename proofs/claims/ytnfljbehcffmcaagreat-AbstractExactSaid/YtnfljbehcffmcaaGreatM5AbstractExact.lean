/- Merged: Qs, Hb, Qn, So, Hk, Hc, Qt, Qu, Qx, Qy. -/
import Derived.Test.YtnfljbehcffmcaaGreatM4AbstractExact
import Derived.Test.YtnfljbehcffmcaaGreatM2AbstractExact
import Derived.Test.YtnfljbehcffmcaaGreatM3AbstractExact
import Derived.Shelf.Sort.Plain
import Derived.Shelf.Slices.In.SortNone
import Derived.Sort.OwnSortedInts
set_option linter.unusedSectionVars false
set_option linter.unusedVariables false
set_option linter.unusedSimpArgs false
noncomputable section
namespace Go.Proofs.YtnfljbehcffmcaaGreat
open Go Go.Iv
open Go.IntKind (i64)
theorem settI_none : ∀ {l : List Int} {t : Int}, (∀ j, j < l.length → l[j]! < t) → settI l t = t
 | [], _, _ => rfl
 | b :: l, t, h => by
  have h0 := h 0 (by simp)
  have h0 : b < t := h0
  rw [settI, if_neg (by omega)]
  exact settI_none fun j hj => h (j + 1) (by simpa using hj)
theorem settI_at : ∀ {l : List Int} {t : Int} {j : Nat}, j < l.length → t ≤ l[j]! → (∀ k, k < j → l[k]! < t) → settI l t = l[j]!
 | [], _, _, h, _, _ => by simp at h
 | b :: l, t, 0, _, h2, _ => by
  have h2 : t ≤ b := h2
  rw [settI, if_pos h2]; rfl
 | b :: l, t, j + 1, h1, h2, h3 => by
  have h0 : b < t := h3 0 (by omega)
  rw [settI, if_neg (by omega)]
  exact settI_at (l := l) (j := j) (by simpa using h1) h2 fun k hk => h3 (k + 1) (by omega)
theorem settI_cases (l : List Int) (t : Int) : (settI l t = t ∧ ∀ j, j < l.length → l[j]! < t) ∨ ∃ j, j < l.length ∧ settI l t = l[j]! ∧ t ≤ l[j]! ∧ ∀ k, k < j → l[k]! < t := by
  induction l with
  | nil => exact .inl ⟨rfl, fun j h => by simp at h⟩
  | cons b l ih =>
    rw [settI]
    by_cases h : t ≤ b
    · rw [if_pos h]; exact .inr ⟨0, by simp, rfl, h, fun k hk => by omega⟩
    · rw [if_neg h]
      rcases ih with ⟨e, h1⟩ | ⟨j, h1, h2, h3, h4⟩
      · refine .inl ⟨e, fun j hj => ?_⟩
        cases j with
        | zero => show b < t; omega
        | succ j => exact h1 j (by simpa using hj)
      · refine .inr ⟨j + 1, by simpa using h1, h2, h3, fun k hk => ?_⟩
        cases k with
        | zero => show b < t; omega
        | succ k => exact h4 k (by omega)
theorem rise_lt {l : List Int} (h : riseB l = true) : ∀ {i j : Nat}, i < j → j < l.length → l[i]! < l[j]! := by
  intro i j hij hj
  induction j with
  | zero => omega
  | succ j ih =>
    have h1 := (riseB_get l).1 h j hj
    by_cases hi : i = j
    · subst hi; exact h1
    · have := ih (by omega) (by omega)
      omega
theorem m182_eq (l : List Int) (t : Int) (hl : l.length ≤ 1000000) (h : riseB l = true) : m182 l t = some (settI l t) := by
  obtain ⟨v, e1, hv⟩ := loopI (rnd := n182_0) l.length (fun i (b : Int × Bool) => ⟨l, t, b.1, b.2, (i : Int)⟩)
    (fun i b => (b = (t, false) ∧ ∀ j, j < i → l[j]! < t) ∨ (b.2 = true ∧ ∃ j, j < i ∧ b.1 = l[j]! ∧ t ≤ l[j]! ∧ ∀ k, k < j → l[k]! < t)) (fun i b hi hb => by
    have hw := w1L hi hl
    have i1 : (i : Int) < (l.length : Int) := by omega
    have i2 : (0 : Int) ≤ (i : Int) := by omega
    rcases hb with ⟨rfl, hb⟩ | ⟨hb, j, h1, h2, h3, h4⟩
    · by_cases hc : t ≤ l[i]!
      · refine ⟨(l[i]!, true), ?_, .inr ⟨rfl, i, by omega, rfl, hc, hb⟩⟩
        unfold n182_0
        simp only [Int.toNat_natCast, i1, i2, hc, hw, decide_true, cond_true, cond_false, and_self, if_true]
      · refine ⟨(t, false), ?_, .inl ⟨rfl, fun j hj => ?_⟩⟩
        · unfold n182_0
          simp only [Int.toNat_natCast, i1, i2, hc, hw, decide_true, decide_false, cond_true, cond_false, and_self, if_true]
        · by_cases hji : j = i
          · subst hji; omega
          · exact hb j (by omega)
    · have hlt := rise_lt h h1 hi
      obtain ⟨b1, b2⟩ := b
      dsimp only at hb h2
      subst hb h2
      refine ⟨(l[j]!, true), ?_, .inr ⟨rfl, j, by omega, rfl, h3, h4⟩⟩
      unfold n182_0
      simp only [Int.toNat_natCast, i1, i2, show t ≤ l[i]! by omega, show ¬ l[i]! < l[j]! by omega, hw, decide_true, decide_false, cond_true, cond_false, and_self, if_true]) (fun b _ => by unfold n182_0; simp) (b := (t, false)) (.inl ⟨rfl, fun j hj => by omega⟩)
  have e1' : a182_0 ⟨l, t, t, false, 0⟩ = some ⟨l, t, v.1, v.2, (l.length : Int)⟩ := e1
  unfold m182
  rw [e1']
  dsimp only
  rw [decide_eq_false (by omega), cond_false]
  rcases hv with ⟨rfl, hv⟩ | ⟨_, j, h1, h2, h3, h4⟩
  · rw [settI_none hv]
  · rw [h2, settI_at h1 h3 h4]
theorem m180_eq {f : Flat} {vals : List Int} (hV : VIn f.fVars vals) (hn : f.fVars.length ≤ 1000000) {v n : Int} (h1 : 0 ≤ v) (h2 : v < f.fVars.length) : m180 f vals v n = some (vals.set v.toNat (heldI n f.fVars[v.toNat]!.fLow f.fVars[v.toNat]!.fHigh)) := by
 have hl := hV.1
 unfold m180
 simp only [List.nil_append, m183_eq]
 rw [if_pos (by omega), if_pos (by omega), if_pos (by omega), if_pos (by omega), if_pos ⟨trivial, by omega⟩]
structure Bud (f : Flat) (top : Bool) (l : List GStep) (s : CS) : Prop where
 hc : stepC f top l = 0
 vals : VIn f.fVars s.vals
 t0 : 0 ≤ s.time
 t : s.time + (uSs l).2.2 ≤ 134217728
 o : (s.outs.length : Int) + (uSs l).2.1 ≤ 8
theorem sett_bd {l : List Int} {t : Int} (hr : riseB l = true) (hl : 1 ≤ l.length) (h6 : l[l.length - 1]! ≤ 67108864) (ht : 0 ≤ t) (ht2 : t ≤ 134217728) : 0 ≤ settI l t ∧ settI l t ≤ 134217728 := by
  rcases settI_cases l t with ⟨e, _⟩ | ⟨j, h1, e, h3, _⟩
  · rw [e]; exact ⟨ht, ht2⟩
  · rw [e]
    have : l[j]! ≤ l[l.length - 1]! := by
      by_cases hj : j = l.length - 1
      · subst hj; exact Int.le_refl _
      · exact Int.le_of_lt (rise_lt hr (by omega) (by omega))
    omega
theorem Bud.ok {f : Flat} {top : Bool} {x : GStep} {l : List GStep} {s : CS} (h : Bud f top (x :: l) s) : StOk f (top && l.isEmpty) x := stOk_of (stepC_cons h.hc).1
theorem Bud.pos {f : Flat} {top : Bool} {x : GStep} {l : List GStep} {s : CS} (h : Bud f top (x :: l) s) : (0 ≤ (uSs x.fThen).2.1 ∧ 0 ≤ (uSs x.fThen).2.2) ∧ (0 ≤ (uSs x.fElse).2.1 ∧ 0 ≤ (uSs x.fElse).2.2) ∧ (0 ≤ (uSs l).2.1 ∧ 0 ≤ (uSs l).2.2) := by
 obtain ⟨h1, h2, h3, h4⟩ := stepC_cons h.hc
 exact ⟨uSs_pos f _ _ _ (Nat.lt_succ_self _) h2, uSs_pos f _ _ _ (Nat.lt_succ_self _) h3, uSs_pos f _ _ _ (Nat.lt_succ_self _) h4⟩
theorem Bud.next {f : Flat} (hv : VarsOk f.fVars) {hs : List Int} {top : Bool} {x : GStep} {l : List GStep} {s : CS} (h : Bud f top (x :: l) s) : Bud f top l (stepO f hs (runC f hs x.fThen) (runC f hs x.fElse) x s) := by
  obtain ⟨h1, h2, h3, h4⟩ := stepC_cons h.hc
  have ho := h.ok
  obtain ⟨p1, p2, p3⟩ := h.pos
  have ht := h.t
  have hou := h.o
  have h0 := h.t0
  rw [(uO_cons x l).2] at ht
  rw [(uO_cons x l).1] at hou
  by_cases h6 : x.fDo = 6
  · obtain ⟨q1, q2, q3, q4, q5⟩ := ho.last6 h6
    have hl : l = [] := by
      cases l with
      | nil => rfl
      | cons a l => simp at q1
    subst hl
    have hu : uO x = (0, x.fCost) := by unfold uO; simp [h6]
    have hc := ho.cost
    rw [hu] at ht hou
    rw [show uSs [] = (0, 0, 0) by rw [uSs]] at ht hou
    dsimp only at ht hou
    have hb := sett_bd (t := s.time + x.fCost) q4 q2.1 q5 (by omega) (by omega)
    unfold stepO
    simp only [h6, Int.reduceEq, if_true, if_false]
    exact ⟨h4, h.vals, hb.1, by rw [uSs]; dsimp only; omega, by rw [uSs]; dsimp only; omega⟩
  · have i := stepO_aft hv (hs := hs) ho h6 p1 p2 (runC_aft hv hs _ x.fThen (Nat.lt_succ_self _) h2) (runC_aft hv hs _ x.fElse (Nat.lt_succ_self _) h3) s h.vals
    have q1 := i.outs
    have q2 := i.time
    exact ⟨h4, i.vals, by omega, by omega, by omega⟩
theorem Bud.sub {f : Flat} {top : Bool} {x : GStep} {l : List GStep} {s : CS} (h : Bud f top (x :: l) s) (h3 : x.fDo = 3) : Bud f false x.fThen (s.add x.fCost) ∧ Bud f false x.fElse (s.add x.fCost) := by
 obtain ⟨g1, g2, g3, g4⟩ := stepC_cons h.hc
 have ho := h.ok
 obtain ⟨p1, p2, p3⟩ := h.pos
 have ht := h.t
 have hou := h.o
 have h0 := h.t0
 have hc := ho.cost
 rw [(uO_cons x l).2] at ht
 rw [(uO_cons x l).1] at hou
 have hu : uO x = (max (uSs x.fThen).2.1 (uSs x.fElse).2.1, x.fCost + max (uSs x.fThen).2.2 (uSs x.fElse).2.2) := by unfold uO; simp [h3]
 rw [hu] at ht hou
 dsimp only at ht hou
 refine ⟨⟨g2, h.vals, ?_, ?_, ?_⟩, ⟨g3, h.vals, ?_, ?_, ?_⟩⟩ <;> simp only [CS.add] <;> omega
structure BudL (f : Flat) (x : GStep) (n : Nat) (s : CS) : Prop where
 hc : stepC f false x.fThen = 0
 term : termC f.fVars false x.fTerm = 0
 cost : 0 ≤ x.fCost
 vals : VIn f.fVars s.vals
 t0 : 0 ≤ s.time
 t : s.time + n * (x.fCost + (uSs x.fThen).2.2) ≤ 134217728
 o : (s.outs.length : Int) + n * (uSs x.fThen).2.1 ≤ 8
theorem Bud.loop {f : Flat} {top : Bool} {x : GStep} {l : List GStep} {s : CS} (h : Bud f top (x :: l) s) (h4 : x.fDo = 4) : BudL f x x.fN.toNat s := by
 obtain ⟨g1, g2, g3, g4⟩ := stepC_cons h.hc
 have ho := h.ok
 obtain ⟨p1, p2, p3⟩ := h.pos
 have ht := h.t
 have hou := h.o
 have hn := ho.n4 h4
 rw [(uO_cons x l).2] at ht
 rw [(uO_cons x l).1] at hou
 have hu : uO x = (x.fN * (uSs x.fThen).2.1, x.fN * (x.fCost + (uSs x.fThen).2.2)) := by unfold uO; simp [h4]
 rw [hu] at ht hou
 dsimp only at ht hou
 have e : ((x.fN.toNat : Nat) : Int) = x.fN := by omega
 exact ⟨g2, ho.term, ho.cost.1, h.vals, h.t0, by rw [e]; omega, by rw [e]; omega⟩
theorem BudL.body {f : Flat} {x : GStep} {n : Nat} {s : CS} (h : BudL f x (n + 1) s) : Bud f false x.fThen (s.add x.fCost) := by
 have p := uSs_pos f _ _ _ (Nat.lt_succ_self _) h.hc
 have ht := h.t
 have ho := h.o
 have hc := h.cost
 have h0 := h.t0
 rw [Int.natCast_add, Int.add_mul] at ht ho
 have e1 : 0 ≤ (n : Int) * (x.fCost + (uSs x.fThen).2.2) := Int.mul_nonneg (by omega) (by omega)
 have e2 : 0 ≤ (n : Int) * (uSs x.fThen).2.1 := Int.mul_nonneg (by omega) (by omega)
 simp only [Int.natCast_one, Int.one_mul] at ht ho
 refine ⟨h.hc, h.vals, ?_, ?_, ?_⟩ <;> simp only [CS.add] <;> omega
theorem BudL.next {f : Flat} (hv : VarsOk f.fVars) (hs : List Int) {x : GStep} {n : Nat} {s : CS} (h : BudL f x (n + 1) s) : BudL f x n (runC f hs x.fThen (s.add x.fCost)) := by
 have i := runC_aft hv hs _ x.fThen (Nat.lt_succ_self _) h.hc (s.add x.fCost) h.vals
 have ht := h.t
 have ho := h.o
 have hc := h.cost
 have h0 := h.t0
 have q1 := i.outs
 have q2 := i.time
 rw [Int.natCast_add, Int.add_mul] at ht ho
 simp only [Int.natCast_one, Int.one_mul] at ht ho
 simp only [CS.add] at q1 q2
 exact ⟨h.hc, h.term, h.cost, i.vals, by simp only [CS.add]; omega, by simp only [CS.add]; omega, by simp only [CS.add]; omega⟩
def encG (s : CS) : GState := ⟨s.vals, s.outs, s.time⟩
theorem drop_cons {α : Type} [Inhabited α] {l : List α} {i : Nat} (h : i < l.length) : l.drop i = l[i]! :: l.drop (i + 1) := by rw [getElem!_pos l i h]; exact List.drop_eq_getElem_cons h
theorem s96_eq (M96 : Flat → (List Int) → (List GStep) → GState → Option E96) (M179 : Flat → (List Int) → GStep → GState → Option E179) {f : Flat} (hv : VarsOk f.fVars) (hn : f.fVars.length ≤ 1000000) {hs : List Int} (hh : hs.length = f.fHatches.length)
    {top : Bool} {l : List GStep} (hl : l.length ≤ 1000000) {s : CS} (h : Bud f top l s)
    (h1 : ∀ x ∈ l, ∀ s, Bud f false x.fThen s → M96 f hs x.fThen (encG s) = some (encG (runC f hs x.fThen s)))
    (h2 : ∀ x ∈ l, ∀ s, Bud f false x.fElse s → M96 f hs x.fElse (encG s) = some (encG (runC f hs x.fElse s)))
    (h3 : ∀ x ∈ l, ∀ s, x.fDo = 4 → BudL f x x.fN.toNat s → M179 f hs x (encG s) = some (encG (rndC (runC f hs x.fThen) x.fTerm x.fCost x.fN.toNat s))) :
    s96 M96 M179 f hs l (encG s) = some (encG (runC f hs l s)) := by
  obtain ⟨v, e1, hV⟩ := loopI (rnd := n96_0 M96 M179) l.length (fun i (b : CS × Int) => ⟨hs, l, (i : Int), f, encG b.1, ⟨[], [], b.2⟩⟩)
    (fun i b => Bud f top (l.drop i) b.1 ∧ runC f hs (l.drop i) b.1 = runC f hs l s) (fun i b hi hb => by
    obtain ⟨b, z⟩ := b
    obtain ⟨hb, hr⟩ := hb
    dsimp only at hb hr
    rw [drop_cons hi] at hb hr
    rw [runC_cons] at hr
    have hm := get_memL hi
    generalize hx : l[i]! = x at *
    refine ⟨(stepO f hs (runC f hs x.fThen) (runC f hs x.fElse) x b, z), ?_, hb.next hv, hr⟩
    have ho := hb.ok
    obtain ⟨ev, ev1, ev2⟩ := r181_eq hv hb.vals false x.fTerm ho.term
    have hw := w1L hi hl
    have i1 : (i : Int) < (l.length : Int) := by omega
    have i2 : (0 : Int) ≤ (i : Int) := by omega
    have hc := ho.cost
    have ht := hb.t
    have ht0 := hb.t0
    have hp := hb.pos.2.2.2
    have hou := hb.o
    have hpo := hb.pos.2.2.1
    have htu : b.time + x.fCost ≤ 134217728 ∨ x.fDo = 4 := by
      rw [(uO_cons x _).2] at ht
      by_cases q4 : x.fDo = 4
      · exact .inr q4
      · left
        have : x.fCost ≤ (uO x).2 := by
          unfold uO
          have := hb.pos
          split
          · exact Int.le_refl _
          · split
            · dsimp only; omega
            · first | (rw [if_neg q4]; exact Int.le_refl _) | exact Int.le_refl _
        omega
    have hou8 : (b.outs.length : Int) ≤ 8 := by
      rw [(uO_cons x _).1] at hou
      have : 0 ≤ (uO x).1 := by
        unfold uO
        have := hb.pos
        split
        · show (0 : Int) ≤ 1; decide
        · split
          · dsimp only; omega
          · split
            · rename_i q; exact Int.mul_nonneg (ho.n4 q).1 this.1.1
            · exact Int.le_refl _
      omega
    unfold n96_0
    dsimp only [encG]
    simp only [Int.toNat_natCast, i1, i2, hx, decide_true, cond_true, and_self, if_true, GStep.eta, GTerm.eta, hw]
    unfold stepO
    by_cases d4 : x.fDo = 4
    · have e := h3 x hm b d4 (hb.loop d4)
      dsimp only [encG] at e
      simp only [d4, Int.reduceEq, decide_true, cond_true, if_true, e]
    have htw : i64.wrap (b.time + x.fCost) = b.time + x.fCost := wrap_id (by omega) (by omega)
    simp only [htw]
    by_cases d0 : x.fDo = 0
    · obtain ⟨v1, v2⟩ := ho.var (.inl d0)
      simp only [d0, Int.reduceEq, decide_true, decide_false, cond_true, cond_false, if_true, if_false, ev, m180_eq hb.vals hn v1 v2]
      rfl
    by_cases d1 : x.fDo = 1
    · simp only [d1, Int.reduceEq, decide_true, decide_false, cond_true, cond_false, if_true, if_false, ev, List.nil_append]
      rw [if_pos (by omega), if_pos (by simp; omega)]
    by_cases d5 : x.fDo = 5
    · obtain ⟨v1, v2⟩ := ho.var (.inr d5)
      obtain ⟨n1, n2⟩ := ho.n5 d5
      simp only [d5, Int.reduceEq, decide_true, decide_false, cond_true, cond_false, if_true, if_false, m180_eq hb.vals hn v1 v2]
      rw [if_pos (by omega)]
      rfl
    by_cases d3 : x.fDo = 3
    · have e1 := h1 x hm _ (hb.sub d3).1
      have e2 := h2 x hm _ (hb.sub d3).2
      dsimp only [encG, CS.add] at e1 e2
      simp only [d3, Int.reduceEq, decide_true, decide_false, cond_true, cond_false, if_true, if_false, ev, e1, e2]
      by_cases hz : valT b.vals x.fTerm = 0
      · simp only [hz, decide_true, cond_true, cond_false, ne_eq, not_true, if_false]
        rfl
      · simp only [hz, decide_false, cond_true, cond_false, ne_eq, not_false_eq_true, if_true]
        rfl
    by_cases d6 : x.fDo = 6
    · obtain ⟨_, q2, _, q4, _⟩ := ho.last6 d6
      simp only [d6, Int.reduceEq, decide_true, decide_false, cond_true, cond_false, if_true, if_false, m182_eq x.fBounds _ (by omega) q4]
    · simp only [d0, d1, d3, d4, d5, d6, decide_false, cond_false, if_false]
      rfl) (fun b _ => by unfold n96_0; simp) (b := (s, 0)) ⟨by rw [List.drop_zero]; exact h, by rw [List.drop_zero]⟩
  obtain ⟨b, z⟩ := v
  have e1' : a96_0 M96 M179 ⟨hs, l, 0, f, encG s, ⟨[], [], 0⟩⟩ = some ⟨hs, l, (l.length : Int), f, encG b, ⟨[], [], z⟩⟩ := e1
  have hr := hV.2
  dsimp only at hr
  rw [List.drop_length, runC_nil] at hr
  unfold s96
  rw [e1', ← hr]
  dsimp only
  rw [decide_eq_false (by omega), cond_false]
theorem s179_eq (M96 : Flat → (List Int) → (List GStep) → GState → Option E96) (M179 : Flat → (List Int) → GStep → GState → Option E179) {f : Flat} (hv : VarsOk f.fVars) {hs : List Int} {x : GStep} (hN : 0 ≤ x.fN ∧ x.fN ≤ 4096) {s : CS} (h : BudL f x x.fN.toNat s)
    (h1 : ∀ s, Bud f false x.fThen s → M96 f hs x.fThen (encG s) = some (encG (runC f hs x.fThen s))) :
    s179 M96 M179 f hs x (encG s) = some (encG (rndC (runC f hs x.fThen) x.fTerm x.fCost x.fN.toNat s)) := by
  obtain ⟨i, v, e1, hV, hc⟩ := loopJ (rnd := n179_0 M96 M179) x.fN.toNat (fun i (b : CS × Int) => ⟨hs, (i : Int), f, x, encG b.1, ⟨[], [], b.2⟩⟩)
    (fun i b => BudL f x (x.fN.toNat - i) b.1 ∧ rndC (runC f hs x.fThen) x.fTerm x.fCost (x.fN.toNat - i) b.1 = rndC (runC f hs x.fThen) x.fTerm x.fCost x.fN.toNat s) (fun i b => valT b.1.vals x.fTerm = 0) (fun i b hi hb => by
    obtain ⟨b, z⟩ := b
    obtain ⟨hb, hr⟩ := hb
    dsimp only at hb hr
    obtain ⟨k, hk⟩ : ∃ k, x.fN.toNat - i = k + 1 := ⟨x.fN.toNat - i - 1, by omega⟩
    have hk2 : x.fN.toNat - (i + 1) = k := by omega
    rw [hk] at hb hr
    rw [rndC] at hr
    obtain ⟨ev, _, _⟩ := r181_eq hv hb.vals false x.fTerm hb.term
    have hw : i64.wrap ((i : Int) + 1) = ((i + 1 : Nat) : Int) := by rw [wrap_id (by omega) (by omega)]; omega
    have i1 : (i : Int) < x.fN := by omega
    have hbb := hb.body
    have ht := hbb.t
    have hp := uSs_pos f _ _ _ (Nat.lt_succ_self _) hb.hc
    have h0 := hb.t0
    have hcc := hb.cost
    have htw : i64.wrap (b.time + x.fCost) = b.time + x.fCost := by simp only [CS.add] at ht; exact wrap_id (by omega) (by omega)
    have e := h1 _ hbb
    dsimp only [encG, CS.add] at e
    by_cases hz : valT b.vals x.fTerm = 0
    · refine .inr ⟨?_, hz⟩
      unfold n179_0
      dsimp only [encG]
      simp only [i1, decide_true, cond_true, GTerm.eta, ev, hz]
    · rw [if_neg hz] at hr
      refine .inl ⟨(runC f hs x.fThen (b.add x.fCost), z), ?_, by rw [hk2]; exact hb.next hv hs, by rw [hk2]; exact hr⟩
      unfold n179_0
      dsimp only [encG]
      simp only [i1, decide_true, cond_true, GTerm.eta, ev, hz, decide_false, cond_false, htw, e, GStep.eta, hw]
      rfl) (fun b _ => by
      unfold n179_0
      dsimp only
      rw [decide_eq_false (by omega)]; rfl) (b := (s, 0)) ⟨h, rfl⟩
  obtain ⟨b, z⟩ := v
  have e1' : a179_0 M96 M179 ⟨hs, 0, f, x, encG s, ⟨[], [], 0⟩⟩ = some ⟨hs, (i : Int), f, x, encG b, ⟨[], [], z⟩⟩ := e1
  unfold s179
  rw [GTerm.eta, GStep.eta]
  rw [e1']
  obtain ⟨hb, hr⟩ := hV
  dsimp only at hb hr
  rw [← hr]
  rcases hc with rfl | ⟨hi, hz⟩
  · dsimp only
    rw [decide_eq_false (by omega), cond_false, Nat.sub_self, rndC]
  · obtain ⟨k, hk⟩ : ∃ k, x.fN.toNat - i = k + 1 := ⟨x.fN.toNat - i - 1, by omega⟩
    rw [hk] at hb ⊢
    dsimp only at hz
    rw [rndC, if_pos hz]
    obtain ⟨ev, _, _⟩ := r181_eq hv hb.vals false x.fTerm hb.term
    have ht := hb.body.t
    have hp := uSs_pos f _ _ _ (Nat.lt_succ_self _) hb.hc
    have h0 := hb.t0
    have hcc := hb.cost
    have htw : i64.wrap (b.time + x.fCost) = b.time + x.fCost := by simp only [CS.add] at ht; exact wrap_id (by omega) (by omega)
    dsimp only [encG]
    rw [decide_eq_true (by omega), cond_true, GTerm.eta, ev]
    simp only [hz, decide_true, cond_true, htw]
    rfl
theorem nSs_sub {x : GStep} {l : List GStep} (hx : x ∈ l) : nSs x.fThen ≤ nSs l ∧ nSs x.fElse ≤ nSs l := by have := nSs_mem hx; have := nS_eq x; omega
theorem stOk_mem {f : Flat} {x : GStep} : ∀ {top : Bool} {l : List GStep}, stepC f top l = 0 → x ∈ l → ∃ last, StOk f last x
  | _, [], _, h => by cases h
  | _, y :: l, hc, h => by
    obtain ⟨h1, h2, h3, h4⟩ := stepC_cons hc
    rcases List.mem_cons.1 h with rfl | h
    · exact ⟨_, stOk_of h1⟩
    · exact stOk_mem h4 h
theorem m96_eq {f : Flat} (hv : VarsOk f.fVars) (hn : f.fVars.length ≤ 1000000) {hs : List Int} (hh : hs.length = f.fHatches.length) : ∀ n : Nat,
    (∀ (top : Bool) (l : List GStep) (s : CS), 2 * SizeOf.sizeOf l < n → nSs l ≤ 1000000 → Bud f top l s → m96 n f hs l (encG s) = some (encG (runC f hs l s))) ∧
    (∀ (x : GStep) (s : CS), 2 * SizeOf.sizeOf x.fThen + 1 < n → nSs x.fThen ≤ 1000000 → (0 ≤ x.fN ∧ x.fN ≤ 4096) → BudL f x x.fN.toNat s → m179 n f hs x (encG s) = some (encG (rndC (runC f hs x.fThen) x.fTerm x.fCost x.fN.toNat s)))
  | 0 => ⟨fun _ _ _ h => by omega, fun _ _ h => by omega⟩
  | n + 1 => by
    obtain ⟨i1, i2⟩ := m96_eq hv hn hh n
    refine ⟨fun top l s h hN hb0 => ?_, fun x s h hN hx hb => ?_⟩
    · refine s96_eq (m96 n) (m179 n) hv hn hh (Nat.le_trans (nSs_len l) hN) hb0 (fun x hx s hb => ?_) (fun x hx s hb => ?_) (fun x hx s h4 hb => ?_)
      · have := (sizeOf_then hx).1
        exact i1 false x.fThen s (by omega) (Nat.le_trans (nSs_sub hx).1 hN) hb
      · have := (sizeOf_then hx).2
        exact i1 false x.fElse s (by omega) (Nat.le_trans (nSs_sub hx).2 hN) hb
      · have := (sizeOf_then hx).1
        exact i2 x s (by omega) (Nat.le_trans (nSs_sub hx).1 hN) ((stOk_mem hb0.hc hx).choose_spec.n4 h4) hb
    · exact s179_eq (m96 n) (m179 n) hv hx hb (fun s hb => i1 false x.fThen s (by omega) hN hb)
end Go.Proofs.YtnfljbehcffmcaaGreat
end
noncomputable section
set_option maxRecDepth 100000
namespace Go.Proofs.YtnfljbehcffmcaaGreat
open Go Go.Iv
open Go.IntKind (i64)
def F80 : Orc := or0
theorem F80_ok : OrcG Tryz.prog F80 := or0_g
abbrev E80 : Type := Num
def d80 : Td 0 E80 := .c [] [2] (.r 0 1 (ec 2 (qp 0 0) en) (sb 0 34 (lg 34) sn) (fun z => z.2.1) (fun x => (((), ()), (x, ()))) fun _ => rfl)
def A80 := (lc (qi .i64) ln)
def an80 : An := .no
theorem fa80 : FnAn Tryz.prog (F80) 0 300 80 (an80) := fnAn_of (l := []) Tryz.func80 (bodyOf_eq (by kernel_rfl)) (by kernel_rfl) ob_nil
def m80 (a0 : Int) : E80 :=
 Num.mk a0 a0 (0)
theorem c80 (a0 : Int) : callR Tryz.prog (F80) 300 (an80) 80 (A80.c (a0, ())) [] 0 d80.rd = some (m80 a0) := by kernel_rfl
def e80 : Orc → Orc := eL Tryz.prog 80 false A80 d80 (fun g => some (m80 g.1))
theorem e80_ok {F : Orc} (h : OrcG Tryz.prog F) : OrcG Tryz.prog (e80 F) := eL_ok (sc := scU) scU_ok (hl_of F80_ok fa80 (fun _ => by kernel_rfl) (fun _ => by kernel_rfl) fun g => c80 g.1) ⟨_, Tryz.func80, by kernel_rfl, by kernel_rfl⟩ (fun _ => by kernel_rfl) (fun _ => by kernel_rfl) h
def F145 : Orc := or0
theorem F145_ok : OrcG Tryz.prog F145 := or0_g
abbrev E145 : Type := Bool
def d145 : Td 0 E145 := .c [] [2] (.r 0 0 (ec 2 qb en) sn (fun z => z.1.1) (fun x => ((x, ()), (()))) fun _ => rfl)
def A145 := (lc (qi .i64) ln)
def an145 : An := (.two .no (.two (.rb [] 2) .no))
theorem pu145  : ∀ f ∈ ([] : List Nat), PureF (F145) f := ob_nil
theorem fa145 : FnAn Tryz.prog (F145) 0 300 145 (an145) := fnAn_of (l := [(.skip, (.rb [] 2))]) Tryz.func145 (bodyOf_eq (by kernel_rfl)) (by kernel_rfl) (ob_cons pu145 ob_nil)
def m145 (a0 : Int) : E145 :=
 let r1 : Bool := bif decide (-1099511627776 ≤ a0) then decide (a0 ≤ 1099511627776) else false; r1
theorem c145 (a0 : Int) : callR Tryz.prog (F145) 300 (an145) 145 (A145.c (a0, ())) [] 0 d145.rd = some (m145 a0) := by
 refine Eq.trans (b := (
  match bif decide (-1099511627776 ≤ a0) then some (decide (a0 ≤ 1099511627776)) else some (false) with | none => none | some r1 => some (r1) : Option E145)) (by kernel_rfl) ?_
 simp only [m145, cond_some, ite_some]
def e145 : Orc → Orc := eL Tryz.prog 145 false A145 d145 (fun g => some (m145 g.1))
theorem e145_ok {F : Orc} (h : OrcG Tryz.prog F) : OrcG Tryz.prog (e145 F) := eL_ok (sc := scU) scU_ok (hl_of F145_ok fa145 (fun _ => by kernel_rfl) (fun _ => by kernel_rfl) fun g => c145 g.1) ⟨_, Tryz.func145, by kernel_rfl, by kernel_rfl⟩ (fun _ => by kernel_rfl) (fun _ => by kernel_rfl) h
theorem e145_pure {F : Orc} {f : Nat} (h : PureF F f) : PureF (e145 F) f := orL_pure h (fun _ => by kernel_rfl)
def F224 : Orc := or0
theorem F224_ok : OrcG Tryz.prog F224 := or0_g
abbrev E224 : Type := Num
def d224 : Td 0 E224 := .c [] [0] (.r 0 1 (ec 0 (qp 0 0) en) (sb 0 34 (lg 34) sn) (fun z => z.2.1) (fun x => (((), ()), (x, ()))) fun _ => rfl)
def A224 := ln
def an224 : An := .no
theorem fa224 : FnAn Tryz.prog (F224) 0 300 224 (an224) := fnAn_of (l := []) Tryz.func224 (bodyOf_eq (by kernel_rfl)) (by kernel_rfl) ob_nil
def m224  : E224 :=
 Num.mk (1) (0) (0)
theorem c224  : callR Tryz.prog (F224) 300 (an224) 224 (A224.c ()) [] 0 d224.rd = some (m224 ) := by kernel_rfl
def e224 : Orc → Orc := eL Tryz.prog 224 false A224 d224 (fun _ => some (m224 ))
theorem e224_ok {F : Orc} (h : OrcG Tryz.prog F) : OrcG Tryz.prog (e224 F) := eL_ok (sc := scU) scU_ok (hl_of F224_ok fa224 (fun _ => by kernel_rfl) (fun _ => by kernel_rfl) fun _ => c224) ⟨_, Tryz.func224, by kernel_rfl, by kernel_rfl⟩ (fun _ => by kernel_rfl) (fun _ => by kernel_rfl) h
theorem e224_pure {F : Orc} {f : Nat} (h : PureF F f) : PureF (e224 F) f := orL_pure h (fun _ => by kernel_rfl)
def F147 : Orc := (e224 or0)
theorem F147_ok : OrcG Tryz.prog F147 := (e224_ok or0_g)
abbrev E147 : Type := Bool
def d147 : Td 0 E147 := .c [] [2] (.r 0 0 (ec 2 qb en) sn (fun z => z.1.1) (fun x => ((x, ()), (()))) fun _ => rfl)
def A147 := (lc (qg 34) ln)
def an147 : An := .no
theorem fa147 : FnAn Tryz.prog (F147) 0 300 147 (an147) := fnAn_of (l := []) Tryz.func147 (bodyOf_eq (by kernel_rfl)) (by kernel_rfl) ob_nil
def m147 (a0 : Num) : E147 :=
 bif decide (a0.fLow = m224.fLow) then bif decide (a0.fHigh = m224.fHigh) then bif decide (a0.fStep = m224.fStep) then true else false else false else false
theorem c147 (a0 : Num) : callR Tryz.prog (F147) 300 (an147) 147 (A147.c (a0, ())) [] 0 d147.rd = some (m147 a0) := by
 refine Eq.trans (b := (
  some (bif decide (a0.fLow = m224.fLow) then bif decide (a0.fHigh = m224.fHigh) then bif decide (a0.fStep = m224.fStep) then true else false else false else false) : Option E147)) (by kernel_rfl) ?_
 simp only [m147, cond_some, ite_some]
def e147 : Orc → Orc := eL Tryz.prog 147 false A147 d147 (fun g => some (m147 g.1))
theorem e147_ok {F : Orc} (h : OrcG Tryz.prog F) : OrcG Tryz.prog (e147 F) := eL_ok (sc := scU) scU_ok (hl_of F147_ok fa147 (fun _ => by kernel_rfl) (fun _ => by kernel_rfl) fun g => c147 g.1) ⟨_, Tryz.func147, by kernel_rfl, by kernel_rfl⟩ (fun _ => by kernel_rfl) (fun _ => by kernel_rfl) h
theorem e147_pure {F : Orc} {f : Nat} (h : PureF F f) : PureF (e147 F) f := orL_pure h (fun _ => by kernel_rfl)
def F144 : Orc := (e147 (e145 or0))
theorem F144_ok : OrcG Tryz.prog F144 := (e147_ok (e145_ok or0_g))
abbrev E144 : Type := Bool
def d144 : Td 0 E144 := .c [] [2] (.r 0 0 (ec 2 qb en) sn (fun z => z.1.1) (fun x => ((x, ()), (()))) fun _ => rfl)
def A144 := (lc (qg 34) ln)
def an144 : An := (.two .no (.two .no (.two (.two (.rb [145] 21) .no) (.two .no (.two (.rb [145] 2) .no)))))
theorem pu144  : ∀ f ∈ ([145] : List Nat), PureF (F144) f := (ob_cons (e147_pure (e145_pure or0_pure)) ob_nil)
theorem fa144 : FnAn Tryz.prog (F144) 0 300 144 (an144) := fnAn_of (l := [(.skip, (.rb [145] 21)), (.skip, (.rb [145] 2))]) Tryz.func144 (bodyOf_eq (by kernel_rfl)) (by kernel_rfl) (ob_cons pu144 (ob_cons pu144 ob_nil))
def m144 (a0 : Num) : Option E144 :=
 bif m147 a0 then some (true) else match bif bif m145 a0.fLow then false else true then some (true) else bif bif m145 a0.fHigh then false else true then some (true) else some (decide (a0.fHigh < a0.fLow)) with | none => none | some r1 => bif r1 then some (false) else bif decide (a0.fLow = a0.fHigh) then some (decide (a0.fStep = 0)) else match bif decide (1 ≤ a0.fStep) then if ¬a0.fStep = (0 : Int) then some (decide ((i64.wrap (a0.fHigh - a0.fLow)).tmod a0.fStep = 0)) else none else some (false) with | none => none | some r2 => some (r2)
theorem c144 (a0 : Num) : callR Tryz.prog (F144) 300 (an144) 144 (A144.c (a0, ())) [] 0 d144.rd = m144 a0 := by kernel_rfl
def e144 : Orc → Orc := eL Tryz.prog 144 false A144 d144 (fun g => m144 g.1)
theorem e144_ok {F : Orc} (h : OrcG Tryz.prog F) : OrcG Tryz.prog (e144 F) := eL_ok (sc := scU) scU_ok (hl_of F144_ok fa144 (fun _ => by kernel_rfl) (fun _ => by kernel_rfl) fun g => c144 g.1) ⟨_, Tryz.func144, by kernel_rfl, by kernel_rfl⟩ (fun _ => by kernel_rfl) (fun _ => by kernel_rfl) h
theorem e144_pure {F : Orc} {f : Nat} (h : PureF F f) : PureF (e144 F) f := orL_pure h (fun _ => by kernel_rfl)
def F149 : Orc := or0
theorem F149_ok : OrcG Tryz.prog F149 := or0_g
abbrev E149 : Type := Num
def d149 : Td 0 E149 := .c [] [2] (.r 0 1 (ec 2 (qp 0 0) en) (sb 0 34 (lg 34) sn) (fun z => z.2.1) (fun x => (((), ()), (x, ()))) fun _ => rfl)
def A149 := (lc (qi .i64) ln)
def an149 : An := .no
theorem fa149 : FnAn Tryz.prog (F149) 0 300 149 (an149) := fnAn_of (l := []) Tryz.func149 (bodyOf_eq (by kernel_rfl)) (by kernel_rfl) ob_nil
def m149 (a0 : Int) : E149 :=
 Num.mk a0 a0 (0)
theorem c149 (a0 : Int) : callR Tryz.prog (F149) 300 (an149) 149 (A149.c (a0, ())) [] 0 d149.rd = some (m149 a0) := by kernel_rfl
def e149 : Orc → Orc := eL Tryz.prog 149 false A149 d149 (fun g => some (m149 g.1))
theorem e149_ok {F : Orc} (h : OrcG Tryz.prog F) : OrcG Tryz.prog (e149 F) := eL_ok (sc := scU) scU_ok (hl_of F149_ok fa149 (fun _ => by kernel_rfl) (fun _ => by kernel_rfl) fun g => c149 g.1) ⟨_, Tryz.func149, by kernel_rfl, by kernel_rfl⟩ (fun _ => by kernel_rfl) (fun _ => by kernel_rfl) h
theorem e149_pure {F : Orc} {f : Nat} (h : PureF F f) : PureF (e149 F) f := orL_pure h (fun _ => by kernel_rfl)
def F225 : Orc := (e224 (e149 or0))
theorem F225_ok : OrcG Tryz.prog F225 := (e224_ok (e149_ok or0_g))
abbrev E225 : Type := Num
def d225 : Td 0 E225 := .c [] [6] (.r 0 1 (ec 6 (qp 0 0) en) (sb 0 34 (lg 34) sn) (fun z => z.2.1) (fun x => (((), ()), (x, ()))) fun _ => rfl)
def A225 := (lc (qi .i64) (lc (qi .i64) (lc (qi .i64) ln)))
def an225 : An := .no
theorem fa225 : FnAn Tryz.prog (F225) 0 300 225 (an225) := fnAn_of (l := []) Tryz.func225 (bodyOf_eq (by kernel_rfl)) (by kernel_rfl) ob_nil
def m225 (a0 : Int) (a1 : Int) (a2 : Int) : Option E225 :=
 bif decide (a1 < a0) then some (m224) else bif decide (a2 = 0) then some (m149 a0) else if ¬a2 = (0 : Int) then bif decide (a0 = i64.wrap (a0 + i64.wrap (i64.wrap ((i64.wrap (a1 - a0)).tdiv a2) * a2))) then some (m149 a0) else some (Num.mk a0 (i64.wrap (a0 + i64.wrap (i64.wrap ((i64.wrap (a1 - a0)).tdiv a2) * a2))) a2) else none
theorem c225 (a0 : Int) (a1 : Int) (a2 : Int) : callR Tryz.prog (F225) 300 (an225) 225 (A225.c (a0, a1, a2, ())) [] 0 d225.rd = m225 a0 a1 a2 := by kernel_rfl
def e225 : Orc → Orc := eL Tryz.prog 225 false A225 d225 (fun g => m225 g.1 g.2.1 g.2.2.1)
theorem e225_ok {F : Orc} (h : OrcG Tryz.prog F) : OrcG Tryz.prog (e225 F) := eL_ok (sc := scU) scU_ok (hl_of F225_ok fa225 (fun _ => by kernel_rfl) (fun _ => by kernel_rfl) fun g => c225 g.1 g.2.1 g.2.2.1) ⟨_, Tryz.func225, by kernel_rfl, by kernel_rfl⟩ (fun _ => by kernel_rfl) (fun _ => by kernel_rfl) h
theorem e225_pure {F : Orc} {f : Nat} (h : PureF F f) : PureF (e225 F) f := orL_pure h (fun _ => by kernel_rfl)
def F146 : Orc := (e225 (e224 (e147 or0)))
theorem F146_ok : OrcG Tryz.prog F146 := (e225_ok (e224_ok (e147_ok or0_g)))
abbrev E146 : Type := Num × Num
def d146 : Td 0 E146 := .c [] [4, 5] (.r 0 2 (ec 4 (qp 0 0) (ec 5 (qp 1 0) en)) (sb 0 34 (lg 34) (sb 1 34 (lg 34) sn)) (fun z => (z.2.1, z.2.2.1)) (fun x => (((), (), ()), (x.1, x.2, ()))) fun _ => rfl)
def A146 := (lc (qg 34) (lc (qi .i64) ln))
def an146 : An := (.two .no (.two (.two (.rb [147] 7) .no) .no))
theorem pu146  : ∀ f ∈ ([147] : List Nat), PureF (F146) f := (ob_cons (e225_pure (e224_pure (e147_pure or0_pure))) ob_nil)
theorem fa146 : FnAn Tryz.prog (F146) 0 300 146 (an146) := fnAn_of (l := [(.skip, (.rb [147] 7))]) Tryz.func146 (bodyOf_eq (by kernel_rfl)) (by kernel_rfl) (ob_cons pu146 ob_nil)
def m146 (a0 : Num) (a1 : Int) : Option E146 :=
 match bif m147 a0 then some (true) else some (decide (a1 < a0.fLow)) with | none => none | some r1 => bif r1 then some ((m224, a0)) else bif decide (a0.fHigh ≤ a1) then some ((a0, m224)) else match m225 a0.fLow a1 a0.fStep with | none => none | some r2 => match m225 (i64.wrap (r2.fHigh + a0.fStep)) a0.fHigh a0.fStep with | none => none | some r3 => some ((r2, r3))
theorem c146 (a0 : Num) (a1 : Int) : callR Tryz.prog (F146) 300 (an146) 146 (A146.c (a0, a1, ())) [] 0 d146.rd = m146 a0 a1 := by kernel_rfl
def e146 : Orc → Orc := eL Tryz.prog 146 false A146 d146 (fun g => m146 g.1 g.2.1)
theorem e146_ok {F : Orc} (h : OrcG Tryz.prog F) : OrcG Tryz.prog (e146 F) := eL_ok (sc := scU) scU_ok (hl_of F146_ok fa146 (fun _ => by kernel_rfl) (fun _ => by kernel_rfl) fun g => c146 g.1 g.2.1) ⟨_, Tryz.func146, by kernel_rfl, by kernel_rfl⟩ (fun _ => by kernel_rfl) (fun _ => by kernel_rfl) h
theorem e146_pure {F : Orc} {f : Nat} (h : PureF F f) : PureF (e146 F) f := orL_pure h (fun _ => by kernel_rfl)
def F226 : Orc := or0
theorem F226_ok : OrcG Tryz.prog F226 := or0_g
structure L226_1 where
 t3 : Int
 t5 : Int
 t6 : List Int
 t7 : Int
 t8 : Int
def d226_1 : Td 0 L226_1 := .c [] [3, 5, 6, 7, 8] (.r 0 0 (ec 3 (qi .i64) (ec 5 (qi .i64) (ec 6 (ql 3) (ec 7 (qi .i64) (ec 8 (qi .i64) en))))) sn (fun z => ⟨z.1.1, z.1.2.1, z.1.2.2.1, z.1.2.2.2.1, z.1.2.2.2.2.1⟩) (fun x => ((x.t3, x.t5, x.t6, x.t7, x.t8, ()), (()))) fun _ => rfl)
def n226_1 (p : L226_1) : Option (Option L226_1) :=
 bif bif decide (p.t5 = 0) then false else true then if ¬p.t5 = (0 : Int) then some (some (L226_1.mk p.t5 (p.t3.tmod p.t5) p.t6 p.t7 p.t8)) else none else some (none)
theorem q226_1 (p : L226_1) : execA Tryz.prog (F226) Tryz.f226.ntmps 300 (loopAt Tryz.f226 1) .no (Option L226_1) (d226_1.pat p) (kOn d226_1.rd) = n226_1 p := by kernel_rfl
def a226_1 : L226_1 → Option L226_1 := advG (n226_1)
structure L226_0 where
 t3 : Int
 t6 : List Int
 t7 : Int
 t8 : Int
def d226_0 : Td 0 L226_0 := .c [] [3, 6, 7, 8] (.r 0 0 (ec 3 (qi .i64) (ec 6 (ql 3) (ec 7 (qi .i64) (ec 8 (qi .i64) en)))) sn (fun z => ⟨z.1.1, z.1.2.1, z.1.2.2.1, z.1.2.2.2.1⟩) (fun x => ((x.t3, x.t6, x.t7, x.t8, ()), (()))) fun _ => rfl)
def n226_0 (p : L226_0) : Option (Option L226_0) :=
 bif decide (p.t8 < p.t7) then if (0 : Int) ≤ p.t8 ∧ p.t8 < (↑p.t6.length : Int) then match a226_1 (L226_1.mk p.t3 p.t6[p.t8.toNat]! p.t6 p.t7 p.t8) with | none => none | some r1 => bif bif decide (r1.t5 = 0) then false else true then if ¬r1.t5 = (0 : Int) then none else none else some (some (L226_0.mk r1.t3 r1.t6 r1.t7 (i64.wrap (r1.t8 + 1)))) else none else some (none)
def g226_0 : An := (.two .no (.two .no (.two (.two .no (d226_1.lp a226_1 .no)) .no)))
theorem q226_0 (p : L226_0) : execA Tryz.prog (F226) Tryz.f226.ntmps 300 (loopAt Tryz.f226 0) g226_0 (Option L226_0) (d226_0.pat p) (kOn d226_0.rd) = n226_0 p := by kernel_rfl
def a226_0 : L226_0 → Option L226_0 := advG (n226_0)
abbrev E226 : Type := Int
def d226 : Td 0 E226 := .c [] [2] (.r 0 0 (ec 2 (qi .i64) en) sn (fun z => z.1.1) (fun x => ((x, ()), (()))) fun _ => rfl)
def A226 := (lc (ql 3) ln)
def an226 : An := (.two .no (.two .no (.two (.two .no (d226_0.lp a226_0 g226_0)) .no)))
theorem fa226 : FnAn Tryz.prog (F226) 0 300 226 (an226) := fnAn_of (l := [(loopAt Tryz.f226 0, (d226_0.lp a226_0 g226_0)), (loopAt Tryz.f226 1, (d226_1.lp a226_1 .no))]) Tryz.func226 (bodyOf_eq (by kernel_rfl)) (by kernel_rfl) (ob_cons ⟨d226_0.ok _, advG_ok (q226_0)⟩ (ob_cons ⟨d226_1.ok _, advG_ok (q226_1)⟩ ob_nil))
def m226 (a0 : List Int) : Option E226 :=
 match a226_0 (L226_0.mk (0) a0 (↑a0.length : Int) (0)) with | none => none | some r2 => bif decide (r2.t8 < r2.t7) then if (0 : Int) ≤ r2.t8 ∧ r2.t8 < (↑r2.t6.length : Int) then match a226_1 (L226_1.mk r2.t3 r2.t6[r2.t8.toNat]! r2.t6 r2.t7 r2.t8) with | none => none | some r3 => bif bif decide (r3.t5 = 0) then false else true then if ¬r3.t5 = (0 : Int) then none else none else none else none else some (r2.t3)
theorem c226 (a0 : List Int) : callR Tryz.prog (F226) 300 (an226) 226 (A226.c (a0, ())) [] 0 d226.rd = m226 a0 := by kernel_rfl
def e226 : Orc → Orc := eL Tryz.prog 226 false A226 d226 (fun g => m226 g.1)
theorem e226_ok {F : Orc} (h : OrcG Tryz.prog F) : OrcG Tryz.prog (e226 F) := eL_ok (sc := scU) scU_ok (hl_of F226_ok fa226 (fun _ => by kernel_rfl) (fun _ => by kernel_rfl) fun g => c226 g.1) ⟨_, Tryz.func226, by kernel_rfl, by kernel_rfl⟩ (fun _ => by kernel_rfl) (fun _ => by kernel_rfl) h
theorem e226_pure {F : Orc} {f : Nat} (h : PureF F f) : PureF (e226 F) f := orL_pure h (fun _ => by kernel_rfl)
def F227 : Orc := or0
theorem F227_ok : OrcG Tryz.prog F227 := or0_g
abbrev E227 : Type := Int
def d227 : Td 0 E227 := .c [] [2] (.r 0 0 (ec 2 (qi .i64) en) sn (fun z => z.1.1) (fun x => ((x, ()), (()))) fun _ => rfl)
def A227 := (lc (qi .i64) ln)
def an227 : An := .no
theorem fa227 : FnAn Tryz.prog (F227) 0 300 227 (an227) := fnAn_of (l := []) Tryz.func227 (bodyOf_eq (by kernel_rfl)) (by kernel_rfl) ob_nil
def m227 (a0 : Int) : E227 :=
 if a0 < i64.wrap (0 - a0) then i64.wrap (0 - a0) else a0
theorem c227 (a0 : Int) : callR Tryz.prog (F227) 300 (an227) 227 (A227.c (a0, ())) [] 0 d227.rd = some (m227 a0) := by
 refine Eq.trans (b := (
  some (if a0 < i64.wrap (0 - a0) then i64.wrap (0 - a0) else a0) : Option E227)) (by kernel_rfl) ?_
 simp only [m227, cond_some, ite_some]
def e227 : Orc → Orc := eL Tryz.prog 227 false A227 d227 (fun g => some (m227 g.1))
theorem e227_ok {F : Orc} (h : OrcG Tryz.prog F) : OrcG Tryz.prog (e227 F) := eL_ok (sc := scU) scU_ok (hl_of F227_ok fa227 (fun _ => by kernel_rfl) (fun _ => by kernel_rfl) fun g => c227 g.1) ⟨_, Tryz.func227, by kernel_rfl, by kernel_rfl⟩ (fun _ => by kernel_rfl) (fun _ => by kernel_rfl) h
theorem e227_pure {F : Orc} {f : Nat} (h : PureF F f) : PureF (e227 F) f := orL_pure h (fun _ => by kernel_rfl)
def F148 : Orc := (e227 (e226 (e225 (e147 or0))))
theorem F148_ok : OrcG Tryz.prog F148 := (e227_ok (e226_ok (e225_ok (e147_ok or0_g))))
abbrev E148 : Type := Num
def d148 : Td 0 E148 := .c [] [4] (.r 0 1 (ec 4 (qp 0 0) en) (sb 0 34 (lg 34) sn) (fun z => z.2.1) (fun x => (((), ()), (x, ()))) fun _ => rfl)
def A148 := (lc (qg 34) (lc (qg 34) ln))
def an148 : An := (.two .no (.two .no (.two (.two (.rb [147] 14) .no) .no)))
theorem pu148  : ∀ f ∈ ([147] : List Nat), PureF (F148) f := (ob_cons (e227_pure (e226_pure (e225_pure (e147_pure or0_pure)))) ob_nil)
theorem fa148 : FnAn Tryz.prog (F148) 0 300 148 (an148) := fnAn_of (l := [(.skip, (.rb [147] 14))]) Tryz.func148 (bodyOf_eq (by kernel_rfl)) (by kernel_rfl) (ob_cons pu148 ob_nil)
def m148 (a0 : Num) (a1 : Num) : Option E148 :=
 bif m147 a0 then some (a1) else match bif m147 a1 then some (true) else some (bif decide (a0.fLow = a1.fLow) then bif decide (a0.fHigh = a1.fHigh) then bif decide (a0.fStep = a1.fStep) then true else false else false else false) with | none => none | some r1 => bif r1 then some (a0) else match m226 [a0.fStep, a1.fStep, m227 (i64.wrap (a0.fLow - a1.fLow))] with | none => none | some r2 => match m225 (if a1.fLow < a0.fLow then a1.fLow else a0.fLow) (if a0.fHigh < a1.fHigh then a1.fHigh else a0.fHigh) r2 with | none => none | some r3 => some (r3)
theorem c148 (a0 : Num) (a1 : Num) : callR Tryz.prog (F148) 300 (an148) 148 (A148.c (a0, a1, ())) [] 0 d148.rd = m148 a0 a1 := by kernel_rfl
def e148 : Orc → Orc := eL Tryz.prog 148 false A148 d148 (fun g => m148 g.1 g.2.1)
theorem e148_ok {F : Orc} (h : OrcG Tryz.prog F) : OrcG Tryz.prog (e148 F) := eL_ok (sc := scU) scU_ok (hl_of F148_ok fa148 (fun _ => by kernel_rfl) (fun _ => by kernel_rfl) fun g => c148 g.1 g.2.1) ⟨_, Tryz.func148, by kernel_rfl, by kernel_rfl⟩ (fun _ => by kernel_rfl) (fun _ => by kernel_rfl) h
theorem e148_pure {F : Orc} {f : Nat} (h : PureF F f) : PureF (e148 F) f := orL_pure h (fun _ => by kernel_rfl)
def F81 : Orc := (e149 (e148 (e147 (e146 (e145 (e144 or0))))))
theorem F81_ok : OrcG Tryz.prog F81 := (e149_ok (e148_ok (e147_ok (e146_ok (e145_ok (e144_ok or0_g))))))
abbrev E81 : Type := Num × Int
def d81 : Td 0 E81 := .c [] [6, 7] (.r 0 1 (ec 6 (qp 0 0) (ec 7 (qi .i64) en)) (sb 0 34 (lg 34) sn) (fun z => (z.2.1, z.1.2.1)) (fun x => (((), x.2, ()), (x.1, ()))) fun _ => rfl)
def A81 := (lc (qg 34) (lc (qi .i64) (lc (qi .i64) ln)))
def an81 : An := (.two .no (.two .no (.two (.two (.rb [145] 28) .no) .no)))
theorem pu81  : ∀ f ∈ ([145] : List Nat), PureF (F81) f := (ob_cons (e149_pure (e148_pure (e147_pure (e146_pure (e145_pure (e144_pure or0_pure)))))) ob_nil)
theorem fa81 : FnAn Tryz.prog (F81) 0 300 81 (an81) := fnAn_of (l := [(.skip, (.rb [145] 28))]) Tryz.func81 (bodyOf_eq (by kernel_rfl)) (by kernel_rfl) (ob_cons pu81 ob_nil)
def m81 (a0 : Num) (a1 : Int) (a2 : Int) : Option E81 :=
 match m144 a0 with | none => none | some r1 => bif bif r1 then false else true then some ((Num.mk (0) (0) (0), 1)) else match bif decide (a2 < a1) then some (true) else bif bif m145 a1 then false else true then some (true) else some (bif m145 a2 then false else true) with | none => none | some r2 => bif r2 then some ((Num.mk (0) (0) (0), 3)) else match m146 a0 (i64.wrap (a1 - 1)) with | none => none | some r3 => match m146 r3.snd a2 with | none => none | some r4 => bif bif m147 r3.fst then false else true then match m148 r4.fst (m149 a1) with | none => none | some r5 => bif bif m147 r4.snd then false else true then match m148 r5 (m149 a2) with | none => none | some r6 => some ((r6, 0)) else some ((r5, 0)) else bif bif m147 r4.snd then false else true then match m148 r4.fst (m149 a2) with | none => none | some r7 => some ((r7, 0)) else some ((r4.fst, 0))
theorem c81 (a0 : Num) (a1 : Int) (a2 : Int) : callR Tryz.prog (F81) 300 (an81) 81 (A81.c (a0, a1, a2, ())) [] 0 d81.rd = m81 a0 a1 a2 := by kernel_rfl
def e81 : Orc → Orc := eL Tryz.prog 81 false A81 d81 (fun g => m81 g.1 g.2.1 g.2.2.1)
theorem e81_ok {F : Orc} (h : OrcG Tryz.prog F) : OrcG Tryz.prog (e81 F) := eL_ok (sc := scU) scU_ok (hl_of F81_ok fa81 (fun _ => by kernel_rfl) (fun _ => by kernel_rfl) fun g => c81 g.1 g.2.1 g.2.2.1) ⟨_, Tryz.func81, by kernel_rfl, by kernel_rfl⟩ (fun _ => by kernel_rfl) (fun _ => by kernel_rfl) h
def F177 : Orc := (e147 or0)
theorem F177_ok : OrcG Tryz.prog F177 := (e147_ok or0_g)
abbrev E177 : Type := Bool
def d177 : Td 0 E177 := .c [] [4] (.r 0 0 (ec 4 qb en) sn (fun z => z.1.1) (fun x => ((x, ()), (()))) fun _ => rfl)
def A177 := (lc (qg 34) (lc (qi .i64) ln))
def an177 : An := (.two .no (.two (.two (.rb [147] 18) .no) (.two (.rb [147] 4) .no)))
theorem pu177  : ∀ f ∈ ([147] : List Nat), PureF (F177) f := (ob_cons (e147_pure or0_pure) ob_nil)
theorem fa177 : FnAn Tryz.prog (F177) 0 300 177 (an177) := fnAn_of (l := [(.skip, (.rb [147] 18)), (.skip, (.rb [147] 4))]) Tryz.func177 (bodyOf_eq (by kernel_rfl)) (by kernel_rfl) (ob_cons pu177 (ob_cons pu177 ob_nil))
def m177 (a0 : Num) (a1 : Int) : Option E177 :=
 match bif m147 a0 then some (true) else bif decide (a1 < a0.fLow) then some (true) else some (decide (a0.fHigh < a1)) with | none => none | some r1 => bif r1 then some (false) else match bif decide (a0.fStep = 0) then some (true) else if ¬a0.fStep = (0 : Int) then some (decide ((i64.wrap (a1 - a0.fLow)).tmod a0.fStep = 0)) else none with | none => none | some r2 => some (r2)
theorem c177 (a0 : Num) (a1 : Int) : callR Tryz.prog (F177) 300 (an177) 177 (A177.c (a0, a1, ())) [] 0 d177.rd = m177 a0 a1 := by kernel_rfl
def e177 : Orc → Orc := eL Tryz.prog 177 false A177 d177 (fun g => m177 g.1 g.2.1)
theorem e177_ok {F : Orc} (h : OrcG Tryz.prog F) : OrcG Tryz.prog (e177 F) := eL_ok (sc := scU) scU_ok (hl_of F177_ok fa177 (fun _ => by kernel_rfl) (fun _ => by kernel_rfl) fun g => c177 g.1 g.2.1) ⟨_, Tryz.func177, by kernel_rfl, by kernel_rfl⟩ (fun _ => by kernel_rfl) (fun _ => by kernel_rfl) h
theorem e177_pure {F : Orc} {f : Nat} (h : PureF F f) : PureF (e177 F) f := orL_pure h (fun _ => by kernel_rfl)
def F92 : Orc := (e177 (e144 or0))
theorem F92_ok : OrcG Tryz.prog F92 := (e177_ok (e144_ok or0_g))
abbrev E92 : Type := Bool
def d92 : Td 0 E92 := .c [] [4] (.r 0 0 (ec 4 qb en) sn (fun z => z.1.1) (fun x => ((x, ()), (()))) fun _ => rfl)
def A92 := (lc (qg 34) (lc (qi .i64) ln))
def an92 : An := (.two .no (.two (.rb [144, 177] 4) .no))
theorem pu92  : ∀ f ∈ ([144, 177] : List Nat), PureF (F92) f := (ob_cons (e177_pure (e144_pure or0_pure)) (ob_cons (e177_pure (e144_pure or0_pure)) ob_nil))
theorem fa92 : FnAn Tryz.prog (F92) 0 300 92 (an92) := fnAn_of (l := [(.skip, (.rb [144, 177] 4))]) Tryz.func92 (bodyOf_eq (by kernel_rfl)) (by kernel_rfl) (ob_cons pu92 ob_nil)
def m92 (a0 : Num) (a1 : Int) : Option E92 :=
 match match m144 a0 with | none => none | some r1 => bif r1 then match m177 a0 a1 with | none => none | some r2 => some (r2) else some (false) with | none => none | some r3 => some (r3)
theorem c92 (a0 : Num) (a1 : Int) : callR Tryz.prog (F92) 300 (an92) 92 (A92.c (a0, a1, ())) [] 0 d92.rd = m92 a0 a1 := by kernel_rfl
def e92 : Orc → Orc := eL Tryz.prog 92 false A92 d92 (fun g => m92 g.1 g.2.1)
theorem e92_ok {F : Orc} (h : OrcG Tryz.prog F) : OrcG Tryz.prog (e92 F) := eL_ok (sc := scU) scU_ok (hl_of F92_ok fa92 (fun _ => by kernel_rfl) (fun _ => by kernel_rfl) fun g => c92 g.1 g.2.1) ⟨_, Tryz.func92, by kernel_rfl, by kernel_rfl⟩ (fun _ => by kernel_rfl) (fun _ => by kernel_rfl) h
def F176 : Orc := (e147 or0)
theorem F176_ok : OrcG Tryz.prog F176 := (e147_ok or0_g)
abbrev E176 : Type := Int
def d176 : Td 0 E176 := .c [] [2] (.r 0 0 (ec 2 (qi .i64) en) sn (fun z => z.1.1) (fun x => ((x, ()), (()))) fun _ => rfl)
def A176 := (lc (qg 34) ln)
def an176 : An := .no
theorem fa176 : FnAn Tryz.prog (F176) 0 300 176 (an176) := fnAn_of (l := []) Tryz.func176 (bodyOf_eq (by kernel_rfl)) (by kernel_rfl) ob_nil
def m176 (a0 : Num) : Option E176 :=
 bif m147 a0 then some (0) else bif decide (a0.fStep = 0) then some (1) else if ¬a0.fStep = (0 : Int) then some (i64.wrap (i64.wrap ((i64.wrap (a0.fHigh - a0.fLow)).tdiv a0.fStep) + 1)) else none
theorem c176 (a0 : Num) : callR Tryz.prog (F176) 300 (an176) 176 (A176.c (a0, ())) [] 0 d176.rd = m176 a0 := by kernel_rfl
def e176 : Orc → Orc := eL Tryz.prog 176 false A176 d176 (fun g => m176 g.1)
theorem e176_ok {F : Orc} (h : OrcG Tryz.prog F) : OrcG Tryz.prog (e176 F) := eL_ok (sc := scU) scU_ok (hl_of F176_ok fa176 (fun _ => by kernel_rfl) (fun _ => by kernel_rfl) fun g => c176 g.1) ⟨_, Tryz.func176, by kernel_rfl, by kernel_rfl⟩ (fun _ => by kernel_rfl) (fun _ => by kernel_rfl) h
theorem e176_pure {F : Orc} {f : Nat} (h : PureF F f) : PureF (e176 F) f := orL_pure h (fun _ => by kernel_rfl)
def F228 : Orc := (e177 (e176 or0))
theorem F228_ok : OrcG Tryz.prog F228 := (e177_ok (e176_ok or0_g))
abbrev E228 : Type := Bool × Bool
def d228 : Td 0 E228 := .c [] [2, 3] (.r 0 0 (ec 2 qb (ec 3 qb en)) sn (fun z => (z.1.1, z.1.2.1)) (fun x => ((x.1, x.2, ()), (()))) fun _ => rfl)
def A228 := (lc (qg 34) ln)
def an228 : An := .no
theorem fa228 : FnAn Tryz.prog (F228) 0 300 228 (an228) := fnAn_of (l := []) Tryz.func228 (bodyOf_eq (by kernel_rfl)) (by kernel_rfl) ob_nil
def m228 (a0 : Num) : Option E228 :=
 match m177 a0 (0) with | none => none | some r1 => match m176 a0 with | none => none | some r2 => bif decide (1 < r2) then some ((r1, true)) else match m176 a0 with | none => none | some r3 => bif decide (r3 = 1) then some ((r1, bif decide (a0.fLow = 0) then false else true)) else some ((r1, false))
theorem c228 (a0 : Num) : callR Tryz.prog (F228) 300 (an228) 228 (A228.c (a0, ())) [] 0 d228.rd = m228 a0 := by kernel_rfl
def e228 : Orc → Orc := eL Tryz.prog 228 false A228 d228 (fun g => m228 g.1)
theorem e228_ok {F : Orc} (h : OrcG Tryz.prog F) : OrcG Tryz.prog (e228 F) := eL_ok (sc := scU) scU_ok (hl_of F228_ok fa228 (fun _ => by kernel_rfl) (fun _ => by kernel_rfl) fun g => c228 g.1) ⟨_, Tryz.func228, by kernel_rfl, by kernel_rfl⟩ (fun _ => by kernel_rfl) (fun _ => by kernel_rfl) h
theorem e228_pure {F : Orc} {f : Nat} (h : PureF F f) : PureF (e228 F) f := orL_pure h (fun _ => by kernel_rfl)
def F151 : Orc := (e228 (e144 or0))
theorem F151_ok : OrcG Tryz.prog F151 := (e228_ok (e144_ok or0_g))
abbrev E151 : Type := Bool × Bool
def d151 : Td 0 E151 := .c [] [2, 3] (.r 0 0 (ec 2 qb (ec 3 qb en)) sn (fun z => (z.1.1, z.1.2.1)) (fun x => ((x.1, x.2, ()), (()))) fun _ => rfl)
def A151 := (lc (qg 34) ln)
def an151 : An := .no
theorem fa151 : FnAn Tryz.prog (F151) 0 300 151 (an151) := fnAn_of (l := []) Tryz.func151 (bodyOf_eq (by kernel_rfl)) (by kernel_rfl) ob_nil
def m151 (a0 : Num) : Option E151 :=
 match m144 a0 with | none => none | some r1 => bif bif r1 then false else true then some ((false, false)) else match m228 a0 with | none => none | some r2 => some (r2)
theorem c151 (a0 : Num) : callR Tryz.prog (F151) 300 (an151) 151 (A151.c (a0, ())) [] 0 d151.rd = m151 a0 := by kernel_rfl
def e151 : Orc → Orc := eL Tryz.prog 151 false A151 d151 (fun g => m151 g.1)
theorem e151_ok {F : Orc} (h : OrcG Tryz.prog F) : OrcG Tryz.prog (e151 F) := eL_ok (sc := scU) scU_ok (hl_of F151_ok fa151 (fun _ => by kernel_rfl) (fun _ => by kernel_rfl) fun g => c151 g.1) ⟨_, Tryz.func151, by kernel_rfl, by kernel_rfl⟩ (fun _ => by kernel_rfl) (fun _ => by kernel_rfl) h
def F229 : Orc := (e148 (e144 or0))
theorem F229_ok : OrcG Tryz.prog F229 := (e148_ok (e144_ok or0_g))
abbrev E229 : Type := Num × Int
def d229 : Td 0 E229 := .c [] [4, 5] (.r 0 1 (ec 4 (qp 0 0) (ec 5 (qi .i64) en)) (sb 0 34 (lg 34) sn) (fun z => (z.2.1, z.1.2.1)) (fun x => (((), x.2, ()), (x.1, ()))) fun _ => rfl)
def A229 := (lc (qg 34) (lc (qg 34) ln))
def an229 : An := (.two .no (.two (.two (.rb [144] 13) .no) .no))
theorem pu229  : ∀ f ∈ ([144] : List Nat), PureF (F229) f := (ob_cons (e148_pure (e144_pure or0_pure)) ob_nil)
theorem fa229 : FnAn Tryz.prog (F229) 0 300 229 (an229) := fnAn_of (l := [(.skip, (.rb [144] 13))]) Tryz.func229 (bodyOf_eq (by kernel_rfl)) (by kernel_rfl) (ob_cons pu229 ob_nil)
def m229 (a0 : Num) (a1 : Num) : Option E229 :=
 match match m144 a0 with | none => none | some r1 => bif bif r1 then false else true then some (true) else match m144 a1 with | none => none | some r2 => some (bif r2 then false else true) with | none => none | some r3 => bif r3 then some ((Num.mk (0) (0) (0), 1)) else match m148 a0 a1 with | none => none | some r4 => some ((r4, 0))
theorem c229 (a0 : Num) (a1 : Num) : callR Tryz.prog (F229) 300 (an229) 229 (A229.c (a0, a1, ())) [] 0 d229.rd = m229 a0 a1 := by kernel_rfl
def e229 : Orc → Orc := eL Tryz.prog 229 false A229 d229 (fun g => m229 g.1 g.2.1)
theorem e229_ok {F : Orc} (h : OrcG Tryz.prog F) : OrcG Tryz.prog (e229 F) := eL_ok (sc := scU) scU_ok (hl_of F229_ok fa229 (fun _ => by kernel_rfl) (fun _ => by kernel_rfl) fun g => c229 g.1 g.2.1) ⟨_, Tryz.func229, by kernel_rfl, by kernel_rfl⟩ (fun _ => by kernel_rfl) (fun _ => by kernel_rfl) h
def F152 : Orc := (e229 or0)
theorem F152_ok : OrcG Tryz.prog F152 := (e229_ok or0_g)
abbrev E152 : Type := Num
def d152 : Td 0 E152 := .c [] [4] (.r 0 1 (ec 4 (qp 0 0) en) (sb 0 34 (lg 34) sn) (fun z => z.2.1) (fun x => (((), ()), (x, ()))) fun _ => rfl)
def A152 := (lc (qg 34) (lc (qg 34) ln))
def an152 : An := .no
theorem fa152 : FnAn Tryz.prog (F152) 0 300 152 (an152) := fnAn_of (l := []) Tryz.func152 (bodyOf_eq (by kernel_rfl)) (by kernel_rfl) ob_nil
def m152 (a0 : Num) (a1 : Num) : Option E152 :=
 bif bif decide (a0.fLow = a1.fLow) then bif decide (a0.fHigh = a1.fHigh) then bif decide (a0.fStep = a1.fStep) then true else false else false else false then some (a0) else match m229 a0 a1 with | none => none | some r1 => some (r1.fst)
theorem c152 (a0 : Num) (a1 : Num) : callR Tryz.prog (F152) 300 (an152) 152 (A152.c (a0, a1, ())) [] 0 d152.rd = m152 a0 a1 := by kernel_rfl
def e152 : Orc → Orc := eL Tryz.prog 152 false A152 d152 (fun g => m152 g.1 g.2.1)
theorem e152_ok {F : Orc} (h : OrcG Tryz.prog F) : OrcG Tryz.prog (e152 F) := eL_ok (sc := scU) scU_ok (hl_of F152_ok fa152 (fun _ => by kernel_rfl) (fun _ => by kernel_rfl) fun g => c152 g.1 g.2.1) ⟨_, Tryz.func152, by kernel_rfl, by kernel_rfl⟩ (fun _ => by kernel_rfl) (fun _ => by kernel_rfl) h
def F153 : Orc := (e224 or0)
theorem F153_ok : OrcG Tryz.prog F153 := (e224_ok or0_g)
abbrev E153 : Type := Num
def d153 : Td 0 E153 := .c [] [0] (.r 0 1 (ec 0 (qp 0 0) en) (sb 0 34 (lg 34) sn) (fun z => z.2.1) (fun x => (((), ()), (x, ()))) fun _ => rfl)
def A153 := ln
def an153 : An := .no
theorem fa153 : FnAn Tryz.prog (F153) 0 300 153 (an153) := fnAn_of (l := []) Tryz.func153 (bodyOf_eq (by kernel_rfl)) (by kernel_rfl) ob_nil
def m153  : E153 :=
 m224
theorem c153  : callR Tryz.prog (F153) 300 (an153) 153 (A153.c ()) [] 0 d153.rd = some (m153 ) := by kernel_rfl
def e153 : Orc → Orc := eL Tryz.prog 153 false A153 d153 (fun _ => some (m153 ))
theorem e153_ok {F : Orc} (h : OrcG Tryz.prog F) : OrcG Tryz.prog (e153 F) := eL_ok (sc := scU) scU_ok (hl_of F153_ok fa153 (fun _ => by kernel_rfl) (fun _ => by kernel_rfl) fun _ => c153) ⟨_, Tryz.func153, by kernel_rfl, by kernel_rfl⟩ (fun _ => by kernel_rfl) (fun _ => by kernel_rfl) h
def F230 : Orc := (e224 (e149 (e148 or0)))
theorem F230_ok : OrcG Tryz.prog F230 := (e224_ok (e149_ok (e148_ok or0_g)))
abbrev E230 : Type := Num
def d230 : Td 0 E230 := .c [] [4] (.r 0 1 (ec 4 (qp 0 0) en) (sb 0 34 (lg 34) sn) (fun z => z.2.1) (fun x => (((), ()), (x, ()))) fun _ => rfl)
def A230 := (lc qb (lc qb ln))
def an230 : An := .no
theorem fa230 : FnAn Tryz.prog (F230) 0 300 230 (an230) := fnAn_of (l := []) Tryz.func230 (bodyOf_eq (by kernel_rfl)) (by kernel_rfl) ob_nil
def m230 (a0 : Bool) (a1 : Bool) : Option E230 :=
 bif a0 then match m148 m224 (m149 (0)) with | none => none | some r1 => bif a1 then match m148 r1 (m149 (1)) with | none => none | some r2 => some (r2) else some (r1) else bif a1 then match m148 m224 (m149 (1)) with | none => none | some r3 => some (r3) else some (m224)
theorem c230 (a0 : Bool) (a1 : Bool) : callR Tryz.prog (F230) 300 (an230) 230 (A230.c (a0, a1, ())) [] 0 d230.rd = m230 a0 a1 := by kernel_rfl
def e230 : Orc → Orc := eL Tryz.prog 230 false A230 d230 (fun g => m230 g.1 g.2.1)
theorem e230_ok {F : Orc} (h : OrcG Tryz.prog F) : OrcG Tryz.prog (e230 F) := eL_ok (sc := scU) scU_ok (hl_of F230_ok fa230 (fun _ => by kernel_rfl) (fun _ => by kernel_rfl) fun g => c230 g.1 g.2.1) ⟨_, Tryz.func230, by kernel_rfl, by kernel_rfl⟩ (fun _ => by kernel_rfl) (fun _ => by kernel_rfl) h
theorem e230_pure {F : Orc} {f : Nat} (h : PureF F f) : PureF (e230 F) f := orL_pure h (fun _ => by kernel_rfl)
def F154 : Orc := (e230 (e228 (e147 (e144 or0))))
theorem F154_ok : OrcG Tryz.prog F154 := (e230_ok (e228_ok (e147_ok (e144_ok or0_g))))
abbrev E154 : Type := Num × Int
def d154 : Td 0 E154 := .c [] [4, 5] (.r 0 1 (ec 4 (qp 0 0) (ec 5 (qi .i64) en)) (sb 0 34 (lg 34) sn) (fun z => (z.2.1, z.1.2.1)) (fun x => (((), x.2, ()), (x.1, ()))) fun _ => rfl)
def A154 := (lc (qi .i64) (lc (qg 34) ln))
def an154 : An := (.two .no (.two (.two (.rb [144] 18) .no) .no))
theorem pu154  : ∀ f ∈ ([144] : List Nat), PureF (F154) f := (ob_cons (e230_pure (e228_pure (e147_pure (e144_pure or0_pure)))) ob_nil)
theorem fa154 : FnAn Tryz.prog (F154) 0 300 154 (an154) := fnAn_of (l := [(.skip, (.rb [144] 18))]) Tryz.func154 (bodyOf_eq (by kernel_rfl)) (by kernel_rfl) (ob_cons pu154 ob_nil)
def m154 (a0 : Int) (a1 : Num) : Option E154 :=
 match match m144 a1 with | none => none | some r1 => bif bif r1 then false else true then some (true) else bif bif decide (a0 = 6) then false else true then some (bif decide (a0 = 7) then false else true) else some (false) with | none => none | some r2 => bif r2 then some ((Num.mk (0) (0) (0), 1)) else bif m147 a1 then some ((a1, 0)) else bif decide (a0 = 7) then match m228 a1 with | none => none | some r3 => match m230 r3.snd r3.fst with | none => none | some r4 => some ((r4, 0)) else some ((Num.mk (i64.wrap (0 - a1.fHigh)) (i64.wrap (0 - a1.fLow)) a1.fStep, 0))
theorem c154 (a0 : Int) (a1 : Num) : callR Tryz.prog (F154) 300 (an154) 154 (A154.c (a0, a1, ())) [] 0 d154.rd = m154 a0 a1 := by kernel_rfl
def e154 : Orc → Orc := eL Tryz.prog 154 false A154 d154 (fun g => m154 g.1 g.2.1)
theorem e154_ok {F : Orc} (h : OrcG Tryz.prog F) : OrcG Tryz.prog (e154 F) := eL_ok (sc := scU) scU_ok (hl_of F154_ok fa154 (fun _ => by kernel_rfl) (fun _ => by kernel_rfl) fun g => c154 g.1 g.2.1) ⟨_, Tryz.func154, by kernel_rfl, by kernel_rfl⟩ (fun _ => by kernel_rfl) (fun _ => by kernel_rfl) h
def F231 : Orc := or0
theorem F231_ok : OrcG Tryz.prog F231 := or0_g
abbrev E231 : Type := Bool
def d231 : Td 0 E231 := .c [] [2] (.r 0 0 (ec 2 qb en) sn (fun z => z.1.1) (fun x => ((x, ()), (()))) fun _ => rfl)
def A231 := (lc (qi .i64) ln)
def an231 : An := .no
theorem fa231 : FnAn Tryz.prog (F231) 0 300 231 (an231) := fnAn_of (l := []) Tryz.func231 (bodyOf_eq (by kernel_rfl)) (by kernel_rfl) ob_nil
def m231 (a0 : Int) : E231 :=
 bif decide (a0 = 8) then true else bif decide (a0 = 9) then true else bif decide (a0 = 10) then true else bif decide (a0 = 11) then true else bif decide (a0 = 12) then true else bif decide (a0 = 13) then true else bif decide (a0 = 14) then true else bif decide (a0 = 15) then true else bif decide (a0 = 16) then true else bif decide (a0 = 17) then true else bif decide (a0 = 18) then true else bif decide (a0 = 19) then true else bif decide (a0 = 20) then true else bif decide (a0 = 21) then true else bif decide (a0 = 22) then true else false
theorem c231 (a0 : Int) : callR Tryz.prog (F231) 300 (an231) 231 (A231.c (a0, ())) [] 0 d231.rd = some (m231 a0) := by
 refine Eq.trans (b := (
  bif decide (a0 = 8) then some (true) else bif decide (a0 = 9) then some (true) else bif decide (a0 = 10) then some (true) else bif decide (a0 = 11) then some (true) else bif decide (a0 = 12) then some (true) else bif decide (a0 = 13) then some (true) else bif decide (a0 = 14) then some (true) else bif decide (a0 = 15) then some (true) else bif decide (a0 = 16) then some (true) else bif decide (a0 = 17) then some (true) else bif decide (a0 = 18) then some (true) else bif decide (a0 = 19) then some (true) else bif decide (a0 = 20) then some (true) else bif decide (a0 = 21) then some (true) else bif decide (a0 = 22) then some (true) else some (false) : Option E231)) (by kernel_rfl) ?_
 simp only [m231, cond_some, ite_some]
def e231 : Orc → Orc := eL Tryz.prog 231 false A231 d231 (fun g => some (m231 g.1))
theorem e231_ok {F : Orc} (h : OrcG Tryz.prog F) : OrcG Tryz.prog (e231 F) := eL_ok (sc := scU) scU_ok (hl_of F231_ok fa231 (fun _ => by kernel_rfl) (fun _ => by kernel_rfl) fun g => c231 g.1) ⟨_, Tryz.func231, by kernel_rfl, by kernel_rfl⟩ (fun _ => by kernel_rfl) (fun _ => by kernel_rfl) h
theorem e231_pure {F : Orc} {f : Nat} (h : PureF F f) : PureF (e231 F) f := orL_pure h (fun _ => by kernel_rfl)
def F274 : Orc := (e227 or0)
theorem F274_ok : OrcG Tryz.prog F274 := (e227_ok or0_g)
abbrev E274 : Type := Int × Bool
def d274 : Td 0 E274 := .c [] [4, 5] (.r 0 0 (ec 4 (qi .i64) (ec 5 qb en)) sn (fun z => (z.1.1, z.1.2.1)) (fun x => ((x.1, x.2, ()), (()))) fun _ => rfl)
def A274 := (lc (qi .i64) (lc (qi .i64) ln))
def an274 : An := (.two .no (.two (.two (.rb [227] 15) .no) .no))
theorem pu274  : ∀ f ∈ ([227] : List Nat), PureF (F274) f := (ob_cons (e227_pure or0_pure) ob_nil)
theorem fa274 : FnAn Tryz.prog (F274) 0 300 274 (an274) := fnAn_of (l := [(.skip, (.rb [227] 15))]) Tryz.func274 (bodyOf_eq (by kernel_rfl)) (by kernel_rfl) (ob_cons pu274 ob_nil)
def m274 (a0 : Int) (a1 : Int) : Option E274 :=
 match bif bif decide (a0 = 0) then false else true then if ¬m227 a0 = (0 : Int) then some (decide (i64.wrap ((1099511627776 : Int).tdiv (m227 a0)) < m227 a1)) else none else some (false) with | none => none | some r1 => bif r1 then some ((0, false)) else some ((i64.wrap (a0 * a1), true))
theorem c274 (a0 : Int) (a1 : Int) : callR Tryz.prog (F274) 300 (an274) 274 (A274.c (a0, a1, ())) [] 0 d274.rd = m274 a0 a1 := by kernel_rfl
def e274 : Orc → Orc := eL Tryz.prog 274 false A274 d274 (fun g => m274 g.1 g.2.1)
theorem e274_ok {F : Orc} (h : OrcG Tryz.prog F) : OrcG Tryz.prog (e274 F) := eL_ok (sc := scU) scU_ok (hl_of F274_ok fa274 (fun _ => by kernel_rfl) (fun _ => by kernel_rfl) fun g => c274 g.1 g.2.1) ⟨_, Tryz.func274, by kernel_rfl, by kernel_rfl⟩ (fun _ => by kernel_rfl) (fun _ => by kernel_rfl) h
def F275 : Orc := or0
theorem F275_ok : OrcG Tryz.prog F275 := or0_g
structure L275_0 where
 t0 : List Int
 t3 : Int
 t4 : Int
def d275_0 : Td 0 L275_0 := .c [] [0, 3, 4] (.r 0 0 (ec 0 (ql 3) (ec 3 (qi .i64) (ec 4 (qi .i64) en))) sn (fun z => ⟨z.1.1, z.1.2.1, z.1.2.2.1⟩) (fun x => ((x.t0, x.t3, x.t4, ()), (()))) fun _ => rfl)
def n275_0 (p : L275_0) : Option (Option L275_0) :=
 bif decide (p.t4 < (↑p.t0.length : Int)) then if (0 : Int) ≤ p.t4 ∧ p.t4 < (↑p.t0.length : Int) then some (some (L275_0.mk p.t0 (if ((p.t0, p.t3, p.t4, ()), ()).fst.fst[((p.t0, p.t3, p.t4, ()), ()).fst.snd.snd.fst.toNat]! < ((p.t0, p.t3, p.t4, ()), ()).fst.snd.fst then p.t0[p.t4.toNat]! else p.t3) (i64.wrap (p.t4 + 1)))) else none else some (none)
theorem q275_0 (p : L275_0) : execA Tryz.prog (F275) Tryz.f275.ntmps 300 (loopAt Tryz.f275 0) .no (Option L275_0) (d275_0.pat p) (kOn d275_0.rd) = n275_0 p := by kernel_rfl
def a275_0 : L275_0 → Option L275_0 := advG (n275_0)
abbrev E275 : Type := Int
def d275 : Td 0 E275 := .c [] [2] (.r 0 0 (ec 2 (qi .i64) en) sn (fun z => z.1.1) (fun x => ((x, ()), (()))) fun _ => rfl)
def A275 := (lc (ql 3) ln)
def an275 : An := (.two .no (.two .no (.two .no (.two (.two .no (d275_0.lp a275_0 .no)) .no))))
theorem fa275 : FnAn Tryz.prog (F275) 0 300 275 (an275) := fnAn_of (l := [(loopAt Tryz.f275 0, (d275_0.lp a275_0 .no))]) Tryz.func275 (bodyOf_eq (by kernel_rfl)) (by kernel_rfl) (ob_cons ⟨d275_0.ok _, advG_ok (q275_0)⟩ ob_nil)
def m275 (a0 : List Int) : Option E275 :=
 bif decide ((↑a0.length : Int) < 1) then none else if (0 : Int) ≤ (0 : Int) ∧ (0 : Int) < (↑a0.length : Int) then match a275_0 (L275_0.mk a0 a0[0]! (1)) with | none => none | some r1 => bif decide (r1.t4 < (↑r1.t0.length : Int)) then if (0 : Int) ≤ r1.t4 ∧ r1.t4 < (↑r1.t0.length : Int) then none else none else some (r1.t3) else none
theorem c275 (a0 : List Int) : callR Tryz.prog (F275) 300 (an275) 275 (A275.c (a0, ())) [] 0 d275.rd = m275 a0 := by kernel_rfl
def e275 : Orc → Orc := eL Tryz.prog 275 false A275 d275 (fun g => m275 g.1)
theorem e275_ok {F : Orc} (h : OrcG Tryz.prog F) : OrcG Tryz.prog (e275 F) := eL_ok (sc := scU) scU_ok (hl_of F275_ok fa275 (fun _ => by kernel_rfl) (fun _ => by kernel_rfl) fun g => c275 g.1) ⟨_, Tryz.func275, by kernel_rfl, by kernel_rfl⟩ (fun _ => by kernel_rfl) (fun _ => by kernel_rfl) h
def F276 : Orc := or0
theorem F276_ok : OrcG Tryz.prog F276 := or0_g
structure L276_0 where
 t0 : List Int
 t3 : Int
 t4 : Int
def d276_0 : Td 0 L276_0 := .c [] [0, 3, 4] (.r 0 0 (ec 0 (ql 3) (ec 3 (qi .i64) (ec 4 (qi .i64) en))) sn (fun z => ⟨z.1.1, z.1.2.1, z.1.2.2.1⟩) (fun x => ((x.t0, x.t3, x.t4, ()), (()))) fun _ => rfl)
def n276_0 (p : L276_0) : Option (Option L276_0) :=
 bif decide (p.t4 < (↑p.t0.length : Int)) then if (0 : Int) ≤ p.t4 ∧ p.t4 < (↑p.t0.length : Int) then some (some (L276_0.mk p.t0 (if ((p.t0, p.t3, p.t4, ()), ()).fst.snd.fst < ((p.t0, p.t3, p.t4, ()), ()).fst.fst[((p.t0, p.t3, p.t4, ()), ()).fst.snd.snd.fst.toNat]! then p.t0[p.t4.toNat]! else p.t3) (i64.wrap (p.t4 + 1)))) else none else some (none)
theorem q276_0 (p : L276_0) : execA Tryz.prog (F276) Tryz.f276.ntmps 300 (loopAt Tryz.f276 0) .no (Option L276_0) (d276_0.pat p) (kOn d276_0.rd) = n276_0 p := by kernel_rfl
def a276_0 : L276_0 → Option L276_0 := advG (n276_0)
abbrev E276 : Type := Int
def d276 : Td 0 E276 := .c [] [2] (.r 0 0 (ec 2 (qi .i64) en) sn (fun z => z.1.1) (fun x => ((x, ()), (()))) fun _ => rfl)
def A276 := (lc (ql 3) ln)
def an276 : An := (.two .no (.two .no (.two .no (.two (.two .no (d276_0.lp a276_0 .no)) .no))))
theorem fa276 : FnAn Tryz.prog (F276) 0 300 276 (an276) := fnAn_of (l := [(loopAt Tryz.f276 0, (d276_0.lp a276_0 .no))]) Tryz.func276 (bodyOf_eq (by kernel_rfl)) (by kernel_rfl) (ob_cons ⟨d276_0.ok _, advG_ok (q276_0)⟩ ob_nil)
def m276 (a0 : List Int) : Option E276 :=
 bif decide ((↑a0.length : Int) < 1) then none else if (0 : Int) ≤ (0 : Int) ∧ (0 : Int) < (↑a0.length : Int) then match a276_0 (L276_0.mk a0 a0[0]! (1)) with | none => none | some r1 => bif decide (r1.t4 < (↑r1.t0.length : Int)) then if (0 : Int) ≤ r1.t4 ∧ r1.t4 < (↑r1.t0.length : Int) then none else none else some (r1.t3) else none
theorem c276 (a0 : List Int) : callR Tryz.prog (F276) 300 (an276) 276 (A276.c (a0, ())) [] 0 d276.rd = m276 a0 := by kernel_rfl
def e276 : Orc → Orc := eL Tryz.prog 276 false A276 d276 (fun g => m276 g.1)
theorem e276_ok {F : Orc} (h : OrcG Tryz.prog F) : OrcG Tryz.prog (e276 F) := eL_ok (sc := scU) scU_ok (hl_of F276_ok fa276 (fun _ => by kernel_rfl) (fun _ => by kernel_rfl) fun g => c276 g.1) ⟨_, Tryz.func276, by kernel_rfl, by kernel_rfl⟩ (fun _ => by kernel_rfl) (fun _ => by kernel_rfl) h
def F232 : Orc := (e276 (e275 (e274 (e227 (e226 (e225 or0))))))
theorem F232_ok : OrcG Tryz.prog F232 := (e276_ok (e275_ok (e274_ok (e227_ok (e226_ok (e225_ok or0_g))))))
abbrev E232 : Type := Num × Int
def d232 : Td 0 E232 := .c [] [4, 5] (.r 0 1 (ec 4 (qp 0 0) (ec 5 (qi .i64) en)) (sb 0 34 (lg 34) sn) (fun z => (z.2.1, z.1.2.1)) (fun x => (((), x.2, ()), (x.1, ()))) fun _ => rfl)
def A232 := (lc (qg 34) (lc (qg 34) ln))
def an232 : An := .no
theorem fa232 : FnAn Tryz.prog (F232) 0 300 232 (an232) := fnAn_of (l := []) Tryz.func232 (bodyOf_eq (by kernel_rfl)) (by kernel_rfl) ob_nil
def m232 (a0 : Num) (a1 : Num) : Option E232 :=
 match m274 a0.fLow a1.fLow with | none => none | some r1 => bif bif r1.snd then false else true then some ((Num.mk (0) (0) (0), 3)) else match m274 a0.fLow a1.fHigh with | none => none | some r2 => bif bif r2.snd then false else true then some ((Num.mk (0) (0) (0), 3)) else match m274 a0.fHigh a1.fLow with | none => none | some r3 => bif bif r3.snd then false else true then some ((Num.mk (0) (0) (0), 3)) else match m274 a0.fHigh a1.fHigh with | none => none | some r4 => bif bif r4.snd then false else true then some ((Num.mk (0) (0) (0), 3)) else match m226 [i64.wrap (a0.fStep * m227 a1.fLow), i64.wrap (a1.fStep * m227 a0.fLow), i64.wrap (a0.fStep * a1.fStep)] with | none => none | some r5 => match m275 ([r1.fst] ++ [r2.fst] ++ [r3.fst] ++ [r4.fst]) with | none => none | some r6 => match m276 ([r1.fst] ++ [r2.fst] ++ [r3.fst] ++ [r4.fst]) with | none => none | some r7 => match m225 r6 r7 r5 with | none => none | some r8 => some ((r8, 0))
theorem c232 (a0 : Num) (a1 : Num) : callR Tryz.prog (F232) 300 (an232) 232 (A232.c (a0, a1, ())) [] 0 d232.rd = m232 a0 a1 := by kernel_rfl
def e232 : Orc → Orc := eL Tryz.prog 232 false A232 d232 (fun g => m232 g.1 g.2.1)
theorem e232_ok {F : Orc} (h : OrcG Tryz.prog F) : OrcG Tryz.prog (e232 F) := eL_ok (sc := scU) scU_ok (hl_of F232_ok fa232 (fun _ => by kernel_rfl) (fun _ => by kernel_rfl) fun g => c232 g.1 g.2.1) ⟨_, Tryz.func232, by kernel_rfl, by kernel_rfl⟩ (fun _ => by kernel_rfl) (fun _ => by kernel_rfl) h
theorem e232_pure {F : Orc} {f : Nat} (h : PureF F f) : PureF (e232 F) f := orL_pure h (fun _ => by kernel_rfl)
def F277 : Orc := (e227 (e225 (e148 (e146 or0))))
theorem F277_ok : OrcG Tryz.prog F277 := (e227_ok (e225_ok (e148_ok (e146_ok or0_g))))
abbrev E277 : Type := Num
def d277 : Td 0 E277 := .c [] [6] (.r 0 1 (ec 6 (qp 0 0) en) (sb 0 34 (lg 34) sn) (fun z => z.2.1) (fun x => (((), ()), (x, ()))) fun _ => rfl)
def A277 := (lc (qi .i64) (lc (qg 34) (lc (qg 34) ln)))
def an277 : An := (.two .no (.two (.two .no (.two .no (.two (.two .no (.two (.two (.rb [] 29) .no) .no)) .no))) .no))
theorem pu277  : ∀ f ∈ ([] : List Nat), PureF (F277) f := ob_nil
theorem fa277 : FnAn Tryz.prog (F277) 0 300 277 (an277) := fnAn_of (l := [(.skip, (.rb [] 29))]) Tryz.func277 (bodyOf_eq (by kernel_rfl)) (by kernel_rfl) (ob_cons pu277 ob_nil)
def m277 (a0 : Int) (a1 : Num) (a2 : Num) : Option E277 :=
 bif decide (a0 = 11) then match bif decide (0 ≤ a1.fLow) then some (decide (0 ≤ a2.fLow)) else some (false) with | none => none | some r1 => bif r1 then match m225 (0) (if m227 a1.fLow < m227 a1.fHigh then m227 a1.fHigh else m227 a1.fLow) (1) with | none => none | some r2 => some (r2) else match m225 (i64.wrap (0 - if m227 a1.fLow < m227 a1.fHigh then m227 a1.fHigh else m227 a1.fLow)) (if m227 a1.fLow < m227 a1.fHigh then m227 a1.fHigh else m227 a1.fLow) (1) with | none => none | some r3 => some (r3) else bif decide (a0 = 12) then match m225 (if 0 < i64.wrap (a2.fLow + 1) then 0 else i64.wrap (a2.fLow + 1)) (if i64.wrap (a2.fHigh - 1) < 0 then 0 else i64.wrap (a2.fHigh - 1)) (1) with | none => none | some r4 => some (r4) else bif decide (a0 = 21) then match m148 a1 a2 with | none => none | some r5 => match m146 r5 (if a2.fHigh < a1.fHigh then a2.fHigh else a1.fHigh) with | none => none | some r6 => some (r6.fst) else match m148 a1 a2 with | none => none | some r7 => match m146 r7 (i64.wrap ((if a1.fLow < a2.fLow then a2.fLow else a1.fLow) - 1)) with | none => none | some r8 => some (r8.snd)
theorem c277 (a0 : Int) (a1 : Num) (a2 : Num) : callR Tryz.prog (F277) 300 (an277) 277 (A277.c (a0, a1, a2, ())) [] 0 d277.rd = m277 a0 a1 a2 := by kernel_rfl
def e277 : Orc → Orc := eL Tryz.prog 277 false A277 d277 (fun g => m277 g.1 g.2.1 g.2.2.1)
theorem e277_ok {F : Orc} (h : OrcG Tryz.prog F) : OrcG Tryz.prog (e277 F) := eL_ok (sc := scU) scU_ok (hl_of F277_ok fa277 (fun _ => by kernel_rfl) (fun _ => by kernel_rfl) fun g => c277 g.1 g.2.1 g.2.2.1) ⟨_, Tryz.func277, by kernel_rfl, by kernel_rfl⟩ (fun _ => by kernel_rfl) (fun _ => by kernel_rfl) h
def F278 : Orc := (e176 or0)
theorem F278_ok : OrcG Tryz.prog F278 := (e176_ok or0_g)
structure L278_0 where
 t3 : List Int
 t6 : Int
 t7 : Int
 b0 : Num
def d278_0 : Td 0 L278_0 := .c [] [1, 3, 6, 7] (.t (TurnOk.s 3 [] 3) (.c [] [1, 3, 6, 7] (.r 0 2 (ec 1 (qp 0 0) (ec 3 (qo 1) (ec 6 (qi .i64) (ec 7 (qi .i64) en)))) (sb 0 34 (lg 34) (sr 1 3 sn)) (fun z => ⟨z.2.2.1, z.1.2.2.1, z.1.2.2.2.1, z.2.1⟩) (fun x => (((), (), x.t6, x.t7, ()), (x.b0, x.t3, ()))) fun _ => rfl)))
def n278_0 (p : L278_0) : Option (Option L278_0) :=
 bif decide (p.t7 < p.t6) then if (p.t3 ++ [i64.wrap (p.b0.fLow + i64.wrap (p.t7 * p.b0.fStep))]).length ≤ 1073741824 then some (some (L278_0.mk (p.t3 ++ [i64.wrap (p.b0.fLow + i64.wrap (p.t7 * p.b0.fStep))]) p.t6 (i64.wrap (p.t7 + 1)) p.b0)) else none else some (none)
theorem q278_0 (p : L278_0) : execA Tryz.prog (F278) Tryz.f278.ntmps 300 (loopAt Tryz.f278 0) .no (Option L278_0) (d278_0.pat p) (kOn d278_0.rd) = n278_0 p := by kernel_rfl
def a278_0 : L278_0 → Option L278_0 := advG (n278_0)
abbrev E278 : Type := List Int
def d278 : Td 0 E278 := .c [] [2] (.r 0 1 (ec 2 (qo 0) en) (sr 0 3 sn) (fun z => z.2.1) (fun x => (((), ()), (x, ()))) fun _ => rfl)
def A278 := (lc (qg 34) ln)
def an278 : An := (.two .no (.two .no (.two (.two .no (d278_0.lp a278_0 .no)) .no)))
theorem fa278 : FnAn Tryz.prog (F278) 0 300 278 (an278) := fnAn_of (l := [(loopAt Tryz.f278 0, (d278_0.lp a278_0 .no))]) Tryz.func278 (bodyOf_eq (by kernel_rfl)) (by kernel_rfl) (ob_cons ⟨d278_0.ok _, advG_ok (q278_0)⟩ ob_nil)
def m278 (a0 : Num) : Option E278 :=
 match m176 a0 with | none => none | some r1 => match a278_0 (L278_0.mk [] r1 (0) a0) with | none => none | some r2 => bif decide (r2.t7 < r2.t6) then if (r2.t3 ++ [i64.wrap (r2.b0.fLow + i64.wrap (r2.t7 * r2.b0.fStep))]).length ≤ 1073741824 then none else none else some (r2.t3)
theorem c278 (a0 : Num) : callR Tryz.prog (F278) 300 (an278) 278 (A278.c (a0, ())) [] 0 d278.rd = m278 a0 := by kernel_rfl
def e278 : Orc → Orc := eL Tryz.prog 278 false A278 d278 (fun g => m278 g.1)
theorem e278_ok {F : Orc} (h : OrcG Tryz.prog F) : OrcG Tryz.prog (e278 F) := eL_ok (sc := scU) scU_ok (hl_of F278_ok fa278 (fun _ => by kernel_rfl) (fun _ => by kernel_rfl) fun g => c278 g.1) ⟨_, Tryz.func278, by kernel_rfl, by kernel_rfl⟩ (fun _ => by kernel_rfl) (fun _ => by kernel_rfl) h
def F315 : Orc := or0
theorem F315_ok : OrcG Tryz.prog F315 := or0_g
abbrev E315 : Type := Int
def d315 : Td 0 E315 := .c [] [4] (.r 0 0 (ec 4 (qi .i64) en) sn (fun z => z.1.1) (fun x => ((x, ()), (()))) fun _ => rfl)
def A315 := (lc (qi .i64) (lc (qi .i64) ln))
def an315 : An := (.two .no (.two .no (.two .no (.two (.two (.rb [] 21) .no) .no))))
theorem pu315  : ∀ f ∈ ([] : List Nat), PureF (F315) f := ob_nil
theorem fa315 : FnAn Tryz.prog (F315) 0 300 315 (an315) := fnAn_of (l := [(.skip, (.rb [] 21))]) Tryz.func315 (bodyOf_eq (by kernel_rfl)) (by kernel_rfl) (ob_cons pu315 ob_nil)
def m315 (a0 : Int) (a1 : Int) : Option E315 :=
 bif decide (a1 = 0) then some (0) else if ¬a1 = (0 : Int) then match if ¬a1 = (0 : Int) then bif bif decide (a0.tmod a1 = 0) then false else true then some (bif decide (a0 < 0) == decide (a1 < 0) then false else true) else some (false) else none with | none => none | some r1 => bif r1 then some (i64.wrap (i64.wrap (a0.tdiv a1) - 1)) else some (i64.wrap (a0.tdiv a1)) else none
theorem c315 (a0 : Int) (a1 : Int) : callR Tryz.prog (F315) 300 (an315) 315 (A315.c (a0, a1, ())) [] 0 d315.rd = m315 a0 a1 := by kernel_rfl
def e315 : Orc → Orc := eL Tryz.prog 315 false A315 d315 (fun g => m315 g.1 g.2.1)
theorem e315_ok {F : Orc} (h : OrcG Tryz.prog F) : OrcG Tryz.prog (e315 F) := eL_ok (sc := scU) scU_ok (hl_of F315_ok fa315 (fun _ => by kernel_rfl) (fun _ => by kernel_rfl) fun g => c315 g.1 g.2.1) ⟨_, Tryz.func315, by kernel_rfl, by kernel_rfl⟩ (fun _ => by kernel_rfl) (fun _ => by kernel_rfl) h
def F279 : Orc := (e315 or0)
theorem F279_ok : OrcG Tryz.prog F279 := (e315_ok or0_g)
abbrev E279 : Type := Int
def d279 : Td 0 E279 := .c [] [6] (.r 0 0 (ec 6 (qi .i64) en) sn (fun z => z.1.1) (fun x => ((x, ()), (()))) fun _ => rfl)
def A279 := (lc (qi .i64) (lc (qi .i64) (lc (qi .i64) ln)))
def an279 : An := .no
theorem fa279 : FnAn Tryz.prog (F279) 0 300 279 (an279) := fnAn_of (l := []) Tryz.func279 (bodyOf_eq (by kernel_rfl)) (by kernel_rfl) ob_nil
def m279 (a0 : Int) (a1 : Int) (a2 : Int) : Option E279 :=
 bif decide (a0 = 11) then match m315 a1 a2 with | none => none | some r1 => some (r1) else bif decide (a0 = 12) then bif decide (a2 = 0) then some (0) else match m315 a1 a2 with | none => none | some r2 => some (i64.wrap (a1 - i64.wrap (a2 * r2))) else bif decide (a0 = 21) then some (if a2 < a1 then a2 else a1) else some (if a1 < a2 then a2 else a1)
theorem c279 (a0 : Int) (a1 : Int) (a2 : Int) : callR Tryz.prog (F279) 300 (an279) 279 (A279.c (a0, a1, a2, ())) [] 0 d279.rd = m279 a0 a1 a2 := by kernel_rfl
def e279 : Orc → Orc := eL Tryz.prog 279 false A279 d279 (fun g => m279 g.1 g.2.1 g.2.2.1)
theorem e279_ok {F : Orc} (h : OrcG Tryz.prog F) : OrcG Tryz.prog (e279 F) := eL_ok (sc := scU) scU_ok (hl_of F279_ok fa279 (fun _ => by kernel_rfl) (fun _ => by kernel_rfl) fun g => c279 g.1 g.2.1 g.2.2.1) ⟨_, Tryz.func279, by kernel_rfl, by kernel_rfl⟩ (fun _ => by kernel_rfl) (fun _ => by kernel_rfl) h
def F233 : Orc := (e279 (e278 (e277 (e224 (e176 (e149 (e148 or0)))))))
theorem F233_ok : OrcG Tryz.prog F233 := (e279_ok (e278_ok (e277_ok (e224_ok (e176_ok (e149_ok (e148_ok or0_g)))))))
structure L233_1 where
 t0 : Int
 t9 : Int
 t34 : List Int
 t35 : Int
 t36 : Int
 t41 : List Int
 t42 : Int
 t43 : Int
 b0 : Num
 b1 : Num
 b2 : Num
def d233_1 : Td 0 L233_1 := .c [] [0, 5, 6, 7, 9, 34, 35, 36, 41, 42, 43] (.r 0 5 (ec 0 (qi .i64) (ec 5 (qp 0 0) (ec 6 (qp 1 0) (ec 7 (qp 2 0) (ec 9 (qi .i64) (ec 34 (qo 3) (ec 35 (qi .i64) (ec 36 (qi .i64) (ec 41 (qo 4) (ec 42 (qi .i64) (ec 43 (qi .i64) en))))))))))) (sb 0 34 (lg 34) (sb 1 34 (lg 34) (sb 2 34 (lg 34) (sr 3 3 (sr 4 3 sn))))) (fun z => ⟨z.1.1, z.1.2.2.2.2.1, z.2.2.2.2.1, z.1.2.2.2.2.2.2.1, z.1.2.2.2.2.2.2.2.1, z.2.2.2.2.2.1, z.1.2.2.2.2.2.2.2.2.2.1, z.1.2.2.2.2.2.2.2.2.2.2.1, z.2.1, z.2.2.1, z.2.2.2.1⟩) (fun x => ((x.t0, (), (), (), x.t9, (), x.t35, x.t36, (), x.t42, x.t43, ()), (x.b0, x.b1, x.b2, x.t34, x.t41, ()))) fun _ => rfl)
def n233_1 (p : L233_1) : Option (Option L233_1) :=
 bif decide (p.t43 < p.t42) then if (0 : Int) ≤ p.t43 ∧ p.t43 < (↑p.t41.length : Int) then if 3 = 3 ∧ p.t43.toNat < p.t41.length then match m279 p.t0 p.t9 p.t41[p.t43.toNat]! with | none => none | some r5 => match m148 p.b2 (m149 r5) with | none => none | some r6 => some (some (L233_1.mk p.t0 p.t9 p.t34 p.t35 p.t36 p.t41 p.t42 (i64.wrap (p.t43 + 1)) p.b0 p.b1 r6)) else none else none else some (none)
theorem q233_1 (p : L233_1) : execA Tryz.prog (F233) Tryz.f233.ntmps 300 (loopAt Tryz.f233 1) .no (Option L233_1) (d233_1.pat p) (kOn d233_1.rd) = n233_1 p := by kernel_rfl
def a233_1 : L233_1 → Option L233_1 := advG (n233_1)
structure L233_0 where
 t0 : Int
 t34 : List Int
 t35 : Int
 t36 : Int
 b0 : Num
 b1 : Num
 b2 : Num
def d233_0 : Td 0 L233_0 := .c [] [0, 5, 6, 7, 34, 35, 36] (.r 0 4 (ec 0 (qi .i64) (ec 5 (qp 0 0) (ec 6 (qp 1 0) (ec 7 (qp 2 0) (ec 34 (qo 3) (ec 35 (qi .i64) (ec 36 (qi .i64) en))))))) (sb 0 34 (lg 34) (sb 1 34 (lg 34) (sb 2 34 (lg 34) (sr 3 3 sn)))) (fun z => ⟨z.1.1, z.2.2.2.2.1, z.1.2.2.2.2.2.1, z.1.2.2.2.2.2.2.1, z.2.1, z.2.2.1, z.2.2.2.1⟩) (fun x => ((x.t0, (), (), (), (), x.t35, x.t36, ()), (x.b0, x.b1, x.b2, x.t34, ()))) fun _ => rfl)
def n233_0 (p : L233_0) : Option (Option L233_0) :=
 bif decide (p.t36 < p.t35) then if (0 : Int) ≤ p.t36 ∧ p.t36 < (↑p.t34.length : Int) then if 3 = 3 ∧ p.t36.toNat < p.t34.length then match m278 p.b0 with | none => none | some r1 => match a233_1 (L233_1.mk p.t0 p.t34[p.t36.toNat]! p.t34 p.t35 p.t36 r1 (↑(List.length r1) : Int) (0) p.b0 p.b1 p.b2) with | none => none | some r2 => bif decide (r2.t43 < r2.t42) then if (0 : Int) ≤ r2.t43 ∧ r2.t43 < (↑r2.t41.length : Int) then if 3 = 3 ∧ r2.t43.toNat < r2.t41.length then match m279 r2.t0 r2.t9 r2.t41[r2.t43.toNat]! with | none => none | some r3 => match m148 r2.b2 (m149 r3) with | none => none | some r4 => none else none else none else some (some (L233_0.mk r2.t0 r2.t34 r2.t35 (i64.wrap (r2.t36 + 1)) r2.b0 r2.b1 r2.b2)) else none else none else some (none)
def g233_0 : An := (.two .no (.two .no (.two (.two .no (.two .no (d233_1.lp a233_1 .no))) .no)))
theorem q233_0 (p : L233_0) : execA Tryz.prog (F233) Tryz.f233.ntmps 300 (loopAt Tryz.f233 0) g233_0 (Option L233_0) (d233_0.pat p) (kOn d233_0.rd) = n233_0 p := by kernel_rfl
def a233_0 : L233_0 → Option L233_0 := advG (n233_0)
abbrev E233 : Type := Num
def d233 : Td 0 E233 := .c [] [6] (.r 0 1 (ec 6 (qp 0 0) en) (sb 0 34 (lg 34) sn) (fun z => z.2.1) (fun x => (((), ()), (x, ()))) fun _ => rfl)
def A233 := (lc (qi .i64) (lc (qg 34) (lc (qg 34) ln)))
def an233 : An := (.two .no (.two .no (.two .no (.two (.two .no (d233_0.lp a233_0 g233_0)) .no))))
theorem fa233 : FnAn Tryz.prog (F233) 0 300 233 (an233) := fnAn_of (l := [(loopAt Tryz.f233 0, (d233_0.lp a233_0 g233_0)), (loopAt Tryz.f233 1, (d233_1.lp a233_1 .no))]) Tryz.func233 (bodyOf_eq (by kernel_rfl)) (by kernel_rfl) (ob_cons ⟨d233_0.ok _, advG_ok (q233_0)⟩ (ob_cons ⟨d233_1.ok _, advG_ok (q233_1)⟩ ob_nil))
def m233 (a0 : Int) (a1 : Num) (a2 : Num) : Option E233 :=
 match m176 a1 with | none => none | some r7 => bif decide (4096 < r7) then match m277 a0 a1 a2 with | none => none | some r8 => some (r8) else match m176 a2 with | none => none | some r9 => bif decide (4096 < r9) then match m277 a0 a1 a2 with | none => none | some r10 => some (r10) else match m176 a1 with | none => none | some r11 => match m176 a2 with | none => none | some r12 => bif decide (4096 < i64.wrap (r11 * r12)) then match m277 a0 a1 a2 with | none => none | some r13 => some (r13) else match m278 a1 with | none => none | some r14 => match a233_0 (L233_0.mk a0 r14 (↑(List.length r14) : Int) (0) a2 (Num.mk (0) (0) (0)) m224) with | none => none | some r15 => bif decide (r15.t36 < r15.t35) then if (0 : Int) ≤ r15.t36 ∧ r15.t36 < (↑r15.t34.length : Int) then if 3 = 3 ∧ r15.t36.toNat < r15.t34.length then match m278 r15.b0 with | none => none | some r16 => match a233_1 (L233_1.mk r15.t0 r15.t34[r15.t36.toNat]! r15.t34 r15.t35 r15.t36 r16 (↑(List.length r16) : Int) (0) r15.b0 r15.b1 r15.b2) with | none => none | some r17 => bif decide (r17.t43 < r17.t42) then if (0 : Int) ≤ r17.t43 ∧ r17.t43 < (↑r17.t41.length : Int) then if 3 = 3 ∧ r17.t43.toNat < r17.t41.length then match m279 r17.t0 r17.t9 r17.t41[r17.t43.toNat]! with | none => none | some r18 => match m148 r17.b2 (m149 r18) with | none => none | some r19 => none else none else none else none else none else none else some (r15.b2)
theorem c233 (a0 : Int) (a1 : Num) (a2 : Num) : callR Tryz.prog (F233) 300 (an233) 233 (A233.c (a0, a1, a2, ())) [] 0 d233.rd = m233 a0 a1 a2 := by kernel_rfl
def e233 : Orc → Orc := eL Tryz.prog 233 false A233 d233 (fun g => m233 g.1 g.2.1 g.2.2.1)
theorem e233_ok {F : Orc} (h : OrcG Tryz.prog F) : OrcG Tryz.prog (e233 F) := eL_ok (sc := scU) scU_ok (hl_of F233_ok fa233 (fun _ => by kernel_rfl) (fun _ => by kernel_rfl) fun g => c233 g.1 g.2.1 g.2.2.1) ⟨_, Tryz.func233, by kernel_rfl, by kernel_rfl⟩ (fun _ => by kernel_rfl) (fun _ => by kernel_rfl) h
theorem e233_pure {F : Orc} {f : Nat} (h : PureF F f) : PureF (e233 F) f := orL_pure h (fun _ => by kernel_rfl)
abbrev E280 : Type := Num
def d280 : Td 0 E280 := .c [] [4] (.r 0 1 (ec 4 (qp 0 0) en) (sb 0 34 (lg 34) sn) (fun z => z.2.1) (fun x => (((), ()), (x, ()))) fun _ => rfl)
def A280 := (lc (qg 34) (lc (qg 34) ln))
def x280 (M : Num → Num → Option E280) : Orc → Orc := eL Tryz.prog 280 false A280 d280 (fun g => M g.1 g.2.1)
theorem x280_pure {M : Num → Num → Option E280} {F : Orc} {f : Nat} (h : PureF F f) : PureF (x280 M F) f := orL_pure h (fun _ => by kernel_rfl)
def H280 (M : Num → Num → Option E280) : Prop := HL Tryz.prog 280 A280 d280 (fun g => M g.1 g.2.1)
theorem x280_ok {M : Num → Num → Option E280} (hM : H280 M) {F : Orc} (h : OrcG Tryz.prog F) : OrcG Tryz.prog (x280 M F) := eL_ok (sc := scU) scU_ok hM ⟨_, Tryz.func280, by kernel_rfl, by kernel_rfl⟩ (fun _ => by kernel_rfl) (fun _ => by kernel_rfl) h
def F280 (M280 : Num → Num → Option E280) : Orc := (x280 M280 (e224 (e177 (e147 or0))))
theorem F280_ok {M280} (h280 : H280 M280) : OrcG Tryz.prog (F280 M280) := (x280_ok h280 (e224_ok (e177_ok (e147_ok or0_g))))
def an280 (M280 : Num → Num → Option E280) : An := (.two .no (.two (.two (.rb [147] 5) .no) .no))
theorem pu280 {M280} : ∀ f ∈ ([147] : List Nat), PureF (F280 M280) f := (ob_cons (x280_pure (e224_pure (e177_pure (e147_pure or0_pure)))) ob_nil)
theorem fa280 (M280 : Num → Num → Option E280) : FnAn Tryz.prog (F280 M280) 0 300 280 (an280 M280) := fnAn_of (l := [(.skip, (.rb [147] 5))]) Tryz.func280 (bodyOf_eq (by kernel_rfl)) (by kernel_rfl) (ob_cons pu280 ob_nil)
def s280 (M280 : Num → Num → Option E280) (a0 : Num) (a1 : Num) : Option E280 :=
 match bif m147 a0 then some (true) else some (m147 a1) with | none => none | some r1 => bif r1 then some (m224) else bif decide (a0.fStep = 0) then match m177 a1 a0.fLow with | none => none | some r2 => bif r2 then some (a0) else some (m224) else bif decide (a1.fStep = 0) then match M280 a1 a0 with | none => none | some r3 => some (r3) else none
theorem c280 (M280 : Num → Num → Option E280) (a0 : Num) (a1 : Num) : callR Tryz.prog (F280 M280) 300 (an280 M280) 280 (A280.c (a0, a1, ())) [] 0 d280.rd = s280 M280 a0 a1 := by kernel_rfl
def mm280 : Nat → (Num → Num → Option E280)
 | 0 => (fun _ _ => none)
 | n + 1 => (s280 (mm280 n))
def m280 (n : Nat) : Num → Num → Option E280 := (mm280 n)
theorem mm280_ok : ∀ n, H280 (m280 n)
 | 0 => fun _ _ h => (by cases h)
 | n + 1 => by
  have ih := mm280_ok n
  have i280 := ih
  exact (hl_of (F280_ok i280) (fa280 (m280 n)) (fun _ => by kernel_rfl) (fun _ => by kernel_rfl) fun g => c280 (m280 n) g.1 g.2.1)
def r280 : Num → Num → Option E280 := fun a0 a1 => lim (fun n => m280 n a0 a1)
theorem r280_ok : H280 r280 := fun g b h => by
 obtain ⟨n, hn⟩ := lim_some (show lim (fun n => m280 n g.1 g.2.1) = some b from h)
 exact (mm280_ok n) g b hn
def e280 (F : Orc) : Orc := x280 r280 F
theorem e280_ok {F : Orc} (h : OrcG Tryz.prog F) : OrcG Tryz.prog (e280 F) := x280_ok r280_ok h
theorem e280_pure {F : Orc} {f : Nat} (h : PureF F f) : PureF (e280 F) f := x280_pure h
def F234 : Orc := (e280 (e230 (e228 (e176 (e147 or0)))))
theorem F234_ok : OrcG Tryz.prog F234 := (e280_ok (e230_ok (e228_ok (e176_ok (e147_ok or0_g)))))
abbrev E234 : Type := Num
def d234 : Td 0 E234 := .c [] [6] (.r 0 1 (ec 6 (qp 0 0) en) (sb 0 34 (lg 34) sn) (fun z => z.2.1) (fun x => (((), ()), (x, ()))) fun _ => rfl)
def A234 := (lc (qi .i64) (lc (qg 34) (lc (qg 34) ln)))
def an234 : An := (.two .no (.two .no (.two (.rb [176] 8) .no)))
theorem pu234  : ∀ f ∈ ([176] : List Nat), PureF (F234) f := (ob_cons (e280_pure (e230_pure (e228_pure (e176_pure (e147_pure or0_pure))))) ob_nil)
theorem fa234 : FnAn Tryz.prog (F234) 0 300 234 (an234) := fnAn_of (l := [(.skip, (.rb [176] 8))]) Tryz.func234 (bodyOf_eq (by kernel_rfl)) (by kernel_rfl) (ob_cons pu234 ob_nil)
def m234 (a0 : Int) (a1 : Num) (a2 : Num) : Option E234 :=
 match r280 a1 a2 with | none => none | some r1 => match match m176 a1 with | none => none | some r2 => bif decide (1 < r2) then some (true) else match m176 a2 with | none => none | some r3 => bif decide (1 < r3) then some (true) else some (bif decide (a1.fLow = a2.fLow) then false else true) with | none => none | some r4 => match m228 a1 with | none => none | some r5 => match m228 a2 with | none => none | some r6 => bif decide (a0 = 13) then match m230 r4 (match m147 r1 with | true => false | false => true) with | none => none | some r7 => some (r7) else bif decide (a0 = 14) then match m230 (match m147 r1 with | true => false | false => true) r4 with | none => none | some r8 => some (r8) else bif decide (a0 = 15) then match m230 (decide (a2.fLow ≤ a1.fHigh)) (decide (a1.fLow < a2.fHigh)) with | none => none | some r9 => some (r9) else bif decide (a0 = 16) then match m230 (decide (a2.fLow < a1.fHigh)) (decide (a1.fLow ≤ a2.fHigh)) with | none => none | some r10 => some (r10) else bif decide (a0 = 17) then match m230 (decide (a1.fLow ≤ a2.fHigh)) (decide (a2.fLow < a1.fHigh)) with | none => none | some r11 => some (r11) else bif decide (a0 = 18) then match m230 (decide (a1.fLow < a2.fHigh)) (decide (a2.fLow ≤ a1.fHigh)) with | none => none | some r12 => some (r12) else bif decide (a0 = 19) then bif r5.fst then bif r5.snd then match m230 true r6.snd with | none => none | some r13 => some (r13) else match m230 true false with | none => none | some r14 => some (r14) else bif r5.snd then match m230 r6.fst r6.snd with | none => none | some r15 => some (r15) else match m230 r6.fst false with | none => none | some r16 => some (r16) else bif r5.fst then bif r5.snd then match m230 r6.fst true with | none => none | some r17 => some (r17) else match m230 r6.fst r6.snd with | none => none | some r18 => some (r18) else bif r5.snd then match m230 false true with | none => none | some r19 => some (r19) else match m230 false r6.snd with | none => none | some r20 => some (r20)
theorem c234 (a0 : Int) (a1 : Num) (a2 : Num) : callR Tryz.prog (F234) 300 (an234) 234 (A234.c (a0, a1, a2, ())) [] 0 d234.rd = m234 a0 a1 a2 := by kernel_rfl
def e234 : Orc → Orc := eL Tryz.prog 234 false A234 d234 (fun g => m234 g.1 g.2.1 g.2.2.1)
theorem e234_ok {F : Orc} (h : OrcG Tryz.prog F) : OrcG Tryz.prog (e234 F) := eL_ok (sc := scU) scU_ok (hl_of F234_ok fa234 (fun _ => by kernel_rfl) (fun _ => by kernel_rfl) fun g => c234 g.1 g.2.1 g.2.2.1) ⟨_, Tryz.func234, by kernel_rfl, by kernel_rfl⟩ (fun _ => by kernel_rfl) (fun _ => by kernel_rfl) h
theorem e234_pure {F : Orc} {f : Nat} (h : PureF F f) : PureF (e234 F) f := orL_pure h (fun _ => by kernel_rfl)
def F155 : Orc := (e234 (e233 (e232 (e231 (e226 (e225 (e224 (e147 (e145 (e144 or0))))))))))
theorem F155_ok : OrcG Tryz.prog F155 := (e234_ok (e233_ok (e232_ok (e231_ok (e226_ok (e225_ok (e224_ok (e147_ok (e145_ok (e144_ok or0_g))))))))))
abbrev E155 : Type := Num × Int
def d155 : Td 0 E155 := .c [] [6, 7] (.r 0 1 (ec 6 (qp 0 0) (ec 7 (qi .i64) en)) (sb 0 34 (lg 34) sn) (fun z => (z.2.1, z.1.2.1)) (fun x => (((), x.2, ()), (x.1, ()))) fun _ => rfl)
def A155 := (lc (qi .i64) (lc (qg 34) (lc (qg 34) ln)))
def an155 : An := (.two .no (.two (.two (.rb [144, 145, 147, 231] 22) .no) (.two (.two (.rb [144, 145, 147, 231] 29) .no) (.two (.two .no (.two (.two (.two .no (.two (.two .no (.two (.two (.rb [144, 145, 147, 231] 69) .no) .no)) .no)) .no) .no)) .no))))
theorem pu155  : ∀ f ∈ ([144, 145, 147, 231] : List Nat), PureF (F155) f := (ob_cons (e234_pure (e233_pure (e232_pure (e231_pure (e226_pure (e225_pure (e224_pure (e147_pure (e145_pure (e144_pure or0_pure)))))))))) (ob_cons (e234_pure (e233_pure (e232_pure (e231_pure (e226_pure (e225_pure (e224_pure (e147_pure (e145_pure (e144_pure or0_pure)))))))))) (ob_cons (e234_pure (e233_pure (e232_pure (e231_pure (e226_pure (e225_pure (e224_pure (e147_pure (e145_pure (e144_pure or0_pure)))))))))) (ob_cons (e234_pure (e233_pure (e232_pure (e231_pure (e226_pure (e225_pure (e224_pure (e147_pure (e145_pure (e144_pure or0_pure)))))))))) ob_nil))))
theorem fa155 : FnAn Tryz.prog (F155) 0 300 155 (an155) := fnAn_of (l := [(.skip, (.rb [144, 145, 147, 231] 22)), (.skip, (.rb [144, 145, 147, 231] 29)), (.skip, (.rb [144, 145, 147, 231] 69))]) Tryz.func155 (bodyOf_eq (by kernel_rfl)) (by kernel_rfl) (ob_cons pu155 (ob_cons pu155 (ob_cons pu155 ob_nil)))
def m155 (a0 : Int) (a1 : Num) (a2 : Num) : Option E155 :=
 match match m144 a1 with | none => none | some r1 => bif bif r1 then false else true then some (true) else match m144 a2 with | none => none | some r2 => bif bif r2 then false else true then some (true) else some (bif m231 a0 then false else true) with | none => none | some r3 => bif r3 then some ((Num.mk (0) (0) (0), 1)) else match bif m147 a1 then some (true) else some (m147 a2) with | none => none | some r4 => bif r4 then some ((m224, 0)) else bif decide (a0 = 9) then match bif bif m145 (i64.wrap (a1.fLow + i64.wrap (0 - a2.fHigh))) then false else true then some (true) else some (bif m145 (i64.wrap (a1.fHigh + i64.wrap (0 - a2.fLow))) then false else true) with | none => none | some r5 => bif r5 then some ((Num.mk (0) (0) (0), 3)) else match m226 [a1.fStep, a2.fStep] with | none => none | some r6 => match m225 (i64.wrap (a1.fLow + i64.wrap (0 - a2.fHigh))) (i64.wrap (a1.fHigh + i64.wrap (0 - a2.fLow))) r6 with | none => none | some r7 => some ((r7, 0)) else bif decide (a0 = 8) then match bif bif m145 (i64.wrap (a1.fLow + a2.fLow)) then false else true then some (true) else some (bif m145 (i64.wrap (a1.fHigh + a2.fHigh)) then false else true) with | none => none | some r8 => bif r8 then some ((Num.mk (0) (0) (0), 3)) else match m226 [a1.fStep, a2.fStep] with | none => none | some r9 => match m225 (i64.wrap (a1.fLow + a2.fLow)) (i64.wrap (a1.fHigh + a2.fHigh)) r9 with | none => none | some r10 => some ((r10, 0)) else bif decide (a0 = 10) then match m232 a1 a2 with | none => none | some r11 => some (r11) else bif decide (a0 = 11) then match m233 a0 a1 a2 with | none => none | some r12 => some ((r12, 0)) else bif decide (a0 = 12) then match m233 a0 a1 a2 with | none => none | some r13 => some ((r13, 0)) else bif decide (a0 = 21) then match m233 a0 a1 a2 with | none => none | some r14 => some ((r14, 0)) else bif decide (a0 = 22) then match m233 a0 a1 a2 with | none => none | some r15 => some ((r15, 0)) else match m234 a0 a1 a2 with | none => none | some r16 => some ((r16, 0))
theorem c155 (a0 : Int) (a1 : Num) (a2 : Num) : callR Tryz.prog (F155) 300 (an155) 155 (A155.c (a0, a1, a2, ())) [] 0 d155.rd = m155 a0 a1 a2 := by kernel_rfl
def e155 : Orc → Orc := eL Tryz.prog 155 false A155 d155 (fun g => m155 g.1 g.2.1 g.2.2.1)
theorem e155_ok {F : Orc} (h : OrcG Tryz.prog F) : OrcG Tryz.prog (e155 F) := eL_ok (sc := scU) scU_ok (hl_of F155_ok fa155 (fun _ => by kernel_rfl) (fun _ => by kernel_rfl) fun g => c155 g.1 g.2.1 g.2.2.1) ⟨_, Tryz.func155, by kernel_rfl, by kernel_rfl⟩ (fun _ => by kernel_rfl) (fun _ => by kernel_rfl) h
abbrev E150 : Type := Num × GState2
def d150 : Td 2 E150 := .c [] [4] (.r 2 3 (ec 4 (qp 2 0) en) (sb 0 128 (lg 128) (sb 1 215 (lc (qf 150 (lc (qp 0 0) (lc (qp 1 0) ln))) ln) (sb 2 34 (lg 34) sn))) (fun z => (z.2.2.2.1, z.2.1)) (fun x => (((), ()), (x.2, (((), (), ()), ()), x.1, ()))) fun _ => rfl)
def A150 := (lc (qg 137) (lc (qp 0 0) (lc (qp 1 0) ln)))
def B150 := (sb 0 128 (lg 128) (sb 1 215 (lc (qf 150 (lc (qp 0 0) (lc (qp 1 0) ln))) ln) sn))
def x150 (M : GTerm → GState2 → Option E150) : Orc → Orc := eY Tryz.prog 150 2 A150 B150 d150 (fun g => M g.1.1 g.2.1)
def H150 (M : GTerm → GState2 → Option E150) : Prop := HY Tryz.prog 150 2 A150 B150 d150 (fun g => M g.1.1 g.2.1)
theorem x150_ok {M : GTerm → GState2 → Option E150} (hM : H150 M) {F : Orc} (h : OrcG Tryz.prog F) : OrcG Tryz.prog (x150 M F) := eY_ok hM ⟨_, Tryz.func150, by kernel_rfl, by kernel_rfl⟩ (fun _ => by kernel_rfl) h
def F150 (M150 : GTerm → GState2 → Option E150) : Orc := (e155 (e154 (e153 (e152 (e151 (x150 M150 (e92 (e81 (e80 or0)))))))))
theorem F150_ok {M150} (h150 : H150 M150) : OrcG Tryz.prog (F150 M150) := (e155_ok (e154_ok (e153_ok (e152_ok (e151_ok (x150_ok h150 (e92_ok (e81_ok (e80_ok or0_g)))))))))
structure L150_0 where
 t90 : List GTerm
 t91 : Int
 t92 : Int
 b0 : GState2
 b2 : Num
 b3 : Num
 b4 : Num
def d150_0 : Td 2 L150_0 := .c [] [2, 4, 7, 9, 90, 91, 92] (.r 2 5 (ec 2 (qp 1 0) (ec 4 (qp 2 0) (ec 7 (qp 3 0) (ec 9 (qp 4 0) (ec 90 (ql 137) (ec 91 (qi .i64) (ec 92 (qi .i64) en))))))) (sb 0 128 (lg 128) (sb 1 215 (lc (qf 150 (lc (qp 0 0) (lc (qp 1 0) ln))) ln) (sb 2 34 (lg 34) (sb 3 34 (lg 34) (sb 4 34 (lg 34) sn))))) (fun z => ⟨z.1.2.2.2.2.1, z.1.2.2.2.2.2.1, z.1.2.2.2.2.2.2.1, z.2.1, z.2.2.2.1, z.2.2.2.2.1, z.2.2.2.2.2.1⟩) (fun x => (((), (), (), (), x.t90, x.t91, x.t92, ()), (x.b0, (((), (), ()), ()), x.b2, x.b3, x.b4, ()))) fun _ => rfl)
def n150_0 (M150 : GTerm → GState2 → Option E150) (p : L150_0) : Option (Option L150_0) :=
 bif decide (p.t92 < p.t91) then if (0 : Int) ≤ p.t92 ∧ p.t92 < (↑p.t90.length : Int) then match m92 p.b3 p.t92 with | none => none | some r1 => bif r1 then match M150 (GTerm.mk p.t90[p.t92.toNat]!.fOp p.t90[p.t92.toNat]!.fN p.t90[p.t92.toNat]!.fKids) p.b0 with | none => none | some r2 => match m152 p.b4 r2.fst with | none => none | some r3 => some (some (L150_0.mk p.t90 p.t91 (i64.wrap (p.t92 + 1)) r2.snd p.b2 p.b3 r3)) else some (some (L150_0.mk p.t90 p.t91 (i64.wrap (p.t92 + 1)) p.b0 p.b2 p.b3 p.b4)) else none else some (none)
theorem q150_0 (M150 : GTerm → GState2 → Option E150) (p : L150_0) : execA Tryz.prog (F150 M150) Tryz.f150.ntmps 300 (loopAt Tryz.f150 0) .no (Option L150_0) (d150_0.pat p) (kOn d150_0.rd) = n150_0 M150 p := by kernel_rfl
def a150_0 (M150 : GTerm → GState2 → Option E150) : L150_0 → Option L150_0 := advG (n150_0 M150)
def an150 (M150 : GTerm → GState2 → Option E150) : An := (.two .no (.two (.two .no (.two .no (.two .no (.two .no (.two .no (.two .no (.two .no (.two .no (.two (.two .no (.two .no (.two (.two .no (d150_0.lp (a150_0 M150) .no)) .no))) .no))))))))) .no))
theorem fa150 (M150 : GTerm → GState2 → Option E150) : FnAn Tryz.prog (F150 M150) 2 300 150 (an150 M150) := fnAn_of (l := [(loopAt Tryz.f150 0, (d150_0.lp (a150_0 M150) .no))]) Tryz.func150 (bodyOf_eq (by kernel_rfl)) (by kernel_rfl) (ob_cons ⟨d150_0.ok _, advG_ok (q150_0 M150)⟩ ob_nil)
def s150 (M150 : GTerm → GState2 → Option E150) (a0 : GTerm) (b0 : GState2) : Option E150 :=
 bif decide (a0.fOp = 0) then some ((m80 a0.fN, b0)) else bif decide (a0.fOp = 24) then if (0 : Int) ≤ a0.fN ∧ a0.fN < (↑b0.fVars.length : Int) then some ((b0.fVars[a0.fN.toNat]!, b0)) else none else bif decide (a0.fOp = 23) then if (0 : Int) ≤ (0 : Int) ∧ (0 : Int) < (↑a0.fKids.length : Int) then match M150 (GTerm.mk a0.fKids[0]!.fOp a0.fKids[0]!.fN a0.fKids[0]!.fKids) b0 with | none => none | some r4 => match m151 r4.fst with | none => none | some r5 => bif bif r5.fst then false else true then if (0 : Int) ≤ (1 : Int) ∧ (1 : Int) < (↑a0.fKids.length : Int) then match M150 (GTerm.mk a0.fKids[1]!.fOp a0.fKids[1]!.fN a0.fKids[1]!.fKids) r4.snd with | none => none | some r6 => some (r6) else none else bif bif r5.snd then false else true then if (0 : Int) ≤ (2 : Int) ∧ (2 : Int) < (↑a0.fKids.length : Int) then match M150 (GTerm.mk a0.fKids[2]!.fOp a0.fKids[2]!.fN a0.fKids[2]!.fKids) r4.snd with | none => none | some r7 => some (r7) else none else if (0 : Int) ≤ (1 : Int) ∧ (1 : Int) < (↑a0.fKids.length : Int) then match M150 (GTerm.mk a0.fKids[1]!.fOp a0.fKids[1]!.fN a0.fKids[1]!.fKids) r4.snd with | none => none | some r8 => if (0 : Int) ≤ (2 : Int) ∧ (2 : Int) < (↑a0.fKids.length : Int) then match M150 (GTerm.mk a0.fKids[2]!.fOp a0.fKids[2]!.fN a0.fKids[2]!.fKids) r8.snd with | none => none | some r9 => match m152 r8.fst r9.fst with | none => none | some r10 => some ((r10, r9.snd)) else none else none else none else bif decide (a0.fOp = 25) then if (0 : Int) ≤ (0 : Int) ∧ (0 : Int) < (↑a0.fKids.length : Int) then match M150 (GTerm.mk a0.fKids[0]!.fOp a0.fKids[0]!.fN a0.fKids[0]!.fKids) b0 with | none => none | some r11 => match m81 r11.fst (0) (i64.wrap ((↑a0.fKids.length : Int) - 2)) with | none => none | some r12 => if (0 : Int) ≤ (1 : Int) ∧ (1 : Int) ≤ (↑a0.fKids.length : Int) then match a150_0 M150 (L150_0.mk (List.drop 1 a0.fKids) (↑(List.drop 1 a0.fKids).length : Int) (0) r11.snd (Num.mk (0) (0) (0)) r12.fst m153) with | none => none | some r13 => bif decide (r13.t92 < r13.t91) then if (0 : Int) ≤ r13.t92 ∧ r13.t92 < (↑r13.t90.length : Int) then match m92 r13.b3 r13.t92 with | none => none | some r14 => bif r14 then match M150 (GTerm.mk r13.t90[r13.t92.toNat]!.fOp r13.t90[r13.t92.toNat]!.fN r13.t90[r13.t92.toNat]!.fKids) r13.b0 with | none => none | some r15 => match m152 r13.b4 r15.fst with | none => none | some r16 => none else none else none else some ((r13.b4, r13.b0)) else none else none else bif decide ((↑a0.fKids.length : Int) = 1) then if (0 : Int) ≤ (0 : Int) ∧ (0 : Int) < (↑a0.fKids.length : Int) then match M150 (GTerm.mk a0.fKids[0]!.fOp a0.fKids[0]!.fN a0.fKids[0]!.fKids) b0 with | none => none | some r17 => match m154 a0.fOp r17.fst with | none => none | some r18 => some ((r18.fst, r17.snd)) else none else if (0 : Int) ≤ (0 : Int) ∧ (0 : Int) < (↑a0.fKids.length : Int) then match M150 (GTerm.mk a0.fKids[0]!.fOp a0.fKids[0]!.fN a0.fKids[0]!.fKids) b0 with | none => none | some r19 => if (0 : Int) ≤ (1 : Int) ∧ (1 : Int) < (↑a0.fKids.length : Int) then match M150 (GTerm.mk a0.fKids[1]!.fOp a0.fKids[1]!.fN a0.fKids[1]!.fKids) r19.snd with | none => none | some r20 => match m155 a0.fOp r19.fst r20.fst with | none => none | some r21 => some ((r21.fst, r20.snd)) else none else none
theorem c150 (M150 : GTerm → GState2 → Option E150) (a0 : GTerm) (b0 : GState2) : callR Tryz.prog (F150 M150) 300 (an150 M150) 150 (A150.c (a0, (), (), ())) (B150.d (b0, (((), (), ()), ()), ())) 2 d150.rd = s150 M150 a0 b0 := by kernel_rfl
def mm150 : Nat → (GTerm → GState2 → Option E150)
 | 0 => (fun _ _ => none)
 | n + 1 => (s150 (mm150 n))
def m150 (n : Nat) : GTerm → GState2 → Option E150 := (mm150 n)
theorem mm150_ok : ∀ n, H150 (m150 n)
 | 0 => fun _ _ h => (by cases h)
 | n + 1 => by
  have ih := mm150_ok n
  have i150 := ih
  exact (hy_of (F150_ok i150) (fa150 (m150 n)) (fun _ => by kernel_rfl) (fun _ => by kernel_rfl) (fun _ => by kernel_rfl) fun g => c150 (m150 n) g.1.1 g.2.1)
def r150 : GTerm → GState2 → Option E150 := fun a0 b0 => lim (fun n => m150 n a0 b0)
theorem r150_ok : H150 r150 := fun g b h => by
 obtain ⟨n, hn⟩ := lim_some (show lim (fun n => m150 n g.1.1 g.2.1) = some b from h)
 exact (mm150_ok n) g b hn
def e150 (F : Orc) : Orc := x150 r150 F
theorem e150_ok {F : Orc} (h : OrcG Tryz.prog F) : OrcG Tryz.prog (e150 F) := x150_ok r150_ok h
def F91 : Orc := (e176 (e144 or0))
theorem F91_ok : OrcG Tryz.prog F91 := (e176_ok (e144_ok or0_g))
abbrev E91 : Type := Int
def d91 : Td 0 E91 := .c [] [2] (.r 0 0 (ec 2 (qi .i64) en) sn (fun z => z.1.1) (fun x => ((x, ()), (()))) fun _ => rfl)
def A91 := (lc (qg 34) ln)
def an91 : An := .no
theorem fa91 : FnAn Tryz.prog (F91) 0 300 91 (an91) := fnAn_of (l := []) Tryz.func91 (bodyOf_eq (by kernel_rfl)) (by kernel_rfl) ob_nil
def m91 (a0 : Num) : Option E91 :=
 match m144 a0 with | none => none | some r1 => bif bif r1 then false else true then some (0) else match m176 a0 with | none => none | some r2 => some (r2)
theorem c91 (a0 : Num) : callR Tryz.prog (F91) 300 (an91) 91 (A91.c (a0, ())) [] 0 d91.rd = m91 a0 := by kernel_rfl
def e91 : Orc → Orc := eL Tryz.prog 91 false A91 d91 (fun g => m91 g.1)
theorem e91_ok {F : Orc} (h : OrcG Tryz.prog F) : OrcG Tryz.prog (e91 F) := eL_ok (sc := scU) scU_ok (hl_of F91_ok fa91 (fun _ => by kernel_rfl) (fun _ => by kernel_rfl) fun g => c91 g.1) ⟨_, Tryz.func91, by kernel_rfl, by kernel_rfl⟩ (fun _ => by kernel_rfl) (fun _ => by kernel_rfl) h
theorem e91_pure {F : Orc} {f : Nat} (h : PureF F f) : PureF (e91 F) f := orL_pure h (fun _ => by kernel_rfl)
end Go.Proofs.YtnfljbehcffmcaaGreat
end
noncomputable section
namespace Go.Proofs.YtnfljbehcffmcaaGreat
open Go Go.Iv
open Go.IntKind (i64)
abbrev sg (x : Int) : Num := ⟨x, x, 0⟩
def InM (x : Int) : Prop := -1099511627776 ≤ x ∧ x ≤ 1099511627776
theorem m145_eq {x : Int} (h : InM x) : m145 x = true := by unfold m145; simp [h.1, h.2]
theorem m149_eq (x : Int) : m149 x = sg x := rfl
theorem m80_eq (x : Int) : m80 x = sg x := rfl
theorem m147_sg (x : Int) : m147 (sg x) = false := by
 unfold m147 m224
 by_cases h1 : x = 1 <;> by_cases h2 : x = 0 <;> simp [h1, h2]
theorem m147_none : m147 m224 = true := by unfold m147; simp
theorem m144_sg {x : Int} (h : InM x) : m144 (sg x) = some true := by
 unfold m144
 simp [m147_sg, m145_eq h]
theorem m176_sg (x : Int) : m176 (sg x) = some 1 := by
 unfold m176
 simp [m147_sg]
theorem m91_sg {x : Int} (h : InM x) : m91 (sg x) = some 1 := by
 unfold m91
 simp [m144_sg h, m176_sg]
theorem m177_sg (x n : Int) : m177 (sg x) n = some (decide (x = n)) := by
  unfold m177
  simp only [m147_sg, cond_false]
  by_cases h1 : n < x
  · simp [h1]; omega
  · by_cases h2 : x < n
    · simp [h1, h2]; omega
    · simp [h1, h2]; omega
theorem m92_sg {x : Int} (h : InM x) (n : Int) : m92 (sg x) n = some (decide (x = n)) := by
 unfold m92
 simp [m144_sg h, m177_sg]
theorem m228_sg (x : Int) : m228 (sg x) = some (decide (x = 0), decide (x ≠ 0)) := by
 unfold m228
 simp only [m177_sg, m176_sg]
 by_cases h : x = 0 <;> simp [h]
theorem m151_sg {x : Int} (h : InM x) : m151 (sg x) = some (decide (x = 0), decide (x ≠ 0)) := by
 unfold m151
 simp [m144_sg h, m228_sg]
theorem m148_none (x : Num) : m148 m224 x = some x := by
 unfold m148
 simp [m147_none]
theorem m148_none2 (x : Int) : m148 (sg x) m224 = some (sg x) := by
 unfold m148
 simp [m147_sg, m147_none]
theorem m144_none : m144 m224 = some true := by unfold m144; simp [m147_none]
theorem m229_none {x : Int} (h : InM x) : m229 m224 (sg x) = some (sg x, 0) := by
 unfold m229
 simp [m144_none, m144_sg h, m148_none]
theorem m152_none {x : Int} (h : InM x) : m152 m224 (sg x) = some (sg x) := by
  unfold m152
  have e' : (bif decide (m224.fLow = (sg x).fLow) then bif decide (m224.fHigh = (sg x).fHigh) then bif decide (m224.fStep = (sg x).fStep) then true else false else false else false) = false := by
    unfold m224
    by_cases h1 : (1 : Int) = x
    · simp [← h1]
    · simp [h1]
  rw [e', cond_false, m229_none h]
theorem m230_eq {a b : Bool} (h : a ≠ b) : m230 a b = some (sg (flagI b)) := by
 unfold m230
 simp only [m149_eq]
 cases a <;> cases b <;> simp at h <;> simp [m148_none, flagI]
theorem m225_sg (x : Int) : m225 x x 0 = some (sg x) := by
 unfold m225
 simp [m149_eq]
theorem m227_eq {x : Int} (h : InM x) : m227 x = if x < 0 then -x else x := by
  unfold InM at h
  have w : i64.wrap ((0 : Int) - x) = -x := by rw [wrap_id (by omega) (by omega)]; omega
  unfold m227
  rw [show i64.wrap (0 - x) = -x from w]
  by_cases hx : x < 0
  · rw [if_pos hx, if_pos (by omega)]
  · rw [if_neg hx]
    split
    · omega
    · rfl
theorem m226_zero (l : List Int) (hl : l.length ≤ 1000000) (h : ∀ x ∈ l, x = 0) : m226 l = some 0 := by
 obtain ⟨v, e1, hv⟩ := loopI (rnd := n226_0) l.length (fun i (b : Int) => ⟨b, l, (l.length : Int), (i : Int)⟩) (fun i b => b = 0) (fun i b hi hb => by
  have hw := w1L hi hl
  have h0 := h _ (get_memL hi)
  subst hb
  refine ⟨0, ?_, rfl⟩
  have e2 : a226_1 ⟨0, 0, l, (l.length : Int), (i : Int)⟩ = some ⟨0, 0, l, (l.length : Int), (i : Int)⟩ := advG_stop (fun r => by unfold n226_1; simp)
  unfold n226_0
  dsimp only
  simp only [Int.toNat_natCast, h0, e2, hw]
  simp [hi]) (fun b _ => by unfold n226_0; simp) (b := 0) rfl
 have e1' : a226_0 ⟨0, l, (l.length : Int), 0⟩ = some ⟨v, l, (l.length : Int), (l.length : Int)⟩ := e1
 unfold m226
 rw [e1']
 simp [hv]
theorem m275_eq (l : List Int) (hl : l.length ≤ 1000000) (h1 : 0 < l.length) (x : Int) (h : ∀ y ∈ l, y = x) : m275 l = some x := by
 have h0 := h _ (get_memL h1)
 obtain ⟨v, e1, hv⟩ := loopI (rnd := n275_0) (l.length - 1) (fun i (b : Int) => ⟨l, b, ((i + 1 : Nat) : Int)⟩) (fun i b => b = x) (fun i b hi hb => by
  have hi2 : i + 1 < l.length := by omega
  have hw := w1L hi2 hl
  have hx := h _ (get_memL hi2)
  refine ⟨x, ?_, rfl⟩
  unfold n275_0
  dsimp only
  simp only [Int.toNat_natCast, hx, hw, hb]
  rw [decide_eq_true (by omega), cond_true, if_pos (by omega), if_neg (by omega)]) (fun b _ => by
   unfold n275_0
   dsimp only
   rw [decide_eq_false (by omega)]; rfl) (b := x) rfl
 have e1' : a275_0 ⟨l, x, 1⟩ = some ⟨l, v, (l.length : Int)⟩ := by
  rw [show l.length - 1 + 1 = l.length by omega] at e1
  exact e1
 unfold m275
 rw [decide_eq_false (by omega), cond_false, if_pos (by omega), h0, e1']
 simp [hv]
theorem m276_eq (l : List Int) (hl : l.length ≤ 1000000) (h1 : 0 < l.length) (x : Int) (h : ∀ y ∈ l, y = x) : m276 l = some x := by
 have h0 := h _ (get_memL h1)
 obtain ⟨v, e1, hv⟩ := loopI (rnd := n276_0) (l.length - 1) (fun i (b : Int) => ⟨l, b, ((i + 1 : Nat) : Int)⟩) (fun i b => b = x) (fun i b hi hb => by
  have hi2 : i + 1 < l.length := by omega
  have hw := w1L hi2 hl
  have hx := h _ (get_memL hi2)
  refine ⟨x, ?_, rfl⟩
  unfold n276_0
  dsimp only
  simp only [Int.toNat_natCast, hx, hw, hb]
  rw [decide_eq_true (by omega), cond_true, if_pos (by omega), if_neg (by omega)]) (fun b _ => by
   unfold n276_0
   dsimp only
   rw [decide_eq_false (by omega)]; rfl) (b := x) rfl
 have e1' : a276_0 ⟨l, x, 1⟩ = some ⟨l, v, (l.length : Int)⟩ := by
  rw [show l.length - 1 + 1 = l.length by omega] at e1
  exact e1
 unfold m276
 rw [decide_eq_false (by omega), cond_false, if_pos (by omega), h0, e1']
 simp [hv]
def InT (x : Int) : Prop := -1048576 ≤ x ∧ x ≤ 1048576
theorem InT.m {x : Int} (h : InT x) : InM x := by unfold InT at h; unfold InM; omega
theorem m274_eq {x y : Int} (hx : InT x) (hy : InT y) : m274 x y = some (x * y, true) := by
  have hm := mul_bd (a := x) (b := y) hx.1 hx.2 hy.1 hy.2
  have w : i64.wrap (x * y) = x * y := wrap_id (by omega) (by omega)
  obtain ⟨p, hp0⟩ : ∃ p : Int, m227 x = p := ⟨_, rfl⟩
  obtain ⟨q, hq0⟩ : ∃ q : Int, m227 y = q := ⟨_, rfl⟩
  have e1 : p = if x < 0 then -x else x := hp0.symm.trans (m227_eq hx.m)
  have e2 : q = if y < 0 then -y else y := hq0.symm.trans (m227_eq hy.m)
  unfold m274
  rw [hp0, hq0]
  unfold InT at hx hy
  by_cases h0 : x = 0
  · simp [h0, show i64.wrap 0 = 0 by decide]
  · have hp : 1 ≤ p ∧ p ≤ 1048576 := by rw [e1]; split <;> omega
    have hq : q ≤ 1048576 := by rw [e2]; split <;> omega
    have hd : (1048576 : Int) ≤ (1099511627776 : Int).tdiv p := by
      rw [Int.tdiv_eq_ediv_of_nonneg (by omega)]
      exact (Int.le_ediv_iff_mul_le (by omega)).2 (by omega)
    have hd2 : (1099511627776 : Int).tdiv p ≤ 1099511627776 := by
      rw [Int.tdiv_eq_ediv_of_nonneg (by omega)]
      exact Int.ediv_le_self _ (by omega)
    have w2 : i64.wrap ((1099511627776 : Int).tdiv p) = (1099511627776 : Int).tdiv p := wrap_id (by omega) (by omega)
    rw [w2, decide_eq_false h0, cond_false, cond_true, if_pos (show ¬ p = 0 by omega), decide_eq_false (show ¬ (1099511627776 : Int).tdiv p < q by omega), w]
    rfl
theorem m232_sg {x y : Int} (hx : InT x) (hy : InT y) : m232 (sg x) (sg y) = some (sg (x * y), 0) := by
 have z : i64.wrap 0 = 0 := by decide
 have e := m226_zero [0, 0, 0] (by simp) (by simp)
 have e1 := m275_eq [x * y, x * y, x * y, x * y] (by simp) (by simp) (x * y) (by simp)
 have e2 := m276_eq [x * y, x * y, x * y, x * y] (by simp) (by simp) (x * y) (by simp)
 unfold m232
 simp only [m274_eq hx hy, cond_true, cond_false, Int.zero_mul, z, e, List.cons_append, List.nil_append, e1, e2, m225_sg]
theorem m315_eq {a b : Int} (h1 : -1099511627776 ≤ a) (h2 : a ≤ 1099511627776) : m315 a b = some (divI a b) := m193_eq h1 h2
theorem m279_eq {o a b : Int} (ho : o = 11 ∨ o = 12 ∨ o = 21 ∨ o = 22) (ha : InT a) (hb : InT b) : m279 o a b = some (binV o a b) := by
  have e := m287_eq (a := a) (b := b) (by unfold InT at ha; omega) (by unfold InT at ha; omega) (by unfold InT at hb; omega) (by unfold InT at hb; omega)
  have e0 := m315_eq (a := a) (b := b) (by unfold InT at ha; omega) (by unfold InT at ha; omega)
  unfold m287 at e
  rw [m193_eq (by unfold InT at ha; omega) (by unfold InT at ha; omega)] at e
  unfold m279 binV
  rw [e0]
  rcases ho with h | h | h | h
  · simp [h]
  · rw [h]
    simp only [Int.reduceEq, decide_false, cond_false, decide_true, cond_true, if_false, if_true]
    exact e
  · simp only [h, Int.reduceEq, decide_false, cond_false, decide_true, cond_true, reduceIte]
    congr 1
    grind
  · simp only [h, Int.reduceEq, decide_false, cond_false, decide_true, cond_true, reduceIte]
    congr 1
    grind
theorem m278_sg {x : Int} (hx : InM x) : m278 (sg x) = some [x] := by
  unfold InM at hx
  have w : i64.wrap (x + i64.wrap (0 * 0)) = x := by rw [show i64.wrap (0 * 0) = 0 by decide, Int.add_zero]; exact wrap_id (by omega) (by omega)
  have e1 : a278_0 ⟨[], 1, 0, sg x⟩ = some ⟨[x], 1, 1, sg x⟩ := by
    unfold a278_0
    rw [advG_step (p' := ⟨[x], 1, 1, sg x⟩)]
    · exact advG_stop (fun r => by unfold n278_0; simp)
    · unfold n278_0
      simp [w, show i64.wrap 0 = 0 by decide, show i64.wrap x = x from wrap_id (by omega) (by omega)]
      decide
  unfold m278
  rw [m176_sg]
  dsimp only
  rw [e1]
  simp
theorem m233_sg {o x y : Int} (ho : o = 11 ∨ o = 12 ∨ o = 21 ∨ o = 22) (hx : InT x) (hy : InT y) : m233 o (sg x) (sg y) = some (sg (binV o x y)) := by
  have w1 : i64.wrap (1 * 1) = 1 := by decide
  have w2 : i64.wrap ((0 : Int) + 1) = 1 := by decide
  have e1 : ∀ (b0 b1 : Num), a233_1 ⟨o, x, [x], 1, 0, [y], 1, 0, b0, b1, m224⟩ = some ⟨o, x, [x], 1, 0, [y], 1, 1, b0, b1, sg (binV o x y)⟩ := fun b0 b1 => by
    unfold a233_1
    rw [advG_step (p' := ⟨o, x, [x], 1, 0, [y], 1, 1, b0, b1, sg (binV o x y)⟩)]
    · exact advG_stop (fun r => by unfold n233_1; simp)
    · unfold n233_1
      simp [m279_eq ho hx hy, m149_eq, m148_none, show i64.wrap 1 = 1 by decide]
  have e2 : a233_0 ⟨o, [x], 1, 0, sg y, ⟨0, 0, 0⟩, m224⟩ = some ⟨o, [x], 1, 1, sg y, ⟨0, 0, 0⟩, sg (binV o x y)⟩ := by
    unfold a233_0
    rw [advG_step (p' := ⟨o, [x], 1, 1, sg y, ⟨0, 0, 0⟩, sg (binV o x y)⟩)]
    · exact advG_stop (fun r => by unfold n233_0; simp)
    · unfold n233_0
      simp [m278_sg hy.m, e1, show i64.wrap 1 = 1 by decide]
  unfold m233
  simp only [m176_sg, w1, m278_sg hx.m, Int.reduceLT, decide_false, cond_false, List.length_singleton]
  rw [show ((1 : Nat) : Int) = 1 from rfl, e2]
  simp
theorem r280_sg (x y : Int) : r280 (sg x) (sg y) = some (if x = y then sg x else m224) := lim_eq 1 fun n hn => by
  obtain ⟨n, rfl⟩ : ∃ k, n = k + 1 := ⟨n - 1, by omega⟩
  show s280 (m280 n) (sg x) (sg y) = _
  unfold s280
  simp only [m147_sg, cond_false, decide_true, cond_true, m177_sg]
  by_cases h : x = y
  · simp [h]
  · simp [h, show ¬ y = x by omega]
theorem m234_sg {o x y : Int} (ho : 13 ≤ o ∧ o ≤ 20) (hx : InT x) (hy : InT y) : m234 o (sg x) (sg y) = some (sg (binV o x y)) := by
  unfold m234 binV
  rw [r280_sg]
  have e : m147 (if x = y then sg x else m224) = decide (x ≠ y) := by
    by_cases h : x = y
    · simp only [h, if_true, m147_sg]; simp
    · simp only [h, if_false, m147_none]; simp [h]
  simp only [m176_sg, m228_sg, e, Int.lt_irrefl, decide_false, cond_false]
  have cs : o = 13 ∨ o = 14 ∨ o = 15 ∨ o = 16 ∨ o = 17 ∨ o = 18 ∨ o = 19 ∨ o = 20 := by omega
  rcases cs with h | h | h | h | h | h | h | h <;> simp only [h, Int.reduceEq, decide_false, cond_false, decide_true, cond_true, reduceIte]
  · by_cases q : x = y <;> simp [q, m230_eq]
  · by_cases q : x = y <;> simp [q, m230_eq]
  · rw [m230_eq (by by_cases q : x < y <;> simp [q] <;> omega)]
  · rw [m230_eq (by by_cases q : x ≤ y <;> simp [q] <;> omega)]
  · rw [m230_eq (by by_cases q : y < x <;> simp [q] <;> omega)]
  · rw [m230_eq (by by_cases q : y ≤ x <;> simp [q] <;> omega)]
  · by_cases q : x = 0 <;> by_cases r : y = 0 <;> simp [q, r, m230_eq]
  · by_cases q : x = 0 <;> by_cases r : y = 0 <;> simp [q, r, m230_eq]
theorem m231_eq {o : Int} (h : 8 ≤ o ∧ o ≤ 22) : m231 o = true := by
 have cs : o = 8 ∨ o = 9 ∨ o = 10 ∨ o = 11 ∨ o = 12 ∨ o = 13 ∨ o = 14 ∨ o = 15 ∨ o = 16 ∨ o = 17 ∨ o = 18 ∨ o = 19 ∨ o = 20 ∨ o = 21 ∨ o = 22 := by omega
 unfold m231
 rcases cs with h | h | h | h | h | h | h | h | h | h | h | h | h | h | h <;> simp [h]
theorem m155_sg {o x y : Int} (ho : 8 ≤ o ∧ o ≤ 22) (hx : InT x) (hy : InT y) : m155 o (sg x) (sg y) = some (sg (binV o x y), 0) := by
  have hb := ho
  unfold m155
  have q : (9 : Int) = o ∨ o ≠ 9 := by omega
  simp only [m144_sg hx.m, m144_sg hy.m, m231_eq ho, m147_sg, cond_true, cond_false]
  have hx' := hx
  have hy' := hy
  unfold InT at hx hy
  have e0 := m226_zero [0, 0] (by simp) (by simp)
  have w0 : i64.wrap ((0 : Int) - y) = -y := by rw [wrap_id (by omega) (by omega)]; omega
  have w1 : i64.wrap (x + -y) = x - y := by rw [wrap_id (by omega) (by omega)]; omega
  have w2 : i64.wrap (x + y) = x + y := wrap_id (by omega) (by omega)
  have v1 : m145 (x - y) = true := m145_eq (by unfold InM; omega)
  have v2 : m145 (x + y) = true := m145_eq (by unfold InM; omega)
  by_cases h9 : o = 9
  · simp only [h9, decide_true, cond_true, show i64.wrap (0 - y) = -y from w0, w1, v1, cond_false, e0, m225_sg]
    rfl
  by_cases h8 : o = 8
  · simp only [h8, Int.reduceEq, decide_false, decide_true, cond_true, w2, v2, cond_false, e0, m225_sg]
    rfl
  by_cases h10 : o = 10
  · simp only [h10, Int.reduceEq, decide_false, decide_true, cond_true, cond_false, m232_sg hx' hy']
    rfl
  by_cases hd : o = 11 ∨ o = 12 ∨ o = 21 ∨ o = 22
  · have e := m233_sg hd hx' hy'
    rcases hd with h | h | h | h <;> simp only [h, Int.reduceEq, decide_false, decide_true, cond_true, cond_false] <;> (rw [h] at e; rw [e])
  · have e := m234_sg (o := o) (by omega) hx' hy'
    simp only [h8, h9, h10, show ¬ o = 11 by omega, show ¬ o = 12 by omega, show ¬ o = 21 by omega, show ¬ o = 22 by omega, decide_false, cond_false, e]
theorem m154_neg {x : Int} (h : InM x) : m154 6 (sg x) = some (sg (-x), 0) := by
 unfold m154
 have w0 : i64.wrap (-x) = -x := by unfold InM at h; rw [wrap_id (by omega) (by omega)]
 simp [m144_sg h, m147_sg, w0]
theorem m154_not {x : Int} (h : InM x) : m154 7 (sg x) = some (sg (flagI (decide (x = 0))), 0) := by
 unfold m154
 have e := m230_eq (a := decide (x ≠ 0)) (b := decide (x = 0)) (by by_cases q : x = 0 <;> simp [q])
 simp only [m144_sg h, m147_sg, m228_sg, cond_true, cond_false, Int.reduceEq, decide_true, decide_false, e]
theorem m146_low {x a : Int} (h : a < x) : m146 (sg x) a = some (m224, sg x) := by
 unfold m146
 simp [m147_sg, h]
theorem m146_high {x a : Int} (h : x ≤ a) : m146 (sg x) a = some (sg x, m224) := by
 unfold m146
 simp [m147_sg, show ¬ a < x by omega, h]
theorem m146_none (a : Int) : m146 m224 a = some (m224, m224) := by
 unfold m146
 simp [m147_none]
theorem m81_sg {x lo hi : Int} (h : InM x) (h1 : InM lo) (h2 : InM hi) (h3 : lo ≤ hi) : m81 (sg x) lo hi = some (sg (heldI x lo hi), 0) := by
  have w : i64.wrap (lo - 1) = lo - 1 := by unfold InM at h1; exact wrap_id (by omega) (by omega)
  unfold m81 heldI
  simp only [m144_sg h, m145_eq h1, m145_eq h2, decide_eq_false (show ¬ hi < lo by omega), cond_true, cond_false, w, m149_eq]
  by_cases q1 : x < lo
  · simp only [m146_high (show x ≤ lo - 1 by omega), m146_none, m147_sg, m147_none, cond_true, cond_false, m148_none, q1, if_true]
  · simp only [m146_low (show lo - 1 < x by omega), q1, if_false]
    by_cases q2 : hi < x
    · simp only [m146_low q2, m147_none, m147_sg, cond_true, cond_false, m148_none, q2, if_true]
    · simp only [m146_high (show x ≤ hi by omega), m147_none, cond_true, cond_false, q2, if_false]
end Go.Proofs.YtnfljbehcffmcaaGreat
end
noncomputable section
set_option maxRecDepth 100000
namespace Go.Proofs.YtnfljbehcffmcaaGreat
open Go Go.Iv
abbrev E237 : Type := List Int
def d237 : Td 1 E237 := .c [] [] (.r 1 1 en (sr 0 3 sn) (fun z => z.2.1) (fun x => ((()), (x, ()))) fun _ => rfl)
def A237 := (lc (qo 0) ln)
def B237 := (sr 0 3 sn)
def m237 (b0 : List Int) : Option E237 := if b0.length ≤ 1073741824 then some (b0.mergeSort fun x y => decide (x ≤ y)) else none
def Gv237 : Prop := HY Tryz.prog 237 1 A237 B237 d237 (fun g => m237 g.2.1)
def e237 : Orc → Orc := eY Tryz.prog 237 1 A237 B237 d237 (fun g => m237 g.2.1)
theorem e237_okv (hv : Gv237) {F : Orc} (h : OrcG Tryz.prog F) : OrcG Tryz.prog (e237 F) := eY_ok hv ⟨_, Tryz.func237, by kernel_rfl, by kernel_rfl⟩ (fun _ => by kernel_rfl) h
def Srt_ren : Go.Shelf.Ren := ⟨fun | 189 => 237 | 125 => 257 | 257 => 281 | 128 => 300 | 129 => 301 | 294 => 317 | 295 => 318 | 296 => 319 | 297 => 320 | 298 => 321 | 299 => 322 | 216 => 323 | 300 => 324 | 301 => 325 | 328 => 342 | 329 => 333 | 330 => 334 | 331 => 343 | 332 => 344 | 215 => 326 | 343 => 354 | n => n, fun | 28 => 27 | 3 => 3 | 46 => 240 | 0 => 0 | 51 => 322 | 53 => 324 | 4 => 4 | 183 => 316 | 182 => 315 | 131 => 193 | 5 => 5 | 9 => 9 | 218 => 344 | 222 => 348 | 228 => 356 | 229 => 297 | n => n, fun | n => n⟩
theorem Srt : Go.Proofs.Lays.n189 Tryz.prog Srt_ren where
 mixed := by kernel_rfl
 f125 := Tryz.func257.trans (congrArg some (by kernel_rfl))
 f128 := Tryz.func300.trans (congrArg some (by kernel_rfl))
 f129 := Tryz.func301.trans (congrArg some (by kernel_rfl))
 f189 := Tryz.func237.trans (congrArg some (by kernel_rfl))
 f215 := Tryz.func326.trans (congrArg some (by kernel_rfl))
 f216 := Tryz.func323.trans (congrArg some (by kernel_rfl))
 f257 := Tryz.func281.trans (congrArg some (by kernel_rfl))
 f294 := Tryz.func317.trans (congrArg some (by kernel_rfl))
 f295 := Tryz.func318.trans (congrArg some (by kernel_rfl))
 f296 := Tryz.func319.trans (congrArg some (by kernel_rfl))
 f297 := Tryz.func320.trans (congrArg some (by kernel_rfl))
 f298 := Tryz.func321.trans (congrArg some (by kernel_rfl))
 f299 := Tryz.func322.trans (congrArg some (by kernel_rfl))
 f300 := Tryz.func324.trans (congrArg some (by kernel_rfl))
 f301 := Tryz.func325.trans (congrArg some (by kernel_rfl))
 f328 := Tryz.func342.trans (congrArg some (by kernel_rfl))
 f329 := Tryz.func333.trans (congrArg some (by kernel_rfl))
 f330 := Tryz.func334.trans (congrArg some (by kernel_rfl))
 f331 := Tryz.func343.trans (congrArg some (by kernel_rfl))
 f332 := Tryz.func344.trans (congrArg some (by kernel_rfl))
 f343 := Tryz.func354.trans (congrArg some (by kernel_rfl))
 t0 := Tryz.underlying0
 a0 := Tryz.isAgg0
 z0 := Tryz.sizeOf0
 v0 := Tryz.zeroValue0
 t3 := Tryz.underlying3
 a3 := Tryz.isAgg3
 z3 := Tryz.sizeOf3
 v3 := Tryz.zeroValue3
 t4 := Tryz.underlying4
 a4 := Tryz.isAgg4
 z4 := Tryz.sizeOf4
 v4 := Tryz.zeroValue4
 t5 := Tryz.underlying5
 a5 := Tryz.isAgg5
 z5 := Tryz.sizeOf5
 v5 := Tryz.zeroValue5
 t9 := Tryz.underlying9
 a9 := Tryz.isAgg9
 z9 := Tryz.sizeOf9
 v9 := Tryz.zeroValue9
 t28 := Tryz.underlying27
 a28 := Tryz.isAgg27
 z28 := Tryz.sizeOf27
 v28 := Tryz.zeroValue27
 t46 := Tryz.underlying240
 a46 := Tryz.isAgg240
 z46 := Tryz.sizeOf240
 v46 := Tryz.zeroValue240
 t51 := Tryz.underlying322
 a51 := Tryz.isAgg322
 z51 := Tryz.sizeOf322
 v51 := Tryz.zeroValue322
 t53 := Tryz.underlying324
 a53 := Tryz.isAgg324
 z53 := Tryz.sizeOf324
 v53 := Tryz.zeroValue324
 t131 := Tryz.underlying193
 a131 := Tryz.isAgg193
 z131 := Tryz.sizeOf193
 v131 := Tryz.zeroValue193
 t182 := Tryz.underlying315
 a182 := Tryz.isAgg315
 z182 := Tryz.sizeOf315
 v182 := Tryz.zeroValue315
 t183 := Tryz.underlying316
 a183 := Tryz.isAgg316
 z183 := Tryz.sizeOf316
 v183 := Tryz.zeroValue316
 t218 := Tryz.underlying344
 a218 := Tryz.isAgg344
 z218 := Tryz.sizeOf344
 v218 := Tryz.zeroValue344
 t222 := Tryz.underlying348
 a222 := Tryz.isAgg348
 z222 := Tryz.sizeOf348
 v222 := Tryz.zeroValue348
 t228 := Tryz.underlying356
 a228 := Tryz.isAgg356
 z228 := Tryz.sizeOf356
 v228 := Tryz.zeroValue356
 t229 := Tryz.underlying297
 a229 := Tryz.isAgg297
 z229 := Tryz.sizeOf297
 v229 := Tryz.zeroValue297
theorem relL_ints {A : Nat → Prop} {w : World} {l : List Int} {us : List Value} (h1 : us.length = l.length * 1) (h2 : ∀ i, i < l.length → RelL A w (uni.cells 3 l[i]!) ((us.drop (i * 1)).take 1)) : us = l.map (Value.int .i64) := by
 apply List.ext_getElem (by simpa using h1)
 intro i q1 q2
 simp at q2
 obtain ⟨g1, g2⟩ := h2 i q2
 have e : ((us.drop (i * 1)).take 1)[0]? = some us[i] := by
  rw [List.getElem?_take_of_lt (by omega), List.getElem?_drop]
  simp [q1]
 have g3 := g2 0 (.lit (.int .i64 l[i]!)) us[i] rfl e
 rw [g3.litEq, List.getElem_map, getElem!_pos l i q2]
theorem ok_ints {A : Nat → Prop} {w : World} {l : List Int} : ∀ i, i < l.length → RelL A w (uni.cells 3 l[i]!) (((l.map (Value.int .i64)).drop (i * 1)).take 1) := fun i hi => by
 have e : ((l.map (Value.int .i64)).drop (i * 1)).take 1 = [Value.int .i64 l[i]!] := by
  rw [Nat.mul_one, List.drop_eq_getElem_cons (by simpa using hi), List.take_succ_cons, List.take_zero, List.getElem_map, getElem!_pos l i hi]
 rw [e]
 refine ⟨rfl, fun j a v q1 q2 => ?_⟩
 cases j with
 | zero => cases q1; cases q2; exact .lit _
 | succ j => cases q1
theorem gv237a (l b : List Int) (hb : m237 l = some b) : FnY Tryz.prog 237 [.own 0] [(0, .row 3 l)] 1 (outY Tryz.prog 237 1 (d237.pat b)) := by
  unfold m237 at hb
  split at hb
  case isFalse => cases hb
  rename_i hlen
  have hbl : b = l.mergeSort fun x y => decide (x ≤ y) := (Option.some.inj hb).symm
  have hln : b.length = l.length := by rw [hbl, List.length_mergeSort]
  intro ρ
  have ho : outY Tryz.prog 237 1 (d237.pat b) = ⟨.tup [], [(0, .row 3 b)], 1⟩ := by kernel_rfl
  show Go.Iv.Fn Tryz.prog 237 [(AVq.own 0).sub ρ] (IRs.res ρ [(0, .row 3 l)]) _
  rw [ho, sub_own]
  intro w A vs hr hd hn
  obtain ⟨hr1, hr2⟩ := hr
  obtain ⟨v, rfl⟩ : ∃ v, vs = [v] := List.length_eq_one_iff.1 hr1
  have hv : v = ρ.v 0 := (hr2 0 _ v rfl rfl).litEq
  subst hv
  generalize hv : ρ.v 0 = v at *
  have hok := hd.1 (.row v 3 l) (by show _ ∈ [Res.row (ρ.v 0) 3 l]; rw [hv]; exact List.mem_singleton.2 rfl)
  obtain ⟨us, h1, h2, h3⟩ := hok
  have hσ : IRs.res ρ [(0, .row 3 l)] = [Res.row v 3 l] := by show [Res.row (ρ.v 0) 3 l] = _; rw [hv]
  have hus : us = l.map (Value.int .i64) := relL_ints h1.1 h3
  rw [hσ] at hd hn ⊢
  have fin : ∀ w' : World, RowIs w' v 3 1 b.length (b.map (Value.int .i64)) → Kp (blks [Res.row v 3 l]) w w' → ∃ v_1 av σ', Ending.returned (Value.tuple #[]) = Ending.returned v_1 ∧
      (∃ ρ', Agr 1 ρ ρ' ∧ av = (AVq.tup (Dat := uni.Dat) []).sub ρ' ∧ List.Perm σ' (IRs.res ρ' [(0, .row 3 b)])) ∧ Tr ⟨w, A, blks [Res.row v 3 l]⟩ (blks [Res.row v 3 l]) [Res.row v 3 l] w σ' w' ∧ Rel (al ⟨w, A, blks [Res.row v 3 l]⟩ σ') w' av v_1 := fun w' hrow hk => by
    have hbk : blks [Res.row v 3 b] = blks [Res.row v 3 l] := rfl
    have hal : ∀ x, al ⟨w, A, blks [Res.row v 3 l]⟩ [Res.row v 3 l] x → al ⟨w, A, blks [Res.row v 3 l]⟩ [Res.row v 3 b] x := fun x h => h
    refine ⟨_, .tup [], [Res.row v 3 b], rfl, ⟨ρ, fun i _ => ⟨rfl, rfl⟩, by simp only [AVq.sub, List.map_nil], by show List.Perm _ [Res.row (ρ.v 0) 3 b]; rw [hv]⟩, ⟨⟨hk, ?_, ?_, ?_⟩, hk, fun x _ h => ⟨hal x h, h.2⟩⟩, Rel.tup [] [] rfl (fun j a v q => by cases q)⟩
    · intro r hr
      rw [List.mem_singleton.1 hr]
      exact ⟨b.map (Value.int .i64), hrow, fun i _ => rfl, ok_ints⟩
    · rw [hbk]; exact hn
    · intro x hx; exact .inl hx
  obtain ⟨h1l, hcase⟩ := h1
  rcases hcase with ⟨p, hvp, hl0⟩ | ⟨gb, cap, cur, hvp, hg, q1, q2, q3, q4⟩
  · have hl : l = [] := List.length_eq_zero_iff.1 hl0
    have hbn : b = [] := by rw [hbl, hl, List.mergeSort_nil]
    subst hvp
    refine (Go.Proofs.Any.slices_Sort_int_none Srt p 0 w).mono fun e w' he => ?_
    obtain ⟨rfl, rfl⟩ := he
    refine fin w' ?_ (Kp.refl _ _)
    rw [hbn]
    exact ⟨rfl, .inl ⟨p, rfl, rfl⟩⟩
  · subst hvp
    have hgs : gb < w.heap.size := (Array.getElem?_eq_some_iff.1 hg).1
    have q4 : cur.toList.take (l.length * 1) = us := q4
    have q3 : cur.size = (cap + 1) * 1 := q3
    rw [Nat.mul_one] at q4
    have q1 : l.length ≤ cap + 1 := q1
    have hbc : b.length ≤ cap + 1 := by rw [hln]; exact q1
    have hH := holds_of_blockI (ss := l) hg (by rw [q4, hus])
    refine (Go.Proofs.Any.slices_Sort_int Srt gb 0 (cap + 1) l w hH hgs (by omega)).mono fun e w' he => ?_
    obtain ⟨rfl, n, os, rfl⟩ := he
    rw [← hbl]
    obtain ⟨k1, k2, k3, k4, k5⟩ := grownBy_sortedI (w := w) (g := gb) (n := n) (os := os) b.toArray
    refine fin _ ?_ ⟨k1, k2, k3, k4, fun k hk hX => k5 k hk (fun h => hX ?_)⟩
    · refine ⟨by simp, .inr ⟨gb, cap, _, by rw [hln]; rfl, heap_sortedI _ hg, hbc, q2, by simp [Go.Sort.putCells, q3], ?_⟩⟩
      rw [Nat.mul_one]
      exact take_putCellsI cur b (by rw [q3, Nat.mul_one]; exact hbc)
    · cases h
      exact mem_blks.2 ⟨_, List.mem_singleton.2 rfl, rfl⟩
theorem gv237 : Gv237 := fun g b hb => gv237a g.2.1 b hb
abbrev E18 : Type := Bool
def d18 : Td 0 E18 := .c [] [0] (.r 0 0 (ec 0 qb en) sn (fun z => z.1.1) (fun x => ((x, ()), (()))) fun _ => rfl)
def A18 := ln
def m18 : E18 := true
def Gv18 : Prop := HL Tryz.prog 18 A18 d18 (fun _ => some m18)
def e18 : Orc → Orc := eL Tryz.prog 18 false A18 d18 (fun _ => some m18)
theorem e18_okv (hv : Gv18) {F : Orc} (h : OrcG Tryz.prog F) : OrcG Tryz.prog (e18 F) := eL_ok (sc := scU) scU_ok hv ⟨_, Tryz.func18, by kernel_rfl, by kernel_rfl⟩ (fun _ => by kernel_rfl) (fun _ => by kernel_rfl) h
theorem t18 : callN Tryz.prog or0 (fun _ => false) 300 60 Bool 18 [] [] 0 (kRes asB) = some true := by kernel_rfl
theorem fnY_ofFn' {P : Program} {f : FuncId} {xs : List AV} {d : AV} (h : Iv.Fn P f xs [] (fun a s => a = d ∧ s = [])) (ha : ∀ ρ : Gh, xs.map (AVq.sub ρ) = xs) (hd : ∀ ρ : Gh, d.sub ρ = d) : FnY P f xs [] 0 ⟨d, [], 0⟩ := fun ρ => by
 rw [ha ρ]
 exact h.mono fun a s ⟨h1, h2⟩ => ⟨ρ, fun _ _ => ⟨rfl, rfl⟩, by rw [h1]; exact (hd ρ).symm, by rw [h2]; exact List.Perm.refl _⟩
theorem o18_eq : outY Tryz.prog 18 0 (d18.pat m18) = ⟨.b true, [], 0⟩ := by kernel_rfl
theorem gv18 : Gv18 := fun g b hb => by
 cases hb
 rw [o18_eq]
 exact fnY_ofFn' (fn_run (callN_ok (P := Tryz.prog) (or0_g (P := Tryz.prog)).ok (or0_g (P := Tryz.prog)).nat 300 60) P0.b rfl (fun d hd => by cases hd) t18).2 (fun _ => rfl) (fun ρ => cloB_sub 2 (by kernel_rfl))
end Go.Proofs.YtnfljbehcffmcaaGreat
end
noncomputable section
set_option maxRecDepth 100000
namespace Go.Proofs.YtnfljbehcffmcaaGreat
open Go Go.Iv
open Go.IntKind (i64)
def F79 : Orc := (e144 (e136 (e91 or0)))
theorem F79_ok : OrcG Tryz.prog F79 := (e144_ok (e136_ok (e91_ok or0_g)))
structure L79_4 where
 t2 : List Num
 t100 : List GVar
 t101 : Int
 t102 : Int
def d79_4 : Td 0 L79_4 := .c [] [2, 100, 101, 102] (.r 0 1 (ec 2 (ql 34) (ec 100 (qo 0) (ec 101 (qi .i64) (ec 102 (qi .i64) en)))) (sr 0 131 sn) (fun z => ⟨z.1.1, z.2.1, z.1.2.2.1, z.1.2.2.2.1⟩) (fun x => ((x.t2, (), x.t101, x.t102, ()), (x.t100, ()))) fun _ => rfl)
def n79_4 (p : L79_4) : Option (Option L79_4) :=
 bif decide (p.t102 < p.t101) then if (0 : Int) ≤ p.t102 ∧ p.t102 < (↑p.t100.length : Int) then if 131 = 131 ∧ p.t102.toNat < p.t100.length then match if (0 : Int) ≤ p.t102 ∧ p.t102 < (↑p.t2.length : Int) then match m144 p.t2[p.t102.toNat]! with | none => none | some r2 => bif bif r2 then false else true then some (true) else if (0 : Int) ≤ p.t102 ∧ p.t102 < (↑p.t2.length : Int) then match m91 p.t2[p.t102.toNat]! with | none => none | some r3 => some (decide (r3 = 0)) else none else none with | none => none | some r4 => bif r4 then some (none) else if (0 : Int) ≤ p.t102 ∧ p.t102 < (↑p.t2.length : Int) then bif decide (p.t2[p.t102.toNat]!.fLow < p.t100[p.t102.toNat]!.fLow) then some (none) else if (0 : Int) ≤ p.t102 ∧ p.t102 < (↑p.t2.length : Int) then bif decide (p.t100[p.t102.toNat]!.fHigh < p.t2[p.t102.toNat]!.fHigh) then some (none) else some (some (L79_4.mk p.t2 p.t100 p.t101 (i64.wrap (p.t102 + 1)))) else none else none else none else none else some (none)
def g79_4 : An := (.two .no (.two .no (.two (.two .no (.two (.two (.rb [91, 144] 120) .no) .no)) .no)))
theorem q79_4 (p : L79_4) : execA Tryz.prog (F79) Tryz.f79.ntmps 300 (loopAt Tryz.f79 4) g79_4 (Option L79_4) (d79_4.pat p) (kOn d79_4.rd) = n79_4 p := by kernel_rfl
def a79_4 : L79_4 → Option L79_4 := advG (n79_4)
structure L79_3 where
 t2 : List Num
 t9 : List GVar
 t69 : List GVar
 t70 : Int
 t71 : Int
 b0 : View
def d79_3 : Td 0 L79_3 := .c [] [2, 4, 9, 69, 70, 71] (.r 0 3 (ec 2 (ql 34) (ec 4 (qp 0 0) (ec 9 (qo 1) (ec 69 (qo 2) (ec 70 (qi .i64) (ec 71 (qi .i64) en)))))) (sb 0 29 (lg 29) (sr 1 131 (sr 2 131 sn))) (fun z => ⟨z.1.1, z.2.2.1, z.2.2.2.1, z.1.2.2.2.2.1, z.1.2.2.2.2.2.1, z.2.1⟩) (fun x => ((x.t2, (), (), (), x.t70, x.t71, ()), (x.b0, x.t9, x.t69, ()))) fun _ => rfl)
def n79_3 (p : L79_3) : Option (Option L79_3) :=
 bif decide (p.t71 < p.t70) then if (0 : Int) ≤ p.t71 ∧ p.t71 < (↑p.t69.length : Int) then if 131 = 131 ∧ p.t71.toNat < p.t69.length then if (0 : Int) ≤ p.t71 ∧ p.t71 < (↑p.b0.fPublic.length : Int) then bif decide (((p.t2, (), (), (), p.t70, p.t71, ()), p.b0, p.t9, p.t69, ()).snd.fst.fPublic[((p.t2, (), (), (), p.t70, p.t71, ()), p.b0, p.t9, p.t69, ()).fst.snd.snd.snd.snd.snd.fst.toNat]! < ((p.t2, (), (), (), p.t70, p.t71, ()), p.b0, p.t9, p.t69, ()).snd.snd.snd.fst[((p.t2, (), (), (), p.t70, p.t71, ()), p.b0, p.t9, p.t69, ()).fst.snd.snd.snd.snd.snd.fst.toNat]!.fLow) then some (none) else if (0 : Int) ≤ p.t71 ∧ p.t71 < (↑p.b0.fPublic.length : Int) then bif decide (((p.t2, (), (), (), p.t70, p.t71, ()), p.b0, p.t9, p.t69, ()).snd.snd.snd.fst[((p.t2, (), (), (), p.t70, p.t71, ()), p.b0, p.t9, p.t69, ()).fst.snd.snd.snd.snd.snd.fst.toNat]!.fHigh < ((p.t2, (), (), (), p.t70, p.t71, ()), p.b0, p.t9, p.t69, ()).snd.fst.fPublic[((p.t2, (), (), (), p.t70, p.t71, ()), p.b0, p.t9, p.t69, ()).fst.snd.snd.snd.snd.snd.fst.toNat]!) then some (none) else some (some (L79_3.mk p.t2 p.t9 p.t69 p.t70 (i64.wrap (p.t71 + 1)) p.b0)) else none else none else none else none else some (none)
theorem q79_3 (p : L79_3) : execA Tryz.prog (F79) Tryz.f79.ntmps 300 (loopAt Tryz.f79 3) .no (Option L79_3) (d79_3.pat p) (kOn d79_3.rd) = n79_3 p := by kernel_rfl
def a79_3 : L79_3 → Option L79_3 := advG (n79_3)
structure L79_2 where
 t2 : List Num
 t8 : List GVar
 t9 : List GVar
 t13 : Int
 t40 : List Int
 t41 : Int
 t42 : Int
 t47 : List GVar
 t48 : Int
 t49 : Int
 b0 : Flat
 b1 : View
def d79_2 : Td 0 L79_2 := .c [] [2, 3, 4, 8, 9, 13, 40, 41, 42, 47, 48, 49] (.r 0 5 (ec 2 (ql 34) (ec 3 (qp 0 0) (ec 4 (qp 1 0) (ec 8 (qo 2) (ec 9 (qo 3) (ec 13 (qi .i64) (ec 40 (qo 4) (ec 41 (qi .i64) (ec 42 (qi .i64) (ec 47 (ql 131) (ec 48 (qi .i64) (ec 49 (qi .i64) en)))))))))))) (sb 0 26 (lg 26) (sb 1 29 (lg 29) (sr 2 131 (sr 3 131 (sr 4 129 sn))))) (fun z => ⟨z.1.1, z.2.2.2.1, z.2.2.2.2.1, z.1.2.2.2.2.2.1, z.2.2.2.2.2.1, z.1.2.2.2.2.2.2.2.1, z.1.2.2.2.2.2.2.2.2.1, z.1.2.2.2.2.2.2.2.2.2.1, z.1.2.2.2.2.2.2.2.2.2.2.1, z.1.2.2.2.2.2.2.2.2.2.2.2.1, z.2.1, z.2.2.1⟩) (fun x => ((x.t2, (), (), (), (), x.t13, (), x.t41, x.t42, x.t47, x.t48, x.t49, ()), (x.b0, x.b1, x.t8, x.t9, x.t40, ()))) fun _ => rfl)
def n79_2 (p : L79_2) : Option (Option L79_2) :=
 bif decide (p.t49 < p.t48) then if (0 : Int) ≤ p.t49 ∧ p.t49 < (↑p.t47.length : Int) then bif decide (p.t47[p.t49.toNat]!.fKind = p.t13) then if (p.t9 ++ [p.t47[p.t49.toNat]!]).length ≤ 1073741824 then some (some (L79_2.mk p.t2 p.t8 (p.t9 ++ [p.t47[p.t49.toNat]!]) p.t13 p.t40 p.t41 p.t42 p.t47 p.t48 (i64.wrap (p.t49 + 1)) p.b0 p.b1)) else none else some (some (L79_2.mk p.t2 p.t8 p.t9 p.t13 p.t40 p.t41 p.t42 p.t47 p.t48 (i64.wrap (p.t49 + 1)) p.b0 p.b1)) else none else some (none)
theorem q79_2 (p : L79_2) : execA Tryz.prog (F79) Tryz.f79.ntmps 300 (loopAt Tryz.f79 2) .no (Option L79_2) (d79_2.pat p) (kOn d79_2.rd) = n79_2 p := by kernel_rfl
def a79_2 : L79_2 → Option L79_2 := advG (n79_2)
structure L79_1 where
 t2 : List Num
 t8 : List GVar
 t9 : List GVar
 t40 : List Int
 t41 : Int
 t42 : Int
 b0 : Flat
 b1 : View
def d79_1 : Td 0 L79_1 := .c [] [2, 3, 4, 8, 9, 40, 41, 42] (.t (TurnOk.s 9 [] 131) (.c [] [2, 3, 4, 8, 9, 40, 41, 42] (.r 0 5 (ec 2 (ql 34) (ec 3 (qp 0 0) (ec 4 (qp 1 0) (ec 8 (qo 2) (ec 9 (qo 3) (ec 40 (qo 4) (ec 41 (qi .i64) (ec 42 (qi .i64) en)))))))) (sb 0 26 (lg 26) (sb 1 29 (lg 29) (sr 2 131 (sr 3 131 (sr 4 129 sn))))) (fun z => ⟨z.1.1, z.2.2.2.1, z.2.2.2.2.1, z.2.2.2.2.2.1, z.1.2.2.2.2.2.2.1, z.1.2.2.2.2.2.2.2.1, z.2.1, z.2.2.1⟩) (fun x => ((x.t2, (), (), (), (), (), x.t41, x.t42, ()), (x.b0, x.b1, x.t8, x.t9, x.t40, ()))) fun _ => rfl)))
def n79_1 (p : L79_1) : Option (Option L79_1) :=
 bif decide (p.t42 < p.t41) then if (0 : Int) ≤ p.t42 ∧ p.t42 < (↑p.t40.length : Int) then if 129 = 129 ∧ p.t42.toNat < p.t40.length then match a79_2 (L79_2.mk p.t2 p.t8 p.t9 p.t40[p.t42.toNat]! p.t40 p.t41 p.t42 p.b0.fVars (↑p.b0.fVars.length : Int) (0) p.b0 p.b1) with | none => none | some r1 => bif decide (r1.t49 < r1.t48) then if (0 : Int) ≤ r1.t49 ∧ r1.t49 < (↑r1.t47.length : Int) then bif decide (r1.t47[r1.t49.toNat]!.fKind = r1.t13) then if (r1.t9 ++ [r1.t47[r1.t49.toNat]!]).length ≤ 1073741824 then none else none else none else none else some (some (L79_1.mk r1.t2 r1.t8 r1.t9 r1.t40 r1.t41 (i64.wrap (r1.t42 + 1)) r1.b0 r1.b1)) else none else none else some (none)
def g79_1 : An := (.two .no (.two .no (.two (.two .no (.two .no (d79_2.lp a79_2 .no))) .no)))
theorem q79_1 (p : L79_1) : execA Tryz.prog (F79) Tryz.f79.ntmps 300 (loopAt Tryz.f79 1) g79_1 (Option L79_1) (d79_1.pat p) (kOn d79_1.rd) = n79_1 p := by kernel_rfl
def a79_1 : L79_1 → Option L79_1 := advG (n79_1)
structure L79_0 where
 t2 : List Num
 t8 : List GVar
 t26 : List GVar
 t27 : Int
 t28 : Int
 b0 : Flat
 b1 : View
def d79_0 : Td 0 L79_0 := .c [] [2, 3, 4, 8, 9, 26, 27, 28] (.t (TurnOk.s 8 [] 131) (.c [] [2, 3, 4, 8, 9, 26, 27, 28] (.r 0 3 (ec 2 (ql 34) (ec 3 (qp 0 0) (ec 4 (qp 1 0) (ec 8 (qo 2) (ec 9 qn (ec 26 (ql 131) (ec 27 (qi .i64) (ec 28 (qi .i64) en)))))))) (sb 0 26 (lg 26) (sb 1 29 (lg 29) (sr 2 131 sn))) (fun z => ⟨z.1.1, z.2.2.2.1, z.1.2.2.2.2.2.1, z.1.2.2.2.2.2.2.1, z.1.2.2.2.2.2.2.2.1, z.2.1, z.2.2.1⟩) (fun x => ((x.t2, (), (), (), (), x.t26, x.t27, x.t28, ()), (x.b0, x.b1, x.t8, ()))) fun _ => rfl)))
def n79_0 (p : L79_0) : Option (Option L79_0) :=
 bif decide (p.t28 < p.t27) then if (0 : Int) ≤ p.t28 ∧ p.t28 < (↑p.t26.length : Int) then bif decide (p.t26[p.t28.toNat]!.fKind = 2) then if (p.t8 ++ [p.t26[p.t28.toNat]!]).length ≤ 1073741824 then some (some (L79_0.mk p.t2 (p.t8 ++ [p.t26[p.t28.toNat]!]) p.t26 p.t27 (i64.wrap (p.t28 + 1)) p.b0 p.b1)) else none else some (some (L79_0.mk p.t2 p.t8 p.t26 p.t27 (i64.wrap (p.t28 + 1)) p.b0 p.b1)) else none else some (none)
theorem q79_0 (p : L79_0) : execA Tryz.prog (F79) Tryz.f79.ntmps 300 (loopAt Tryz.f79 0) .no (Option L79_0) (d79_0.pat p) (kOn d79_0.rd) = n79_0 p := by kernel_rfl
def a79_0 : L79_0 → Option L79_0 := advG (n79_0)
abbrev E79 : Type := Int
def d79 : Td 0 E79 := .c [] [6] (.r 0 0 (ec 6 (qi .i64) en) sn (fun z => z.1.1) (fun x => ((x, ()), (()))) fun _ => rfl)
def A79 := (lc (qg 26) (lc (qg 29) (lc (ql 34) ln)))
def an79 : An := (.two .no (.two .no (.two .no (.two (.two .no (d79_0.lp a79_0 .no)) (.two (.two .no (d79_1.lp a79_1 g79_1)) (.two .no (.two (.two .no (d79_3.lp a79_3 .no)) (.two .no (.two (.two .no (d79_4.lp a79_4 g79_4)) .no)))))))))
theorem pu79  : ∀ f ∈ ([91, 144] : List Nat), PureF (F79) f := (ob_cons (e144_pure (e136_pure (e91_pure or0_pure))) (ob_cons (e144_pure (e136_pure (e91_pure or0_pure))) ob_nil))
theorem fa79 : FnAn Tryz.prog (F79) 0 300 79 (an79) := fnAn_of (l := [(loopAt Tryz.f79 0, (d79_0.lp a79_0 .no)), (loopAt Tryz.f79 1, (d79_1.lp a79_1 g79_1)), (loopAt Tryz.f79 2, (d79_2.lp a79_2 .no)), (loopAt Tryz.f79 3, (d79_3.lp a79_3 .no)), (loopAt Tryz.f79 4, (d79_4.lp a79_4 g79_4)), (.skip, (.rb [91, 144] 120))]) Tryz.func79 (bodyOf_eq (by kernel_rfl)) (by kernel_rfl) (ob_cons ⟨d79_0.ok _, advG_ok (q79_0)⟩ (ob_cons ⟨d79_1.ok _, advG_ok (q79_1)⟩ (ob_cons ⟨d79_2.ok _, advG_ok (q79_2)⟩ (ob_cons ⟨d79_3.ok _, advG_ok (q79_3)⟩ (ob_cons ⟨d79_4.ok _, advG_ok (q79_4)⟩ (ob_cons pu79 ob_nil))))))
def m79 (a0 : Flat) (a1 : View) (a2 : List Num) : Option E79 :=
 match m136 a0 with | none => none | some r5 => bif bif decide (r5 = 0) then false else true then some (r5) else match a79_0 (L79_0.mk a2 [] a0.fVars (↑a0.fVars.length : Int) (0) a0 a1) with | none => none | some r6 => bif decide (r6.t28 < r6.t27) then if (0 : Int) ≤ r6.t28 ∧ r6.t28 < (↑r6.t26.length : Int) then bif decide (r6.t26[r6.t28.toNat]!.fKind = 2) then if (r6.t8 ++ [r6.t26[r6.t28.toNat]!]).length ≤ 1073741824 then none else none else none else none else match a79_1 (L79_1.mk r6.t2 r6.t8 [] [1, 3] (↑2 : Int) (0) r6.b0 r6.b1) with | none => none | some r7 => bif decide (r7.t42 < r7.t41) then if (0 : Int) ≤ r7.t42 ∧ r7.t42 < (↑r7.t40.length : Int) then if 129 = 129 ∧ r7.t42.toNat < r7.t40.length then match a79_2 (L79_2.mk r7.t2 r7.t8 r7.t9 r7.t40[r7.t42.toNat]! r7.t40 r7.t41 r7.t42 r7.b0.fVars (↑r7.b0.fVars.length : Int) (0) r7.b0 r7.b1) with | none => none | some r8 => bif decide (r8.t49 < r8.t48) then if (0 : Int) ≤ r8.t49 ∧ r8.t49 < (↑r8.t47.length : Int) then bif decide (r8.t47[r8.t49.toNat]!.fKind = r8.t13) then if (r8.t9 ++ [r8.t47[r8.t49.toNat]!]).length ≤ 1073741824 then none else none else none else none else none else none else none else bif bif decide ((↑r7.b1.fPublic.length : Int) = (↑r7.t8.length : Int)) then false else true then some (1) else match a79_3 (L79_3.mk r7.t2 r7.t9 r7.t8 (↑r7.t8.length : Int) (0) r7.b1) with | none => none | some r9 => bif decide (r9.t71 < r9.t70) then if (0 : Int) ≤ r9.t71 ∧ r9.t71 < (↑r9.t69.length : Int) then if 131 = 131 ∧ r9.t71.toNat < r9.t69.length then if (0 : Int) ≤ r9.t71 ∧ r9.t71 < (↑r9.b0.fPublic.length : Int) then bif decide (((r9.t2, (), (), (), r9.t70, r9.t71, ()), r9.b0, r9.t9, r9.t69, ()).snd.fst.fPublic[((r9.t2, (), (), (), r9.t70, r9.t71, ()), r9.b0, r9.t9, r9.t69, ()).fst.snd.snd.snd.snd.snd.fst.toNat]! < ((r9.t2, (), (), (), r9.t70, r9.t71, ()), r9.b0, r9.t9, r9.t69, ()).snd.snd.snd.fst[((r9.t2, (), (), (), r9.t70, r9.t71, ()), r9.b0, r9.t9, r9.t69, ()).fst.snd.snd.snd.snd.snd.fst.toNat]!.fLow) then some (3) else if (0 : Int) ≤ r9.t71 ∧ r9.t71 < (↑r9.b0.fPublic.length : Int) then bif decide (((r9.t2, (), (), (), r9.t70, r9.t71, ()), r9.b0, r9.t9, r9.t69, ()).snd.snd.snd.fst[((r9.t2, (), (), (), r9.t70, r9.t71, ()), r9.b0, r9.t9, r9.t69, ()).fst.snd.snd.snd.snd.snd.fst.toNat]!.fHigh < ((r9.t2, (), (), (), r9.t70, r9.t71, ()), r9.b0, r9.t9, r9.t69, ()).snd.fst.fPublic[((r9.t2, (), (), (), r9.t70, r9.t71, ()), r9.b0, r9.t9, r9.t69, ()).fst.snd.snd.snd.snd.snd.fst.toNat]!) then some (3) else none else none else none else none else none else bif bif decide ((↑r9.t2.length : Int) = (↑r9.t9.length : Int)) then false else true then some (2) else match a79_4 (L79_4.mk r9.t2 r9.t9 (↑r9.t9.length : Int) (0)) with | none => none | some r10 => bif decide (r10.t102 < r10.t101) then if (0 : Int) ≤ r10.t102 ∧ r10.t102 < (↑r10.t100.length : Int) then if 131 = 131 ∧ r10.t102.toNat < r10.t100.length then match if (0 : Int) ≤ r10.t102 ∧ r10.t102 < (↑r10.t2.length : Int) then match m144 r10.t2[r10.t102.toNat]! with | none => none | some r11 => bif bif r11 then false else true then some (true) else if (0 : Int) ≤ r10.t102 ∧ r10.t102 < (↑r10.t2.length : Int) then match m91 r10.t2[r10.t102.toNat]! with | none => none | some r12 => some (decide (r12 = 0)) else none else none with | none => none | some r13 => bif r13 then some (1) else if (0 : Int) ≤ r10.t102 ∧ r10.t102 < (↑r10.t2.length : Int) then bif decide (r10.t2[r10.t102.toNat]!.fLow < r10.t100[r10.t102.toNat]!.fLow) then some (3) else if (0 : Int) ≤ r10.t102 ∧ r10.t102 < (↑r10.t2.length : Int) then bif decide (r10.t100[r10.t102.toNat]!.fHigh < r10.t2[r10.t102.toNat]!.fHigh) then some (3) else none else none else none else none else none else some (0)
theorem c79 (a0 : Flat) (a1 : View) (a2 : List Num) : callR Tryz.prog (F79) 300 (an79) 79 (A79.c (a0, a1, a2, ())) [] 0 d79.rd = m79 a0 a1 a2 := by kernel_rfl
def e79 : Orc → Orc := eL Tryz.prog 79 false A79 d79 (fun g => m79 g.1 g.2.1 g.2.2.1)
theorem e79_ok {F : Orc} (h : OrcG Tryz.prog F) : OrcG Tryz.prog (e79 F) := eL_ok (sc := scU) scU_ok (hl_of F79_ok fa79 (fun _ => by kernel_rfl) (fun _ => by kernel_rfl) fun g => c79 g.1 g.2.1 g.2.2.1) ⟨_, Tryz.func79, by kernel_rfl, by kernel_rfl⟩ (fun _ => by kernel_rfl) (fun _ => by kernel_rfl) h
def F82 : Orc := (e150 or0)
theorem F82_ok : OrcG Tryz.prog F82 := (e150_ok or0_g)
abbrev E82 : Type := Num
def d82 : Td 0 E82 := .c [] [4] (.r 0 1 (ec 4 (qp 0 0) en) (sb 0 34 (lg 34) sn) (fun z => z.2.1) (fun x => (((), ()), (x, ()))) fun _ => rfl)
def A82 := (lc (qg 128) (lc (qg 137) ln))
def an82 : An := .no
theorem fa82 : FnAn Tryz.prog (F82) 0 300 82 (an82) := fnAn_of (l := []) Tryz.func82 (bodyOf_eq (by kernel_rfl)) (by kernel_rfl) ob_nil
def m82 (a0 : GState2) (a1 : GTerm) : Option E82 :=
 match r150 (GTerm.mk a1.fOp a1.fN a1.fKids) a0 with | none => none | some r1 => some (r1.fst)
theorem c82 (a0 : GState2) (a1 : GTerm) : callR Tryz.prog (F82) 300 (an82) 82 (A82.c (a0, a1, ())) [] 0 d82.rd = m82 a0 a1 := by kernel_rfl
def e82 : Orc → Orc := eL Tryz.prog 82 false A82 d82 (fun g => m82 g.1 g.2.1)
theorem e82_ok {F : Orc} (h : OrcG Tryz.prog F) : OrcG Tryz.prog (e82 F) := eL_ok (sc := scU) scU_ok (hl_of F82_ok fa82 (fun _ => by kernel_rfl) (fun _ => by kernel_rfl) fun g => c82 g.1 g.2.1) ⟨_, Tryz.func82, by kernel_rfl, by kernel_rfl⟩ (fun _ => by kernel_rfl) (fun _ => by kernel_rfl) h
def F157 : Orc := (e155 (e80 or0))
theorem F157_ok : OrcG Tryz.prog F157 := (e155_ok (e80_ok or0_g))
abbrev E157 : Type := GState2
def d157 : Td 0 E157 := .c [] [4] (.r 0 1 (ec 4 (qp 0 0) en) (sb 0 128 (lg 128) sn) (fun z => z.2.1) (fun x => (((), ()), (x, ()))) fun _ => rfl)
def A157 := (lc (qg 128) (lc (qi .i64) ln))
def an157 : An := .no
theorem fa157 : FnAn Tryz.prog (F157) 0 300 157 (an157) := fnAn_of (l := []) Tryz.func157 (bodyOf_eq (by kernel_rfl)) (by kernel_rfl) ob_nil
def m157 (a0 : GState2) (a1 : Int) : Option E157 :=
 match m155 (8) a0.fTime (m80 a1) with | none => none | some r1 => some (GState2.mk a0.fVars a0.fCount a0.fSlots r1.fst)
theorem c157 (a0 : GState2) (a1 : Int) : callR Tryz.prog (F157) 300 (an157) 157 (A157.c (a0, a1, ())) [] 0 d157.rd = m157 a0 a1 := by kernel_rfl
def e157 : Orc → Orc := eZ Tryz.prog 157 A157 d157 (fun g => m157 g.1 g.2.1)
theorem e157_ok {F : Orc} (h : OrcG Tryz.prog F) : OrcG Tryz.prog (e157 F) := eZ_ok (hl_of F157_ok fa157 (fun _ => by kernel_rfl) (fun _ => by kernel_rfl) fun g => c157 g.1 g.2.1) ⟨_, Tryz.func157, by kernel_rfl, by kernel_rfl⟩ (fun _ => by kernel_rfl) h
abbrev E40 : Type := List Num
def d40 : Td 0 E40 := .c [] [2] (.t (TurnOk.s 2 [] 34) (.c [] [2] (.r 0 1 (ec 2 (qo 0) en) (sr 0 34 sn) (fun z => z.2.1) (fun x => (((), ()), (x, ()))) fun _ => rfl)))
def A40 := (lc (ql 34) ln)
def m40 (a0 : List Num) : Option E40 := if a0.length ≤ 1073741824 then some a0 else none
theorem fa40 : FnAn Tryz.prog or0 0 300 40 .no := fnAn_of (l := []) Tryz.func40 (bodyOf_eq (by kernel_rfl)) (by kernel_rfl) ob_nil
theorem ca40 (x : Num) (xs : List Num) : callR Tryz.prog or0 300 .no 40 [.sl 34 (x :: xs)] [] 0 d40.rd = if ([] ++ (x :: xs)).length ≤ 1073741824 then some ([] ++ (x :: xs)) else none := by kernel_rfl
theorem cb40 (c : Nat) : callR Tryz.prog or0 300 .no 40 [.lit (.slice none 0 c)] [] 0 d40.rd = some [] := by kernel_rfl
theorem cc40 (a : Addr) (c : Nat) : callR Tryz.prog or0 300 .no 40 [.lit (.slice (some a) 0 c)] [] 0 d40.rd = some [] := by kernel_rfl
theorem h40 : HL Tryz.prog 40 A40 d40 (fun g => m40 g.1) := fun g r h => by
 obtain ⟨a0, _⟩ := g
 have h : m40 a0 = some r := h
 cases a0 with
 | cons x xs => exact (fnY_of (out := fun p => outY Tryz.prog 40 0 (d40.pat p)) (p := r) or0_g fa40 d40.ok (fun p => by kernel_rfl) (ltd_of (by kernel_rfl)) (rltd_of (by kernel_rfl)) ((ca40 x xs).trans (by rw [List.nil_append]; exact h))).2
 | nil =>
  cases h
  exact fnY_nil (fun c => (fnY_of (out := fun p => outY Tryz.prog 40 0 (d40.pat p)) (p := []) or0_g fa40 d40.ok (fun p => by kernel_rfl) (ltd_of (by kernel_rfl)) (rltd_of (by kernel_rfl)) (cb40 c)).2) (fun a c => (fnY_of (out := fun p => outY Tryz.prog 40 0 (d40.pat p)) (p := []) or0_g fa40 d40.ok (fun p => by kernel_rfl) (ltd_of (by kernel_rfl)) (rltd_of (by kernel_rfl)) (cc40 a c)).2)
def e40 : Orc → Orc := eL Tryz.prog 40 false A40 d40 (fun g => m40 g.1)
theorem e40_ok {F : Orc} (h : OrcG Tryz.prog F) : OrcG Tryz.prog (e40 F) := eL_ok (sc := scU) scU_ok h40 ⟨_, Tryz.func40, by kernel_rfl, by kernel_rfl⟩ (fun _ => by kernel_rfl) (fun _ => by kernel_rfl) h
def F235 : Orc := (e40 or0)
theorem F235_ok : OrcG Tryz.prog F235 := (e40_ok or0_g)
abbrev E235 : Type := GState2
def d235 : Td 0 E235 := .c [] [2] (.r 0 3 (ec 2 (qp 0 0) en) (sb 0 128 (lc (qo 1) (lc (qi .i64) (lc (qi .i64) (lc (qi .i64) (lc (qo 2) (lc (qi .i64) (lc (qi .i64) (lc (qi .i64) ln)))))))) (sr 1 34 (sr 2 34 sn))) (fun z => (GState2.mk z.2.2.1 (Num.mk z.2.1.2.1 z.2.1.2.2.1 z.2.1.2.2.2.1) z.2.2.2.1 (Num.mk z.2.1.2.2.2.2.2.1 z.2.1.2.2.2.2.2.2.1 z.2.1.2.2.2.2.2.2.2.1))) (fun x => (((), ()), (((), x.fCount.fLow, x.fCount.fHigh, x.fCount.fStep, (), x.fTime.fLow, x.fTime.fHigh, x.fTime.fStep, ()), x.fVars, x.fSlots, ()))) fun _ => rfl)
def A235 := (lc (qg 128) ln)
def an235 : An := .no
theorem fa235 : FnAn Tryz.prog (F235) 0 300 235 (an235) := fnAn_of (l := []) Tryz.func235 (bodyOf_eq (by kernel_rfl)) (by kernel_rfl) ob_nil
def m235 (a0 : GState2) : Option E235 :=
 match m40 a0.fVars with | none => none | some r1 => match m40 a0.fSlots with | none => none | some r2 => some (GState2.mk r1 a0.fCount r2 a0.fTime)
theorem c235 (a0 : GState2) : callR Tryz.prog (F235) 300 (an235) 235 (A235.c (a0, ())) [] 0 d235.rd = m235 a0 := by kernel_rfl
def e235 : Orc → Orc := eL Tryz.prog 235 false A235 d235 (fun g => m235 g.1)
theorem e235_ok {F : Orc} (h : OrcG Tryz.prog F) : OrcG Tryz.prog (e235 F) := eL_ok (sc := scU) scU_ok (hl_of F235_ok fa235 (fun _ => by kernel_rfl) (fun _ => by kernel_rfl) fun g => c235 g.1) ⟨_, Tryz.func235, by kernel_rfl, by kernel_rfl⟩ (fun _ => by kernel_rfl) (fun _ => by kernel_rfl) h
def F236 : Orc := (e235 (e152 or0))
theorem F236_ok : OrcG Tryz.prog F236 := (e235_ok (e152_ok or0_g))
structure L236_1 where
 t46 : List Num
 t47 : Int
 t48 : Int
 b0 : GState2
 b1 : GState2
def d236_1 : Td 0 L236_1 := .c [] [4, 5, 46, 47, 48] (.r 0 4 (ec 4 (qp 0 0) (ec 5 (qp 1 0) (ec 46 (ql 34) (ec 47 (qi .i64) (ec 48 (qi .i64) en))))) (sb 0 128 (lc qn (lc (qi .i64) (lc (qi .i64) (lc (qi .i64) (lc qn (lc (qi .i64) (lc (qi .i64) (lc (qi .i64) ln)))))))) (sb 1 128 (lc (qo 2) (lc (qi .i64) (lc (qi .i64) (lc (qi .i64) (lc (qo 3) (lc (qi .i64) (lc (qi .i64) (lc (qi .i64) ln)))))))) (sr 2 34 (sr 3 34 sn)))) (fun z => ⟨z.1.2.2.1, z.1.2.2.2.1, z.1.2.2.2.2.1, (GState2.mk [] (Num.mk z.2.1.2.1 z.2.1.2.2.1 z.2.1.2.2.2.1) [] (Num.mk z.2.1.2.2.2.2.2.1 z.2.1.2.2.2.2.2.2.1 z.2.1.2.2.2.2.2.2.2.1)), (GState2.mk z.2.2.2.1 (Num.mk z.2.2.1.2.1 z.2.2.1.2.2.1 z.2.2.1.2.2.2.1) z.2.2.2.2.1 (Num.mk z.2.2.1.2.2.2.2.2.1 z.2.2.1.2.2.2.2.2.2.1 z.2.2.1.2.2.2.2.2.2.2.1))⟩) (fun x => (((), (), x.t46, x.t47, x.t48, ()), (((), x.b0.fCount.fLow, x.b0.fCount.fHigh, x.b0.fCount.fStep, (), x.b0.fTime.fLow, x.b0.fTime.fHigh, x.b0.fTime.fStep, ()), ((), x.b1.fCount.fLow, x.b1.fCount.fHigh, x.b1.fCount.fStep, (), x.b1.fTime.fLow, x.b1.fTime.fHigh, x.b1.fTime.fStep, ()), x.b1.fVars, x.b1.fSlots, ()))) fun _ => rfl)
def n236_1 (p : L236_1) : Option (Option L236_1) :=
 bif decide (p.t48 < p.t47) then if (0 : Int) ≤ p.t48 ∧ p.t48 < (↑p.t46.length : Int) then bif decide (p.t48 < (↑p.b1.fSlots.length : Int)) then if (0 : Int) ≤ p.t48 ∧ p.t48 < (↑p.b1.fSlots.length : Int) then if 34 = 34 ∧ p.t48.toNat < p.b1.fSlots.length then match m152 p.b1.fSlots[p.t48.toNat]! p.t46[p.t48.toNat]! with | none => none | some r2 => if (0 : Int) ≤ p.t48 ∧ p.t48 < (↑p.b1.fSlots.length : Int) then if 34 = 34 ∧ p.t48.toNat < p.b1.fSlots.length then some (some (L236_1.mk p.t46 p.t47 (i64.wrap (p.t48 + 1)) (GState2.mk [] p.b0.fCount [] p.b0.fTime) (GState2.mk p.b1.fVars p.b1.fCount (p.b1.fSlots.set p.t48.toNat r2) p.b1.fTime))) else none else none else none else none else if (p.b1.fSlots ++ [p.t46[p.t48.toNat]!]).length ≤ 1073741824 then some (some (L236_1.mk p.t46 p.t47 (i64.wrap (p.t48 + 1)) (GState2.mk [] p.b0.fCount [] p.b0.fTime) (GState2.mk p.b1.fVars p.b1.fCount (p.b1.fSlots ++ [p.t46[p.t48.toNat]!]) p.b1.fTime))) else none else none else some (none)
theorem q236_1 (p : L236_1) : execA Tryz.prog (F236) Tryz.f236.ntmps 300 (loopAt Tryz.f236 1) .no (Option L236_1) (d236_1.pat p) (kOn d236_1.rd) = n236_1 p := by kernel_rfl
def a236_1 : L236_1 → Option L236_1 := advG (n236_1)
structure L236_0 where
 t13 : Int
 t14 : Int
 b0 : GState2
 b1 : GState2
 b2 : GState2
def d236_0 : Td 0 L236_0 := .c [] [3, 4, 5, 13, 14] (.r 0 5 (ec 3 (qp 0 0) (ec 4 (qp 1 0) (ec 5 (qp 2 0) (ec 13 (qi .i64) (ec 14 (qi .i64) en))))) (sb 0 128 (lg 128) (sb 1 128 (lc qn (lc (qi .i64) (lc (qi .i64) (lc (qi .i64) (lc qn (lc (qi .i64) (lc (qi .i64) (lc (qi .i64) ln)))))))) (sb 2 128 (lc (qo 3) (lc (qi .i64) (lc (qi .i64) (lc (qi .i64) (lc (qo 4) (lc (qi .i64) (lc (qi .i64) (lc (qi .i64) ln)))))))) (sr 3 34 (sr 4 34 sn))))) (fun z => ⟨z.1.2.2.2.1, z.1.2.2.2.2.1, z.2.1, (GState2.mk [] (Num.mk z.2.2.1.2.1 z.2.2.1.2.2.1 z.2.2.1.2.2.2.1) [] (Num.mk z.2.2.1.2.2.2.2.2.1 z.2.2.1.2.2.2.2.2.2.1 z.2.2.1.2.2.2.2.2.2.2.1)), (GState2.mk z.2.2.2.2.1 (Num.mk z.2.2.2.1.2.1 z.2.2.2.1.2.2.1 z.2.2.2.1.2.2.2.1) z.2.2.2.2.2.1 (Num.mk z.2.2.2.1.2.2.2.2.2.1 z.2.2.2.1.2.2.2.2.2.2.1 z.2.2.2.1.2.2.2.2.2.2.2.1))⟩) (fun x => (((), (), (), x.t13, x.t14, ()), (x.b0, ((), x.b1.fCount.fLow, x.b1.fCount.fHigh, x.b1.fCount.fStep, (), x.b1.fTime.fLow, x.b1.fTime.fHigh, x.b1.fTime.fStep, ()), ((), x.b2.fCount.fLow, x.b2.fCount.fHigh, x.b2.fCount.fStep, (), x.b2.fTime.fLow, x.b2.fTime.fHigh, x.b2.fTime.fStep, ()), x.b2.fVars, x.b2.fSlots, ()))) fun _ => rfl)
def n236_0 (p : L236_0) : Option (Option L236_0) :=
 bif decide (p.t14 < p.t13) then if (0 : Int) ≤ p.t14 ∧ p.t14 < (↑p.b2.fVars.length : Int) then if 34 = 34 ∧ p.t14.toNat < p.b2.fVars.length then if (0 : Int) ≤ p.t14 ∧ p.t14 < (↑p.b0.fVars.length : Int) then match m152 p.b2.fVars[p.t14.toNat]! p.b0.fVars[p.t14.toNat]! with | none => none | some r1 => if (0 : Int) ≤ p.t14 ∧ p.t14 < (↑p.b2.fVars.length : Int) then if 34 = 34 ∧ p.t14.toNat < p.b2.fVars.length then some (some (L236_0.mk p.t13 (i64.wrap (p.t14 + 1)) p.b0 (GState2.mk [] p.b1.fCount [] p.b1.fTime) (GState2.mk (p.b2.fVars.set p.t14.toNat r1) p.b2.fCount p.b2.fSlots p.b2.fTime))) else none else none else none else none else none else some (none)
theorem q236_0 (p : L236_0) : execA Tryz.prog (F236) Tryz.f236.ntmps 300 (loopAt Tryz.f236 0) .no (Option L236_0) (d236_0.pat p) (kOn d236_0.rd) = n236_0 p := by kernel_rfl
def a236_0 : L236_0 → Option L236_0 := advG (n236_0)
abbrev E236 : Type := GState2
def d236 : Td 0 E236 := .c [] [4] (.r 0 3 (ec 4 (qp 0 0) en) (sb 0 128 (lc (qo 1) (lc (qi .i64) (lc (qi .i64) (lc (qi .i64) (lc (qo 2) (lc (qi .i64) (lc (qi .i64) (lc (qi .i64) ln)))))))) (sr 1 34 (sr 2 34 sn))) (fun z => (GState2.mk z.2.2.1 (Num.mk z.2.1.2.1 z.2.1.2.2.1 z.2.1.2.2.2.1) z.2.2.2.1 (Num.mk z.2.1.2.2.2.2.2.1 z.2.1.2.2.2.2.2.2.1 z.2.1.2.2.2.2.2.2.2.1))) (fun x => (((), ()), (((), x.fCount.fLow, x.fCount.fHigh, x.fCount.fStep, (), x.fTime.fLow, x.fTime.fHigh, x.fTime.fStep, ()), x.fVars, x.fSlots, ()))) fun _ => rfl)
def A236 := (lc (qg 128) (lc (qg 128) ln))
def an236 : An := (.two .no (.two .no (.two (.two .no (d236_0.lp a236_0 .no)) (.two .no (.two .no (.two (.two .no (d236_1.lp a236_1 .no)) .no))))))
theorem fa236 : FnAn Tryz.prog (F236) 0 300 236 (an236) := fnAn_of (l := [(loopAt Tryz.f236 0, (d236_0.lp a236_0 .no)), (loopAt Tryz.f236 1, (d236_1.lp a236_1 .no))]) Tryz.func236 (bodyOf_eq (by kernel_rfl)) (by kernel_rfl) (ob_cons ⟨d236_0.ok _, advG_ok (q236_0)⟩ (ob_cons ⟨d236_1.ok _, advG_ok (q236_1)⟩ ob_nil))
def m236 (a0 : GState2) (a1 : GState2) : Option E236 :=
 match m235 a0 with | none => none | some r3 => match a236_0 (L236_0.mk (↑r3.fVars.length : Int) (0) a1 (GState2.mk [] (Num.mk (0) (0) (0)) [] (Num.mk (0) (0) (0))) r3) with | none => none | some r4 => bif decide (r4.t14 < r4.t13) then if (0 : Int) ≤ r4.t14 ∧ r4.t14 < (↑r4.b2.fVars.length : Int) then if 34 = 34 ∧ r4.t14.toNat < r4.b2.fVars.length then if (0 : Int) ≤ r4.t14 ∧ r4.t14 < (↑r4.b0.fVars.length : Int) then match m152 r4.b2.fVars[r4.t14.toNat]! r4.b0.fVars[r4.t14.toNat]! with | none => none | some r5 => if (0 : Int) ≤ r4.t14 ∧ r4.t14 < (↑r4.b2.fVars.length : Int) then if 34 = 34 ∧ r4.t14.toNat < r4.b2.fVars.length then none else none else none else none else none else none else match m152 r4.b2.fCount r4.b0.fCount with | none => none | some r6 => match m152 r4.b2.fTime r4.b0.fTime with | none => none | some r7 => match a236_1 (L236_1.mk r4.b0.fSlots (↑r4.b0.fSlots.length : Int) (0) (GState2.mk [] r4.b1.fCount [] r4.b1.fTime) (GState2.mk r4.b2.fVars r6 r4.b2.fSlots r7)) with | none => none | some r8 => bif decide (r8.t48 < r8.t47) then if (0 : Int) ≤ r8.t48 ∧ r8.t48 < (↑r8.t46.length : Int) then bif decide (r8.t48 < (↑r8.b1.fSlots.length : Int)) then if (0 : Int) ≤ r8.t48 ∧ r8.t48 < (↑r8.b1.fSlots.length : Int) then if 34 = 34 ∧ r8.t48.toNat < r8.b1.fSlots.length then match m152 r8.b1.fSlots[r8.t48.toNat]! r8.t46[r8.t48.toNat]! with | none => none | some r9 => if (0 : Int) ≤ r8.t48 ∧ r8.t48 < (↑r8.b1.fSlots.length : Int) then if 34 = 34 ∧ r8.t48.toNat < r8.b1.fSlots.length then none else none else none else none else none else if (r8.b1.fSlots ++ [r8.t46[r8.t48.toNat]!]).length ≤ 1073741824 then none else none else none else some (r8.b1)
theorem c236 (a0 : GState2) (a1 : GState2) : callR Tryz.prog (F236) 300 (an236) 236 (A236.c (a0, a1, ())) [] 0 d236.rd = m236 a0 a1 := by kernel_rfl
def e236 : Orc → Orc := eL Tryz.prog 236 false A236 d236 (fun g => m236 g.1 g.2.1)
theorem e236_ok {F : Orc} (h : OrcG Tryz.prog F) : OrcG Tryz.prog (e236 F) := eL_ok (sc := scU) scU_ok (hl_of F236_ok fa236 (fun _ => by kernel_rfl) (fun _ => by kernel_rfl) fun g => c236 g.1 g.2.1) ⟨_, Tryz.func236, by kernel_rfl, by kernel_rfl⟩ (fun _ => by kernel_rfl) (fun _ => by kernel_rfl) h
def F158 : Orc := (e235 (e81 or0))
theorem F158_ok : OrcG Tryz.prog F158 := (e235_ok (e81_ok or0_g))
abbrev E158 : Type := GState2
def d158 : Td 0 E158 := .c [] [8] (.r 0 3 (ec 8 (qp 0 0) en) (sb 0 128 (lc (qo 1) (lc (qi .i64) (lc (qi .i64) (lc (qi .i64) (lc (qo 2) (lc (qi .i64) (lc (qi .i64) (lc (qi .i64) ln)))))))) (sr 1 34 (sr 2 34 sn))) (fun z => (GState2.mk z.2.2.1 (Num.mk z.2.1.2.1 z.2.1.2.2.1 z.2.1.2.2.2.1) z.2.2.2.1 (Num.mk z.2.1.2.2.2.2.2.1 z.2.1.2.2.2.2.2.2.1 z.2.1.2.2.2.2.2.2.2.1))) (fun x => (((), ()), (((), x.fCount.fLow, x.fCount.fHigh, x.fCount.fStep, (), x.fTime.fLow, x.fTime.fHigh, x.fTime.fStep, ()), x.fVars, x.fSlots, ()))) fun _ => rfl)
def A158 := (lc (qg 133) (lc (qg 128) (lc (qi .i64) (lc (qg 34) ln))))
def an158 : An := .no
theorem fa158 : FnAn Tryz.prog (F158) 0 300 158 (an158) := fnAn_of (l := []) Tryz.func158 (bodyOf_eq (by kernel_rfl)) (by kernel_rfl) ob_nil
def m158 (a0 : Runner) (a1 : GState2) (a2 : Int) (a3 : Num) : Option E158 :=
 match m235 a1 with | none => none | some r1 => if (0 : Int) ≤ a2 ∧ a2 < (↑a0.fF.fVars.length : Int) then match m81 a3 a0.fF.fVars[a2.toNat]!.fLow a0.fF.fVars[a2.toNat]!.fHigh with | none => none | some r2 => if (0 : Int) ≤ a2 ∧ a2 < (↑r1.fVars.length : Int) then if 34 = 34 ∧ a2.toNat < r1.fVars.length then some (GState2.mk (r1.fVars.set a2.toNat r2.fst) r1.fCount r1.fSlots r1.fTime) else none else none else none
theorem c158 (a0 : Runner) (a1 : GState2) (a2 : Int) (a3 : Num) : callR Tryz.prog (F158) 300 (an158) 158 (A158.c (a0, a1, a2, a3, ())) [] 0 d158.rd = m158 a0 a1 a2 a3 := by kernel_rfl
def e158 : Orc → Orc := eL Tryz.prog 158 false A158 d158 (fun g => m158 g.1 g.2.1 g.2.2.1 g.2.2.2.1)
theorem e158_ok {F : Orc} (h : OrcG Tryz.prog F) : OrcG Tryz.prog (e158 F) := eL_ok (sc := scU) scU_ok (hl_of F158_ok fa158 (fun _ => by kernel_rfl) (fun _ => by kernel_rfl) fun g => c158 g.1 g.2.1 g.2.2.1 g.2.2.2.1) ⟨_, Tryz.func158, by kernel_rfl, by kernel_rfl⟩ (fun _ => by kernel_rfl) (fun _ => by kernel_rfl) h
def F159 : Orc := (e235 (e155 (e152 (e92 (e80 or0)))))
theorem F159_ok : OrcG Tryz.prog F159 := (e235_ok (e155_ok (e152_ok (e92_ok (e80_ok or0_g)))))
structure L159_0 where
 t10 : Int
 t11 : Int
 b0 : GState2
 b1 : Num
 b2 : GState2
def d159_0 : Td 0 L159_0 := .c [] [2, 3, 4, 10, 11] (.r 0 5 (ec 2 (qp 0 0) (ec 3 (qp 1 0) (ec 4 (qp 2 0) (ec 10 (qi .i64) (ec 11 (qi .i64) en))))) (sb 0 128 (lc (qo 3) (lc (qi .i64) (lc (qi .i64) (lc (qi .i64) (lc (qo 4) (lc (qi .i64) (lc (qi .i64) (lc (qi .i64) ln)))))))) (sb 1 34 (lg 34) (sb 2 128 (lc qn (lc (qi .i64) (lc (qi .i64) (lc (qi .i64) (lc qn (lc (qi .i64) (lc (qi .i64) (lc (qi .i64) ln)))))))) (sr 3 34 (sr 4 34 sn))))) (fun z => ⟨z.1.2.2.2.1, z.1.2.2.2.2.1, (GState2.mk z.2.2.2.2.1 (Num.mk z.2.1.2.1 z.2.1.2.2.1 z.2.1.2.2.2.1) z.2.2.2.2.2.1 (Num.mk z.2.1.2.2.2.2.2.1 z.2.1.2.2.2.2.2.2.1 z.2.1.2.2.2.2.2.2.2.1)), z.2.2.1, (GState2.mk [] (Num.mk z.2.2.2.1.2.1 z.2.2.2.1.2.2.1 z.2.2.2.1.2.2.2.1) [] (Num.mk z.2.2.2.1.2.2.2.2.2.1 z.2.2.2.1.2.2.2.2.2.2.1 z.2.2.2.1.2.2.2.2.2.2.2.1))⟩) (fun x => (((), (), (), x.t10, x.t11, ()), (((), x.b0.fCount.fLow, x.b0.fCount.fHigh, x.b0.fCount.fStep, (), x.b0.fTime.fLow, x.b0.fTime.fHigh, x.b0.fTime.fStep, ()), x.b1, ((), x.b2.fCount.fLow, x.b2.fCount.fHigh, x.b2.fCount.fStep, (), x.b2.fTime.fLow, x.b2.fTime.fHigh, x.b2.fTime.fStep, ()), x.b0.fVars, x.b0.fSlots, ()))) fun _ => rfl)
def n159_0 (p : L159_0) : Option (Option L159_0) :=
 bif decide (p.t11 < p.t10) then match m92 p.b0.fCount p.t11 with | none => none | some r1 => bif r1 then if (0 : Int) ≤ p.t11 ∧ p.t11 < (↑p.b0.fSlots.length : Int) then if 34 = 34 ∧ p.t11.toNat < p.b0.fSlots.length then match m152 p.b0.fSlots[p.t11.toNat]! p.b1 with | none => none | some r2 => if (0 : Int) ≤ p.t11 ∧ p.t11 < (↑p.b0.fSlots.length : Int) then if 34 = 34 ∧ p.t11.toNat < p.b0.fSlots.length then some (some (L159_0.mk p.t10 (i64.wrap (p.t11 + 1)) (GState2.mk p.b0.fVars p.b0.fCount (p.b0.fSlots.set p.t11.toNat r2) p.b0.fTime) p.b1 (GState2.mk [] p.b2.fCount [] p.b2.fTime))) else none else none else none else none else some (some (L159_0.mk p.t10 (i64.wrap (p.t11 + 1)) p.b0 p.b1 (GState2.mk [] p.b2.fCount [] p.b2.fTime))) else some (none)
theorem q159_0 (p : L159_0) : execA Tryz.prog (F159) Tryz.f159.ntmps 300 (loopAt Tryz.f159 0) .no (Option L159_0) (d159_0.pat p) (kOn d159_0.rd) = n159_0 p := by kernel_rfl
def a159_0 : L159_0 → Option L159_0 := advG (n159_0)
abbrev E159 : Type := GState2
def d159 : Td 0 E159 := .c [] [4] (.r 0 3 (ec 4 (qp 0 0) en) (sb 0 128 (lc (qo 1) (lc (qi .i64) (lc (qi .i64) (lc (qi .i64) (lc (qo 2) (lc (qi .i64) (lc (qi .i64) (lc (qi .i64) ln)))))))) (sr 1 34 (sr 2 34 sn))) (fun z => (GState2.mk z.2.2.1 (Num.mk z.2.1.2.1 z.2.1.2.2.1 z.2.1.2.2.2.1) z.2.2.2.1 (Num.mk z.2.1.2.2.2.2.2.1 z.2.1.2.2.2.2.2.2.1 z.2.1.2.2.2.2.2.2.2.1))) (fun x => (((), ()), (((), x.fCount.fLow, x.fCount.fHigh, x.fCount.fStep, (), x.fTime.fLow, x.fTime.fHigh, x.fTime.fStep, ()), x.fVars, x.fSlots, ()))) fun _ => rfl)
def A159 := (lc (qg 128) (lc (qg 34) ln))
def an159 : An := (.two .no (.two .no (.two (.two .no (d159_0.lp a159_0 .no)) .no)))
theorem fa159 : FnAn Tryz.prog (F159) 0 300 159 (an159) := fnAn_of (l := [(loopAt Tryz.f159 0, (d159_0.lp a159_0 .no))]) Tryz.func159 (bodyOf_eq (by kernel_rfl)) (by kernel_rfl) (ob_cons ⟨d159_0.ok _, advG_ok (q159_0)⟩ ob_nil)
def m159 (a0 : GState2) (a1 : Num) : Option E159 :=
 match m235 a0 with | none => none | some r3 => match a159_0 (L159_0.mk (↑r3.fSlots.length : Int) (0) r3 a1 (GState2.mk [] (Num.mk (0) (0) (0)) [] (Num.mk (0) (0) (0)))) with | none => none | some r4 => bif decide (r4.t11 < r4.t10) then match m92 r4.b0.fCount r4.t11 with | none => none | some r5 => bif r5 then if (0 : Int) ≤ r4.t11 ∧ r4.t11 < (↑r4.b0.fSlots.length : Int) then if 34 = 34 ∧ r4.t11.toNat < r4.b0.fSlots.length then match m152 r4.b0.fSlots[r4.t11.toNat]! r4.b1 with | none => none | some r6 => if (0 : Int) ≤ r4.t11 ∧ r4.t11 < (↑r4.b0.fSlots.length : Int) then if 34 = 34 ∧ r4.t11.toNat < r4.b0.fSlots.length then none else none else none else none else none else none else if (r4.b0.fSlots ++ [r4.b1]).length ≤ 1073741824 then match m155 (8) r4.b0.fCount (m80 (1)) with | none => none | some r7 => some (GState2.mk r4.b0.fVars r7.fst (r4.b0.fSlots ++ [r4.b1]) r4.b0.fTime) else none
theorem c159 (a0 : GState2) (a1 : Num) : callR Tryz.prog (F159) 300 (an159) 159 (A159.c (a0, a1, ())) [] 0 d159.rd = m159 a0 a1 := by kernel_rfl
def e159 : Orc → Orc := eL Tryz.prog 159 false A159 d159 (fun g => m159 g.1 g.2.1)
theorem e159_ok {F : Orc} (h : OrcG Tryz.prog F) : OrcG Tryz.prog (e159 F) := eL_ok (sc := scU) scU_ok (hl_of F159_ok fa159 (fun _ => by kernel_rfl) (fun _ => by kernel_rfl) fun g => c159 g.1 g.2.1) ⟨_, Tryz.func159, by kernel_rfl, by kernel_rfl⟩ (fun _ => by kernel_rfl) (fun _ => by kernel_rfl) h
abbrev E35 : Type := List Int
def d35 : Td 0 E35 := .c [] [2] (.t (TurnOk.s 2 [] 3) (.c [] [2] (.r 0 1 (ec 2 (qo 0) en) (sr 0 3 sn) (fun z => z.2.1) (fun x => (((), ()), (x, ()))) fun _ => rfl)))
def A35 := (lc (ql 3) ln)
def m35 (a0 : List Int) : Option E35 := if a0.length ≤ 1073741824 then some a0 else none
theorem fa35 : FnAn Tryz.prog or0 0 300 35 .no := fnAn_of (l := []) Tryz.func35 (bodyOf_eq (by kernel_rfl)) (by kernel_rfl) ob_nil
theorem ca35 (x : Int) (xs : List Int) : callR Tryz.prog or0 300 .no 35 [.sl 3 (x :: xs)] [] 0 d35.rd = if ([] ++ (x :: xs)).length ≤ 1073741824 then some ([] ++ (x :: xs)) else none := by kernel_rfl
theorem cb35 (c : Nat) : callR Tryz.prog or0 300 .no 35 [.lit (.slice none 0 c)] [] 0 d35.rd = some [] := by kernel_rfl
theorem cc35 (a : Addr) (c : Nat) : callR Tryz.prog or0 300 .no 35 [.lit (.slice (some a) 0 c)] [] 0 d35.rd = some [] := by kernel_rfl
theorem h35 : HL Tryz.prog 35 A35 d35 (fun g => m35 g.1) := fun g r h => by
 obtain ⟨a0, _⟩ := g
 have h : m35 a0 = some r := h
 cases a0 with
 | cons x xs => exact (fnY_of (out := fun p => outY Tryz.prog 35 0 (d35.pat p)) (p := r) or0_g fa35 d35.ok (fun p => by kernel_rfl) (ltd_of (by kernel_rfl)) (rltd_of (by kernel_rfl)) ((ca35 x xs).trans (by rw [List.nil_append]; exact h))).2
 | nil =>
  cases h
  exact fnY_nil (fun c => (fnY_of (out := fun p => outY Tryz.prog 35 0 (d35.pat p)) (p := []) or0_g fa35 d35.ok (fun p => by kernel_rfl) (ltd_of (by kernel_rfl)) (rltd_of (by kernel_rfl)) (cb35 c)).2) (fun a c => (fnY_of (out := fun p => outY Tryz.prog 35 0 (d35.pat p)) (p := []) or0_g fa35 d35.ok (fun p => by kernel_rfl) (ltd_of (by kernel_rfl)) (rltd_of (by kernel_rfl)) (cc35 a c)).2)
def e35 : Orc → Orc := eL Tryz.prog 35 false A35 d35 (fun g => m35 g.1)
theorem e35_ok {F : Orc} (h : OrcG Tryz.prog F) : OrcG Tryz.prog (e35 F) := eL_ok (sc := scU) scU_ok h35 ⟨_, Tryz.func35, by kernel_rfl, by kernel_rfl⟩ (fun _ => by kernel_rfl) (fun _ => by kernel_rfl) h
def F161 : Orc := (e237 (e224 (e149 (e148 (e147 (e146 (e145 (e144 (e35 or0)))))))))
theorem F161_ok : OrcG Tryz.prog F161 := (e237_okv gv237 (e224_ok (e149_ok (e148_ok (e147_ok (e146_ok (e145_ok (e144_ok (e35_ok or0_g)))))))))
structure L161_0 where
 t21 : List Int
 t22 : Int
 t23 : Int
 b0 : Num
 b1 : Num
 b2 : Num
def d161_0 : Td 0 L161_0 := .c [] [2, 4, 7, 21, 22, 23] (.r 0 4 (ec 2 (qp 0 0) (ec 4 (qp 1 0) (ec 7 (qp 2 0) (ec 21 (qo 3) (ec 22 (qi .i64) (ec 23 (qi .i64) en)))))) (sb 0 34 (lg 34) (sb 1 34 (lg 34) (sb 2 34 (lg 34) (sr 3 3 sn)))) (fun z => ⟨z.2.2.2.2.1, z.1.2.2.2.2.1, z.1.2.2.2.2.2.1, z.2.1, z.2.2.1, z.2.2.2.1⟩) (fun x => (((), (), (), (), x.t22, x.t23, ()), (x.b0, x.b1, x.b2, x.t21, ()))) fun _ => rfl)
def n161_0 (p : L161_0) : Option (Option L161_0) :=
 bif decide (p.t23 < p.t22) then if (0 : Int) ≤ p.t23 ∧ p.t23 < (↑p.t21.length : Int) then if 3 = 3 ∧ p.t23.toNat < p.t21.length then bif bif m145 p.t21[p.t23.toNat]! then false else true then some (none) else match m146 p.b0 p.t21[p.t23.toNat]! with | none => none | some r1 => bif bif m147 r1.fst then false else true then match m148 p.b2 (m149 p.t21[p.t23.toNat]!) with | none => none | some r2 => some (some (L161_0.mk p.t21 p.t22 (i64.wrap (p.t23 + 1)) r1.snd p.b1 r2)) else some (some (L161_0.mk p.t21 p.t22 (i64.wrap (p.t23 + 1)) r1.snd p.b1 p.b2)) else none else none else some (none)
theorem q161_0 (p : L161_0) : execA Tryz.prog (F161) Tryz.f161.ntmps 300 (loopAt Tryz.f161 0) .no (Option L161_0) (d161_0.pat p) (kOn d161_0.rd) = n161_0 p := by kernel_rfl
def a161_0 : L161_0 → Option L161_0 := advG (n161_0)
abbrev E161 : Type := Num × Int
def d161 : Td 0 E161 := .c [] [4, 5] (.r 0 1 (ec 4 (qp 0 0) (ec 5 (qi .i64) en)) (sb 0 34 (lg 34) sn) (fun z => (z.2.1, z.1.2.1)) (fun x => (((), x.2, ()), (x.1, ()))) fun _ => rfl)
def A161 := (lc (qg 34) (lc (ql 3) ln))
def an161 : An := (.two .no (.two .no (.two .no (.two .no (.two .no (.two (.two .no (d161_0.lp a161_0 .no)) .no))))))
theorem fa161 : FnAn Tryz.prog (F161) 0 300 161 (an161) := fnAn_of (l := [(loopAt Tryz.f161 0, (d161_0.lp a161_0 .no))]) Tryz.func161 (bodyOf_eq (by kernel_rfl)) (by kernel_rfl) (ob_cons ⟨d161_0.ok _, advG_ok (q161_0)⟩ ob_nil)
def m161 (a0 : Num) (a1 : List Int) : Option E161 :=
 match m144 a0 with | none => none | some r3 => bif bif r3 then false else true then some ((Num.mk (0) (0) (0), 1)) else match m35 a1 with | none => none | some r4 => match m237 r4 with | none => none | some r5 => match a161_0 (L161_0.mk r5 (↑(List.length r5) : Int) (0) a0 (Num.mk (0) (0) (0)) m224) with | none => none | some r6 => bif decide (r6.t23 < r6.t22) then if (0 : Int) ≤ r6.t23 ∧ r6.t23 < (↑r6.t21.length : Int) then if 3 = 3 ∧ r6.t23.toNat < r6.t21.length then bif bif m145 r6.t21[r6.t23.toNat]! then false else true then some ((Num.mk (0) (0) (0), 3)) else match m146 r6.b0 r6.t21[r6.t23.toNat]! with | none => none | some r7 => bif bif m147 r7.fst then false else true then match m148 r6.b2 (m149 r6.t21[r6.t23.toNat]!) with | none => none | some r8 => none else none else none else none else match m148 r6.b2 r6.b0 with | none => none | some r9 => some ((r9, 0))
theorem c161 (a0 : Num) (a1 : List Int) : callR Tryz.prog (F161) 300 (an161) 161 (A161.c (a0, a1, ())) [] 0 d161.rd = m161 a0 a1 := by kernel_rfl
def e161 : Orc → Orc := eL Tryz.prog 161 false A161 d161 (fun g => m161 g.1 g.2.1)
theorem e161_ok {F : Orc} (h : OrcG Tryz.prog F) : OrcG Tryz.prog (e161 F) := eL_ok (sc := scU) scU_ok (hl_of F161_ok fa161 (fun _ => by kernel_rfl) (fun _ => by kernel_rfl) fun g => c161 g.1 g.2.1) ⟨_, Tryz.func161, by kernel_rfl, by kernel_rfl⟩ (fun _ => by kernel_rfl) (fun _ => by kernel_rfl) h
abbrev E83 : Type := GState2
def d83 : Td 0 E83 := .c [] [6] (.r 0 1 (ec 6 (qp 0 0) en) (sb 0 128 (lg 128) sn) (fun z => z.2.1) (fun x => (((), ()), (x, ()))) fun _ => rfl)
def A83 := (lc (qg 133) (lc (ql 166) (lc (qg 128) ln)))
def x83 (M : Runner → (List GStep) → GState2 → Option E83) : Orc → Orc := eZ Tryz.prog 83 A83 d83 (fun g => M g.1 g.2.1 g.2.2.1)
def H83 (M : Runner → (List GStep) → GState2 → Option E83) : Prop := HL Tryz.prog 83 A83 d83 (fun g => M g.1 g.2.1 g.2.2.1)
theorem x83_ok {M : Runner → (List GStep) → GState2 → Option E83} (hM : H83 M) {F : Orc} (h : OrcG Tryz.prog F) : OrcG Tryz.prog (x83 M F) := eZ_ok hM ⟨_, Tryz.func83, by kernel_rfl, by kernel_rfl⟩ (fun _ => by kernel_rfl) h
abbrev E156 : Type := GState2
def d156 : Td 0 E156 := .c [] [6] (.r 0 1 (ec 6 (qp 0 0) en) (sb 0 128 (lg 128) sn) (fun z => z.2.1) (fun x => (((), ()), (x, ()))) fun _ => rfl)
def A156 := (lc (qg 133) (lc (qg 166) (lc (qg 128) ln)))
def x156 (M : Runner → GStep → GState2 → Option E156) : Orc → Orc := eZ Tryz.prog 156 A156 d156 (fun g => M g.1 g.2.1 g.2.2.1)
def H156 (M : Runner → GStep → GState2 → Option E156) : Prop := HL Tryz.prog 156 A156 d156 (fun g => M g.1 g.2.1 g.2.2.1)
theorem x156_ok {M : Runner → GStep → GState2 → Option E156} (hM : H156 M) {F : Orc} (h : OrcG Tryz.prog F) : OrcG Tryz.prog (x156 M F) := eZ_ok hM ⟨_, Tryz.func156, by kernel_rfl, by kernel_rfl⟩ (fun _ => by kernel_rfl) h
abbrev E160 : Type := GState2
def d160 : Td 0 E160 := .c [] [6] (.t (TurnOk.fc 0 0 []) (.t (TurnOk.fc 0 4 []) (.c [] [6] (.r 0 1 (ec 6 (qp 0 0) en) (sb 0 128 (lg 128) sn) (fun z => z.2.1) (fun x => (((), ()), (x, ()))) fun _ => rfl))))
def A160 := (lc (qg 133) (lc (qg 166) (lc (qg 128) ln)))
def x160 (M : Runner → GStep → GState2 → Option E160) : Orc → Orc := eZ Tryz.prog 160 A160 d160 (fun g => M g.1 g.2.1 g.2.2.1)
def H160 (M : Runner → GStep → GState2 → Option E160) : Prop := HL Tryz.prog 160 A160 d160 (fun g => M g.1 g.2.1 g.2.2.1)
theorem x160_ok {M : Runner → GStep → GState2 → Option E160} (hM : H160 M) {F : Orc} (h : OrcG Tryz.prog F) : OrcG Tryz.prog (x160 M F) := eZ_ok hM ⟨_, Tryz.func160, by kernel_rfl, by kernel_rfl⟩ (fun _ => by kernel_rfl) h
def F83 (M83 : Runner → (List GStep) → GState2 → Option E83) (M156 : Runner → GStep → GState2 → Option E156) (M160 : Runner → GStep → GState2 → Option E160) : Orc := (e161 (x160 M160 (e159 (e158 (e157 (x156 M156 (e82 or0)))))))
theorem F83_ok {M83 M156 M160} (h83 : H83 M83) (h156 : H156 M156) (h160 : H160 M160) : OrcG Tryz.prog (F83 M83 M156 M160) := (e161_ok (x160_ok h160 (e159_ok (e158_ok (e157_ok (x156_ok h156 (e82_ok or0_g)))))))
structure L83_0 where
 t9 : List GStep
 t10 : Int
 t11 : Int
 b0 : Runner
 b1 : GState2
 b2 : GState2
def d83_0 : Td 0 L83_0 := .c [] [3, 5, 6, 9, 10, 11] (.t (TurnOk.fc 1 0 []) (.t (TurnOk.fc 1 4 []) (.c [] [3, 5, 6, 9, 10, 11] (.r 0 3 (ec 3 (qp 0 0) (ec 5 (qp 1 0) (ec 6 (qp 2 0) (ec 9 (ql 166) (ec 10 (qi .i64) (ec 11 (qi .i64) en)))))) (sb 0 133 (lg 133) (sb 1 128 (lg 128) (sb 2 128 (lc qn (lc (qi .i64) (lc (qi .i64) (lc (qi .i64) (lc qn (lc (qi .i64) (lc (qi .i64) (lc (qi .i64) ln)))))))) sn))) (fun z => ⟨z.1.2.2.2.1, z.1.2.2.2.2.1, z.1.2.2.2.2.2.1, z.2.1, z.2.2.1, (GState2.mk [] (Num.mk z.2.2.2.1.2.1 z.2.2.2.1.2.2.1 z.2.2.2.1.2.2.2.1) [] (Num.mk z.2.2.2.1.2.2.2.2.2.1 z.2.2.2.1.2.2.2.2.2.2.1 z.2.2.2.1.2.2.2.2.2.2.2.1))⟩) (fun x => (((), (), (), x.t9, x.t10, x.t11, ()), (x.b0, x.b1, ((), x.b2.fCount.fLow, x.b2.fCount.fHigh, x.b2.fCount.fStep, (), x.b2.fTime.fLow, x.b2.fTime.fHigh, x.b2.fTime.fStep, ()), ()))) fun _ => rfl))))
def n83_0 (M83 : Runner → (List GStep) → GState2 → Option E83) (M156 : Runner → GStep → GState2 → Option E156) (M160 : Runner → GStep → GState2 → Option E160) (p : L83_0) : Option (Option L83_0) :=
 bif decide (p.t11 < p.t10) then if (0 : Int) ≤ p.t11 ∧ p.t11 < (↑p.t9.length : Int) then bif decide (p.t9[p.t11.toNat]!.fDo = 4) then match M156 p.b0 (GStep.mk p.t9[p.t11.toNat]!.fDo p.t9[p.t11.toNat]!.fCost p.t9[p.t11.toNat]!.fVar p.t9[p.t11.toNat]!.fN (GTerm.mk p.t9[p.t11.toNat]!.fTerm.fOp p.t9[p.t11.toNat]!.fTerm.fN p.t9[p.t11.toNat]!.fTerm.fKids) p.t9[p.t11.toNat]!.fThen p.t9[p.t11.toNat]!.fElse p.t9[p.t11.toNat]!.fBounds) p.b1 with | none => none | some r1 => some (some (L83_0.mk p.t9 p.t10 (i64.wrap (p.t11 + 1)) p.b0 r1 (GState2.mk [] p.b2.fCount [] p.b2.fTime))) else match m157 p.b1 p.t9[p.t11.toNat]!.fCost with | none => none | some r2 => bif decide (p.t9[p.t11.toNat]!.fDo = 0) then match m82 r2 (GTerm.mk p.t9[p.t11.toNat]!.fTerm.fOp p.t9[p.t11.toNat]!.fTerm.fN p.t9[p.t11.toNat]!.fTerm.fKids) with | none => none | some r3 => match m158 p.b0 r2 p.t9[p.t11.toNat]!.fVar r3 with | none => none | some r4 => some (some (L83_0.mk p.t9 p.t10 (i64.wrap (p.t11 + 1)) p.b0 r4 (GState2.mk [] p.b2.fCount [] p.b2.fTime))) else bif decide (p.t9[p.t11.toNat]!.fDo = 5) then if (0 : Int) ≤ p.t9[p.t11.toNat]!.fN ∧ p.t9[p.t11.toNat]!.fN < (↑p.b0.fHatches.length : Int) then match m158 p.b0 r2 p.t9[p.t11.toNat]!.fVar p.b0.fHatches[p.t9[p.t11.toNat]!.fN.toNat]! with | none => none | some r5 => some (some (L83_0.mk p.t9 p.t10 (i64.wrap (p.t11 + 1)) p.b0 r5 (GState2.mk [] p.b2.fCount [] p.b2.fTime))) else none else bif decide (p.t9[p.t11.toNat]!.fDo = 1) then match m82 r2 (GTerm.mk p.t9[p.t11.toNat]!.fTerm.fOp p.t9[p.t11.toNat]!.fTerm.fN p.t9[p.t11.toNat]!.fTerm.fKids) with | none => none | some r6 => match m159 r2 r6 with | none => none | some r7 => some (some (L83_0.mk p.t9 p.t10 (i64.wrap (p.t11 + 1)) p.b0 r7 (GState2.mk [] p.b2.fCount [] p.b2.fTime))) else bif decide (p.t9[p.t11.toNat]!.fDo = 3) then match M160 p.b0 (GStep.mk p.t9[p.t11.toNat]!.fDo p.t9[p.t11.toNat]!.fCost p.t9[p.t11.toNat]!.fVar p.t9[p.t11.toNat]!.fN (GTerm.mk p.t9[p.t11.toNat]!.fTerm.fOp p.t9[p.t11.toNat]!.fTerm.fN p.t9[p.t11.toNat]!.fTerm.fKids) p.t9[p.t11.toNat]!.fThen p.t9[p.t11.toNat]!.fElse p.t9[p.t11.toNat]!.fBounds) r2 with | none => none | some r8 => some (some (L83_0.mk p.t9 p.t10 (i64.wrap (p.t11 + 1)) p.b0 r8 (GState2.mk [] p.b2.fCount [] p.b2.fTime))) else bif decide (p.t9[p.t11.toNat]!.fDo = 6) then match m161 r2.fTime p.t9[p.t11.toNat]!.fBounds with | none => none | some r9 => some (some (L83_0.mk p.t9 p.t10 (i64.wrap (p.t11 + 1)) p.b0 (GState2.mk r2.fVars r2.fCount r2.fSlots r9.fst) (GState2.mk [] p.b2.fCount [] p.b2.fTime))) else some (some (L83_0.mk p.t9 p.t10 (i64.wrap (p.t11 + 1)) p.b0 r2 (GState2.mk [] p.b2.fCount [] p.b2.fTime))) else none else some (none)
theorem q83_0 (M83 : Runner → (List GStep) → GState2 → Option E83) (M156 : Runner → GStep → GState2 → Option E156) (M160 : Runner → GStep → GState2 → Option E160) (p : L83_0) : execA Tryz.prog (F83 M83 M156 M160) Tryz.f83.ntmps 300 (loopAt Tryz.f83 0) .no (Option L83_0) (d83_0.pat p) (kOn d83_0.rd) = n83_0 M83 M156 M160 p := by kernel_rfl
def a83_0 (M83 : Runner → (List GStep) → GState2 → Option E83) (M156 : Runner → GStep → GState2 → Option E156) (M160 : Runner → GStep → GState2 → Option E160) : L83_0 → Option L83_0 := advG (n83_0 M83 M156 M160)
def an83 (M83 : Runner → (List GStep) → GState2 → Option E83) (M156 : Runner → GStep → GState2 → Option E156) (M160 : Runner → GStep → GState2 → Option E160) : An := (.two .no (.two (.two .no (d83_0.lp (a83_0 M83 M156 M160) .no)) .no))
theorem fa83 (M83 : Runner → (List GStep) → GState2 → Option E83) (M156 : Runner → GStep → GState2 → Option E156) (M160 : Runner → GStep → GState2 → Option E160) : FnAn Tryz.prog (F83 M83 M156 M160) 0 300 83 (an83 M83 M156 M160) := fnAn_of (l := [(loopAt Tryz.f83 0, (d83_0.lp (a83_0 M83 M156 M160) .no))]) Tryz.func83 (bodyOf_eq (by kernel_rfl)) (by kernel_rfl) (ob_cons ⟨d83_0.ok _, advG_ok (q83_0 M83 M156 M160)⟩ ob_nil)
def s83 (M83 : Runner → (List GStep) → GState2 → Option E83) (M156 : Runner → GStep → GState2 → Option E156) (M160 : Runner → GStep → GState2 → Option E160) (a0 : Runner) (a1 : List GStep) (a2 : GState2) : Option E83 :=
 match a83_0 M83 M156 M160 (L83_0.mk a1 (↑a1.length : Int) (0) a0 a2 (GState2.mk [] (Num.mk (0) (0) (0)) [] (Num.mk (0) (0) (0)))) with | none => none | some r10 => bif decide (r10.t11 < r10.t10) then if (0 : Int) ≤ r10.t11 ∧ r10.t11 < (↑r10.t9.length : Int) then bif decide (r10.t9[r10.t11.toNat]!.fDo = 4) then match M156 r10.b0 (GStep.mk r10.t9[r10.t11.toNat]!.fDo r10.t9[r10.t11.toNat]!.fCost r10.t9[r10.t11.toNat]!.fVar r10.t9[r10.t11.toNat]!.fN (GTerm.mk r10.t9[r10.t11.toNat]!.fTerm.fOp r10.t9[r10.t11.toNat]!.fTerm.fN r10.t9[r10.t11.toNat]!.fTerm.fKids) r10.t9[r10.t11.toNat]!.fThen r10.t9[r10.t11.toNat]!.fElse r10.t9[r10.t11.toNat]!.fBounds) r10.b1 with | none => none | some r11 => none else match m157 r10.b1 r10.t9[r10.t11.toNat]!.fCost with | none => none | some r12 => bif decide (r10.t9[r10.t11.toNat]!.fDo = 0) then match m82 r12 (GTerm.mk r10.t9[r10.t11.toNat]!.fTerm.fOp r10.t9[r10.t11.toNat]!.fTerm.fN r10.t9[r10.t11.toNat]!.fTerm.fKids) with | none => none | some r13 => match m158 r10.b0 r12 r10.t9[r10.t11.toNat]!.fVar r13 with | none => none | some r14 => none else bif decide (r10.t9[r10.t11.toNat]!.fDo = 5) then if (0 : Int) ≤ r10.t9[r10.t11.toNat]!.fN ∧ r10.t9[r10.t11.toNat]!.fN < (↑r10.b0.fHatches.length : Int) then match m158 r10.b0 r12 r10.t9[r10.t11.toNat]!.fVar r10.b0.fHatches[r10.t9[r10.t11.toNat]!.fN.toNat]! with | none => none | some r15 => none else none else bif decide (r10.t9[r10.t11.toNat]!.fDo = 1) then match m82 r12 (GTerm.mk r10.t9[r10.t11.toNat]!.fTerm.fOp r10.t9[r10.t11.toNat]!.fTerm.fN r10.t9[r10.t11.toNat]!.fTerm.fKids) with | none => none | some r16 => match m159 r12 r16 with | none => none | some r17 => none else bif decide (r10.t9[r10.t11.toNat]!.fDo = 3) then match M160 r10.b0 (GStep.mk r10.t9[r10.t11.toNat]!.fDo r10.t9[r10.t11.toNat]!.fCost r10.t9[r10.t11.toNat]!.fVar r10.t9[r10.t11.toNat]!.fN (GTerm.mk r10.t9[r10.t11.toNat]!.fTerm.fOp r10.t9[r10.t11.toNat]!.fTerm.fN r10.t9[r10.t11.toNat]!.fTerm.fKids) r10.t9[r10.t11.toNat]!.fThen r10.t9[r10.t11.toNat]!.fElse r10.t9[r10.t11.toNat]!.fBounds) r12 with | none => none | some r18 => none else bif decide (r10.t9[r10.t11.toNat]!.fDo = 6) then match m161 r12.fTime r10.t9[r10.t11.toNat]!.fBounds with | none => none | some r19 => none else none else none else some (r10.b1)
theorem c83 (M83 : Runner → (List GStep) → GState2 → Option E83) (M156 : Runner → GStep → GState2 → Option E156) (M160 : Runner → GStep → GState2 → Option E160) (a0 : Runner) (a1 : List GStep) (a2 : GState2) : callR Tryz.prog (F83 M83 M156 M160) 300 (an83 M83 M156 M160) 83 (A83.c (a0, a1, a2, ())) [] 0 d83.rd = s83 M83 M156 M160 a0 a1 a2 := by kernel_rfl
def F156 (M83 : Runner → (List GStep) → GState2 → Option E83) (M156 : Runner → GStep → GState2 → Option E156) (M160 : Runner → GStep → GState2 → Option E160) : Orc := (e236 (e235 (e157 (e151 (x83 M83 (e82 or0))))))
theorem F156_ok {M83 M156 M160} (h83 : H83 M83) (h156 : H156 M156) (h160 : H160 M160) : OrcG Tryz.prog (F156 M83 M156 M160) := (e236_ok (e235_ok (e157_ok (e151_ok (x83_ok h83 (e82_ok or0_g))))))
structure L156_1 where
 t53 : List GState2
 t54 : Int
 t55 : Int
 b0 : GState2
 b1 : GState2
def d156_1 : Td 0 L156_1 := .c [] [6, 11, 53, 54, 55] (.t (TurnOk.fc 1 0 []) (.t (TurnOk.fc 1 4 []) (.c [] [6, 11, 53, 54, 55] (.r 0 2 (ec 6 (qp 0 0) (ec 11 (qp 1 0) (ec 53 (ql 128) (ec 54 (qi .i64) (ec 55 (qi .i64) en))))) (sb 0 128 (lc qn (lc (qi .i64) (lc (qi .i64) (lc (qi .i64) (lc qn (lc (qi .i64) (lc (qi .i64) (lc (qi .i64) ln)))))))) (sb 1 128 (lg 128) sn)) (fun z => ⟨z.1.2.2.1, z.1.2.2.2.1, z.1.2.2.2.2.1, (GState2.mk [] (Num.mk z.2.1.2.1 z.2.1.2.2.1 z.2.1.2.2.2.1) [] (Num.mk z.2.1.2.2.2.2.2.1 z.2.1.2.2.2.2.2.2.1 z.2.1.2.2.2.2.2.2.2.1)), z.2.2.1⟩) (fun x => (((), (), x.t53, x.t54, x.t55, ()), (((), x.b0.fCount.fLow, x.b0.fCount.fHigh, x.b0.fCount.fStep, (), x.b0.fTime.fLow, x.b0.fTime.fHigh, x.b0.fTime.fStep, ()), x.b1, ()))) fun _ => rfl))))
def n156_1 (M83 : Runner → (List GStep) → GState2 → Option E83) (M156 : Runner → GStep → GState2 → Option E156) (M160 : Runner → GStep → GState2 → Option E160) (p : L156_1) : Option (Option L156_1) :=
 bif decide (p.t55 < p.t54) then if (0 : Int) ≤ p.t55 ∧ p.t55 < (↑p.t53.length : Int) then match m236 p.b1 p.t53[p.t55.toNat]! with | none => none | some r7 => some (some (L156_1.mk p.t53 p.t54 (i64.wrap (p.t55 + 1)) (GState2.mk [] p.b0.fCount [] p.b0.fTime) r7)) else none else some (none)
theorem q156_1 (M83 : Runner → (List GStep) → GState2 → Option E83) (M156 : Runner → GStep → GState2 → Option E156) (M160 : Runner → GStep → GState2 → Option E160) (p : L156_1) : execA Tryz.prog (F156 M83 M156 M160) Tryz.f156.ntmps 300 (loopAt Tryz.f156 1) .no (Option L156_1) (d156_1.pat p) (kOn d156_1.rd) = n156_1 M83 M156 M160 p := by kernel_rfl
def a156_1 (M83 : Runner → (List GStep) → GState2 → Option E83) (M156 : Runner → GStep → GState2 → Option E156) (M160 : Runner → GStep → GState2 → Option E160) : L156_1 → Option L156_1 := advG (n156_1 M83 M156 M160)
structure L156_0 where
 t7 : List GState2
 t8 : Bool
 t15 : Int
 t16 : Int
 b0 : Runner
 b1 : GStep
 b2 : GState2
 b3 : GState2
def d156_0 : Td 0 L156_0 := .c [] [3, 4, 5, 6, 7, 8, 15, 16] (.t (TurnOk.s 7 [] 128) (.c [] [3, 4, 5, 6, 7, 8, 15, 16] (.r 0 5 (ec 3 (qp 0 0) (ec 4 (qp 1 0) (ec 5 (qp 2 0) (ec 6 (qp 3 0) (ec 7 (qo 4) (ec 8 qb (ec 15 (qi .i64) (ec 16 (qi .i64) en)))))))) (sb 0 133 (lg 133) (sb 1 166 (lg 166) (sb 2 128 (lg 128) (sb 3 128 (lc qn (lc (qi .i64) (lc (qi .i64) (lc (qi .i64) (lc qn (lc (qi .i64) (lc (qi .i64) (lc (qi .i64) ln)))))))) (sr 4 128 sn))))) (fun z => ⟨z.2.2.2.2.2.1, z.1.2.2.2.2.2.1, z.1.2.2.2.2.2.2.1, z.1.2.2.2.2.2.2.2.1, z.2.1, z.2.2.1, z.2.2.2.1, (GState2.mk [] (Num.mk z.2.2.2.2.1.2.1 z.2.2.2.2.1.2.2.1 z.2.2.2.2.1.2.2.2.1) [] (Num.mk z.2.2.2.2.1.2.2.2.2.2.1 z.2.2.2.2.1.2.2.2.2.2.2.1 z.2.2.2.2.1.2.2.2.2.2.2.2.1))⟩) (fun x => (((), (), (), (), (), x.t8, x.t15, x.t16, ()), (x.b0, x.b1, x.b2, ((), x.b3.fCount.fLow, x.b3.fCount.fHigh, x.b3.fCount.fStep, (), x.b3.fTime.fLow, x.b3.fTime.fHigh, x.b3.fTime.fStep, ()), x.t7, ()))) fun _ => rfl)))
def n156_0 (M83 : Runner → (List GStep) → GState2 → Option E83) (M156 : Runner → GStep → GState2 → Option E156) (M160 : Runner → GStep → GState2 → Option E160) (p : L156_0) : Option (Option L156_0) :=
 bif decide (p.t16 < p.t15) then match m157 p.b2 p.b1.fCost with | none => none | some r1 => match m82 r1 (GTerm.mk p.b1.fTerm.fOp p.b1.fTerm.fN p.b1.fTerm.fKids) with | none => none | some r2 => match m151 r2 with | none => none | some r3 => bif r3.fst then match m235 r1 with | none => none | some r4 => if (p.t7 ++ [r4]).length ≤ 1073741824 then bif bif r3.snd then false else true then some (none) else match M83 p.b0 p.b1.fThen r1 with | none => none | some r5 => some (some (L156_0.mk (p.t7 ++ [r4]) p.t8 p.t15 (i64.wrap (p.t16 + 1)) p.b0 (GStep.mk p.b1.fDo p.b1.fCost p.b1.fVar p.b1.fN (GTerm.mk p.b1.fTerm.fOp p.b1.fTerm.fN p.b1.fTerm.fKids) p.b1.fThen p.b1.fElse p.b1.fBounds) r5 (GState2.mk [] p.b3.fCount [] p.b3.fTime))) else none else bif bif r3.snd then false else true then some (none) else match M83 p.b0 p.b1.fThen r1 with | none => none | some r6 => some (some (L156_0.mk p.t7 p.t8 p.t15 (i64.wrap (p.t16 + 1)) p.b0 (GStep.mk p.b1.fDo p.b1.fCost p.b1.fVar p.b1.fN (GTerm.mk p.b1.fTerm.fOp p.b1.fTerm.fN p.b1.fTerm.fKids) p.b1.fThen p.b1.fElse p.b1.fBounds) r6 (GState2.mk [] p.b3.fCount [] p.b3.fTime))) else some (none)
theorem q156_0 (M83 : Runner → (List GStep) → GState2 → Option E83) (M156 : Runner → GStep → GState2 → Option E156) (M160 : Runner → GStep → GState2 → Option E160) (p : L156_0) : execA Tryz.prog (F156 M83 M156 M160) Tryz.f156.ntmps 300 (loopAt Tryz.f156 0) .no (Option L156_0) (d156_0.pat p) (kOn d156_0.rd) = n156_0 M83 M156 M160 p := by kernel_rfl
def a156_0 (M83 : Runner → (List GStep) → GState2 → Option E83) (M156 : Runner → GStep → GState2 → Option E156) (M160 : Runner → GStep → GState2 → Option E160) : L156_0 → Option L156_0 := advG (n156_0 M83 M156 M160)
def an156 (M83 : Runner → (List GStep) → GState2 → Option E83) (M156 : Runner → GStep → GState2 → Option E156) (M160 : Runner → GStep → GState2 → Option E160) : An := (.two .no (.two .no (.two .no (.two (.two .no (d156_0.lp (a156_0 M83 M156 M160) .no)) (.two .no (.two .no (.two (.two .no (d156_1.lp (a156_1 M83 M156 M160) .no)) .no)))))))
theorem fa156 (M83 : Runner → (List GStep) → GState2 → Option E83) (M156 : Runner → GStep → GState2 → Option E156) (M160 : Runner → GStep → GState2 → Option E160) : FnAn Tryz.prog (F156 M83 M156 M160) 0 300 156 (an156 M83 M156 M160) := fnAn_of (l := [(loopAt Tryz.f156 0, (d156_0.lp (a156_0 M83 M156 M160) .no)), (loopAt Tryz.f156 1, (d156_1.lp (a156_1 M83 M156 M160) .no))]) Tryz.func156 (bodyOf_eq (by kernel_rfl)) (by kernel_rfl) (ob_cons ⟨d156_0.ok _, advG_ok (q156_0 M83 M156 M160)⟩ (ob_cons ⟨d156_1.ok _, advG_ok (q156_1 M83 M156 M160)⟩ ob_nil))
def s156 (M83 : Runner → (List GStep) → GState2 → Option E83) (M156 : Runner → GStep → GState2 → Option E156) (M160 : Runner → GStep → GState2 → Option E160) (a0 : Runner) (a1 : GStep) (a2 : GState2) : Option E156 :=
 match a156_0 M83 M156 M160 (L156_0.mk [] true a1.fN (0) a0 (GStep.mk a1.fDo a1.fCost a1.fVar a1.fN (GTerm.mk a1.fTerm.fOp a1.fTerm.fN a1.fTerm.fKids) a1.fThen a1.fElse a1.fBounds) a2 (GState2.mk [] (Num.mk (0) (0) (0)) [] (Num.mk (0) (0) (0)))) with | none => none | some r8 => bif decide (r8.t16 < r8.t15) then match m157 r8.b2 r8.b1.fCost with | none => none | some r9 => match m82 r9 (GTerm.mk r8.b1.fTerm.fOp r8.b1.fTerm.fN r8.b1.fTerm.fKids) with | none => none | some r10 => match m151 r10 with | none => none | some r11 => bif r11.fst then match m235 r9 with | none => none | some r12 => if (r8.t7 ++ [r12]).length ≤ 1073741824 then bif bif r11.snd then false else true then if (0 : Int) ≤ (0 : Int) ∧ (0 : Int) < (↑(r8.t7 ++ [r12]).length : Int) then if 128 = 128 ∧ 0 < (r8.t7 ++ [r12]).length then if (0 : Int) ≤ (1 : Int) ∧ (1 : Int) ≤ (↑(r8.t7 ++ [r12]).length : Int) then match a156_1 M83 M156 M160 (L156_1.mk (List.drop 1 (r8.t7 ++ [r12])) (↑(List.drop 1 (r8.t7 ++ [r12])).length : Int) (0) (GState2.mk [] r8.b3.fCount [] r8.b3.fTime) (r8.t7 ++ [r12])[0]!) with | none => none | some r13 => bif decide (r13.t55 < r13.t54) then if (0 : Int) ≤ r13.t55 ∧ r13.t55 < (↑r13.t53.length : Int) then match m236 r13.b1 r13.t53[r13.t55.toNat]! with | none => none | some r14 => none else none else some (r13.b1) else none else none else none else match M83 r8.b0 r8.b1.fThen r9 with | none => none | some r15 => none else none else bif bif r11.snd then false else true then if (0 : Int) ≤ (0 : Int) ∧ (0 : Int) < (↑r8.t7.length : Int) then if 128 = 128 ∧ 0 < r8.t7.length then if (0 : Int) ≤ (1 : Int) ∧ (1 : Int) ≤ (↑r8.t7.length : Int) then match a156_1 M83 M156 M160 (L156_1.mk (List.drop 1 r8.t7) (↑(List.drop 1 r8.t7).length : Int) (0) (GState2.mk [] r8.b3.fCount [] r8.b3.fTime) r8.t7[0]!) with | none => none | some r16 => bif decide (r16.t55 < r16.t54) then if (0 : Int) ≤ r16.t55 ∧ r16.t55 < (↑r16.t53.length : Int) then match m236 r16.b1 r16.t53[r16.t55.toNat]! with | none => none | some r17 => none else none else some (r16.b1) else none else none else none else match M83 r8.b0 r8.b1.fThen r9 with | none => none | some r18 => none else bif r8.t8 then if (r8.t7 ++ [r8.b2]).length ≤ 1073741824 then if (0 : Int) ≤ (0 : Int) ∧ (0 : Int) < (↑(r8.t7 ++ [r8.b2]).length : Int) then if 128 = 128 ∧ 0 < (r8.t7 ++ [r8.b2]).length then if (0 : Int) ≤ (1 : Int) ∧ (1 : Int) ≤ (↑(r8.t7 ++ [r8.b2]).length : Int) then match a156_1 M83 M156 M160 (L156_1.mk (List.drop 1 (r8.t7 ++ [r8.b2])) (↑(List.drop 1 (r8.t7 ++ [r8.b2])).length : Int) (0) (GState2.mk [] r8.b3.fCount [] r8.b3.fTime) (r8.t7 ++ [r8.b2])[0]!) with | none => none | some r19 => bif decide (r19.t55 < r19.t54) then if (0 : Int) ≤ r19.t55 ∧ r19.t55 < (↑r19.t53.length : Int) then match m236 r19.b1 r19.t53[r19.t55.toNat]! with | none => none | some r20 => none else none else some (r19.b1) else none else none else none else none else if (0 : Int) ≤ (0 : Int) ∧ (0 : Int) < (↑r8.t7.length : Int) then if 128 = 128 ∧ 0 < r8.t7.length then if (0 : Int) ≤ (1 : Int) ∧ (1 : Int) ≤ (↑r8.t7.length : Int) then match a156_1 M83 M156 M160 (L156_1.mk (List.drop 1 r8.t7) (↑(List.drop 1 r8.t7).length : Int) (0) (GState2.mk [] r8.b3.fCount [] r8.b3.fTime) r8.t7[0]!) with | none => none | some r21 => bif decide (r21.t55 < r21.t54) then if (0 : Int) ≤ r21.t55 ∧ r21.t55 < (↑r21.t53.length : Int) then match m236 r21.b1 r21.t53[r21.t55.toNat]! with | none => none | some r22 => none else none else some (r21.b1) else none else none else none
theorem c156 (M83 : Runner → (List GStep) → GState2 → Option E83) (M156 : Runner → GStep → GState2 → Option E156) (M160 : Runner → GStep → GState2 → Option E160) (a0 : Runner) (a1 : GStep) (a2 : GState2) : callR Tryz.prog (F156 M83 M156 M160) 300 (an156 M83 M156 M160) 156 (A156.c (a0, a1, a2, ())) [] 0 d156.rd = s156 M83 M156 M160 a0 a1 a2 := by kernel_rfl
def F160 (M83 : Runner → (List GStep) → GState2 → Option E83) (M156 : Runner → GStep → GState2 → Option E156) (M160 : Runner → GStep → GState2 → Option E160) : Orc := (e236 (e235 (e151 (x83 M83 (e82 or0)))))
theorem F160_ok {M83 M156 M160} (h83 : H83 M83) (h156 : H156 M156) (h160 : H160 M160) : OrcG Tryz.prog (F160 M83 M156 M160) := (e236_ok (e235_ok (e151_ok (x83_ok h83 (e82_ok or0_g)))))
def an160 (M83 : Runner → (List GStep) → GState2 → Option E83) (M156 : Runner → GStep → GState2 → Option E156) (M160 : Runner → GStep → GState2 → Option E160) : An := .no
theorem fa160 (M83 : Runner → (List GStep) → GState2 → Option E83) (M156 : Runner → GStep → GState2 → Option E156) (M160 : Runner → GStep → GState2 → Option E160) : FnAn Tryz.prog (F160 M83 M156 M160) 0 300 160 (an160 M83 M156 M160) := fnAn_of (l := []) Tryz.func160 (bodyOf_eq (by kernel_rfl)) (by kernel_rfl) ob_nil
def s160 (M83 : Runner → (List GStep) → GState2 → Option E83) (M156 : Runner → GStep → GState2 → Option E156) (M160 : Runner → GStep → GState2 → Option E160) (a0 : Runner) (a1 : GStep) (a2 : GState2) : Option E160 :=
 match m82 a2 (GTerm.mk a1.fTerm.fOp a1.fTerm.fN a1.fTerm.fKids) with | none => none | some r1 => match m151 r1 with | none => none | some r2 => bif bif r2.fst then false else true then match M83 a0 a1.fThen a2 with | none => none | some r3 => some (r3) else bif bif r2.snd then false else true then match M83 a0 a1.fElse a2 with | none => none | some r4 => some (r4) else match m235 a2 with | none => none | some r5 => match M83 a0 a1.fThen r5 with | none => none | some r6 => match m235 a2 with | none => none | some r7 => match M83 a0 a1.fElse r7 with | none => none | some r8 => match m236 r6 r8 with | none => none | some r9 => some (r9)
theorem c160 (M83 : Runner → (List GStep) → GState2 → Option E83) (M156 : Runner → GStep → GState2 → Option E156) (M160 : Runner → GStep → GState2 → Option E160) (a0 : Runner) (a1 : GStep) (a2 : GState2) : callR Tryz.prog (F160 M83 M156 M160) 300 (an160 M83 M156 M160) 160 (A160.c (a0, a1, a2, ())) [] 0 d160.rd = s160 M83 M156 M160 a0 a1 a2 := by kernel_rfl
def mm83_156_160 : Nat → (Runner → (List GStep) → GState2 → Option E83) × (Runner → GStep → GState2 → Option E156) × (Runner → GStep → GState2 → Option E160)
 | 0 => (fun _ _ _ => none, fun _ _ _ => none, fun _ _ _ => none)
 | n + 1 => (s83 (mm83_156_160 n).1 (mm83_156_160 n).2.1 (mm83_156_160 n).2.2, s156 (mm83_156_160 n).1 (mm83_156_160 n).2.1 (mm83_156_160 n).2.2, s160 (mm83_156_160 n).1 (mm83_156_160 n).2.1 (mm83_156_160 n).2.2)
def m83 (n : Nat) : Runner → (List GStep) → GState2 → Option E83 := (mm83_156_160 n).1
def m156 (n : Nat) : Runner → GStep → GState2 → Option E156 := (mm83_156_160 n).2.1
def m160 (n : Nat) : Runner → GStep → GState2 → Option E160 := (mm83_156_160 n).2.2
theorem mm83_156_160_ok : ∀ n, H83 (m83 n) ∧ H156 (m156 n) ∧ H160 (m160 n)
  | 0 => ⟨fun _ _ h => (by cases h), fun _ _ h => (by cases h), fun _ _ h => (by cases h)⟩
  | n + 1 => by
    have ih := mm83_156_160_ok n
    obtain ⟨i83, i156, i160⟩ := ih
    refine ⟨?_, ?_, ?_⟩
    · exact (hl_of (F83_ok i83 i156 i160) (fa83 (m83 n) (m156 n) (m160 n)) (fun _ => by kernel_rfl) (fun _ => by kernel_rfl) fun g => c83 (m83 n) (m156 n) (m160 n) g.1 g.2.1 g.2.2.1)
    · exact (hl_of (F156_ok i83 i156 i160) (fa156 (m83 n) (m156 n) (m160 n)) (fun _ => by kernel_rfl) (fun _ => by kernel_rfl) fun g => c156 (m83 n) (m156 n) (m160 n) g.1 g.2.1 g.2.2.1)
    · exact (hl_of (F160_ok i83 i156 i160) (fa160 (m83 n) (m156 n) (m160 n)) (fun _ => by kernel_rfl) (fun _ => by kernel_rfl) fun g => c160 (m83 n) (m156 n) (m160 n) g.1 g.2.1 g.2.2.1)
def r83 : Runner → (List GStep) → GState2 → Option E83 := fun a0 a1 a2 => lim (fun n => m83 n a0 a1 a2)
theorem r83_ok : H83 r83 := fun g b h => by
 obtain ⟨n, hn⟩ := lim_some (show lim (fun n => m83 n g.1 g.2.1 g.2.2.1) = some b from h)
 exact (mm83_156_160_ok n).1 g b hn
def e83 (F : Orc) : Orc := x83 r83 F
theorem e83_ok {F : Orc} (h : OrcG Tryz.prog F) : OrcG Tryz.prog (e83 F) := x83_ok r83_ok h
def F20 : Orc := (e83 (e82 (e81 (e80 (e79 or0)))))
theorem F20_ok : OrcG Tryz.prog F20 := (e83_ok (e82_ok (e81_ok (e80_ok (e79_ok or0_g)))))
structure L20_2 where
 t108 : List Hatch
 t109 : Int
 t110 : Int
 b0 : Flat
 b1 : View
 b2 : Abstract
 b3 : GState2
 b4 : Runner
def d20_2 : Td 0 L20_2 := .c [] [3, 4, 6, 9, 17, 108, 109, 110] (.t (TurnOk.c 4 3 [] 34) (.c [] [3, 4, 6, 9, 17, 108, 109, 110] (.r 0 7 (ec 3 (qp 0 0) (ec 4 (qp 1 0) (ec 6 (qp 2 0) (ec 9 (qp 3 0) (ec 17 (qp 4 0) (ec 108 (ql 139) (ec 109 (qi .i64) (ec 110 (qi .i64) en)))))))) (sb 0 26 (lg 26) (sb 1 29 (lg 29) (sb 2 36 (lc (qi .i64) (lc (qi .i64) (lc (qi .i64) (lc qn (lc (qi .i64) (lc (qi .i64) (lc (qi .i64) (lc qn ln)))))))) (sb 3 128 (lc (qo 5) (lc (qi .i64) (lc (qi .i64) (lc (qi .i64) (lc qn (lc (qi .i64) (lc (qi .i64) (lc (qi .i64) ln)))))))) (sb 4 133 (lc (ql 131) (lc (ql 139) (lc (ql 166) (lc (qo 6) ln)))) (sr 5 34 (sr 6 34 sn))))))) (fun z => ⟨z.1.2.2.2.2.2.1, z.1.2.2.2.2.2.2.1, z.1.2.2.2.2.2.2.2.1, z.2.1, z.2.2.1, (Abstract.mk (Num.mk z.2.2.2.1.1 z.2.2.2.1.2.1 z.2.2.2.1.2.2.1) [] (Num.mk z.2.2.2.1.2.2.2.2.1 z.2.2.2.1.2.2.2.2.2.1 z.2.2.2.1.2.2.2.2.2.2.1) []), (GState2.mk z.2.2.2.2.2.2.1 (Num.mk z.2.2.2.2.1.2.1 z.2.2.2.2.1.2.2.1 z.2.2.2.2.1.2.2.2.1) [] (Num.mk z.2.2.2.2.1.2.2.2.2.2.1 z.2.2.2.2.1.2.2.2.2.2.2.1 z.2.2.2.2.1.2.2.2.2.2.2.2.1)), (Runner.mk (Flat.mk z.2.2.2.2.2.1.1 z.2.2.2.2.2.1.2.1 z.2.2.2.2.2.1.2.2.1) z.2.2.2.2.2.2.2.1)⟩) (fun x => (((), (), (), (), (), x.t108, x.t109, x.t110, ()), (x.b0, x.b1, (x.b2.fCount.fLow, x.b2.fCount.fHigh, x.b2.fCount.fStep, (), x.b2.fTime.fLow, x.b2.fTime.fHigh, x.b2.fTime.fStep, (), ()), ((), x.b3.fCount.fLow, x.b3.fCount.fHigh, x.b3.fCount.fStep, (), x.b3.fTime.fLow, x.b3.fTime.fHigh, x.b3.fTime.fStep, ()), (x.b4.fF.fVars, x.b4.fF.fHatches, x.b4.fF.fBody, (), ()), x.b3.fVars, x.b4.fHatches, ()))) fun _ => rfl)))
def n20_2 (p : L20_2) : Option (Option L20_2) :=
 bif decide (p.t110 < p.t109) then if (0 : Int) ≤ p.t110 ∧ p.t110 < (↑p.t108.length : Int) then match m82 (GState2.mk p.b3.fVars p.b3.fCount [] p.b3.fTime) (GTerm.mk p.t108[p.t110.toNat]!.fTerm.fOp p.t108[p.t110.toNat]!.fTerm.fN p.t108[p.t110.toNat]!.fTerm.fKids) with | none => none | some r1 => match m81 r1 p.t108[p.t110.toNat]!.fLow p.t108[p.t110.toNat]!.fHigh with | none => none | some r2 => if (p.b4.fHatches ++ [r2.fst]).length ≤ 1073741824 then some (some (L20_2.mk p.t108 p.t109 (i64.wrap (p.t110 + 1)) p.b0 p.b1 (Abstract.mk p.b2.fCount [] p.b2.fTime []) (GState2.mk p.b3.fVars p.b3.fCount [] p.b3.fTime) (Runner.mk p.b4.fF (p.b4.fHatches ++ [r2.fst])))) else none else none else some (none)
theorem q20_2 (p : L20_2) : execA Tryz.prog (F20) Tryz.f20.ntmps 300 (loopAt Tryz.f20 2) .no (Option L20_2) (d20_2.pat p) (kOn d20_2.rd) = n20_2 p := by kernel_rfl
def a20_2 : L20_2 → Option L20_2 := advG (n20_2)
structure L20_1 where
 t2 : List Num
 t10 : Int
 t11 : Int
 t12 : Int
 t47 : List GVar
 t48 : Int
 t49 : Int
 b0 : Flat
 b1 : View
 b2 : Abstract
 b3 : GState2
def d20_1 : Td 0 L20_1 := .c [] [2, 3, 4, 6, 9, 10, 11, 12, 47, 48, 49] (.t (TurnOk.c 3 0 [] 34) (.c [] [2, 3, 4, 6, 9, 10, 11, 12, 47, 48, 49] (.r 0 5 (ec 2 (ql 34) (ec 3 (qp 0 0) (ec 4 (qp 1 0) (ec 6 (qp 2 0) (ec 9 (qp 3 0) (ec 10 (qi .i64) (ec 11 (qi .i64) (ec 12 (qi .i64) (ec 47 (ql 131) (ec 48 (qi .i64) (ec 49 (qi .i64) en))))))))))) (sb 0 26 (lg 26) (sb 1 29 (lg 29) (sb 2 36 (lc (qi .i64) (lc (qi .i64) (lc (qi .i64) (lc qn (lc (qi .i64) (lc (qi .i64) (lc (qi .i64) (lc qn ln)))))))) (sb 3 128 (lc (qo 4) (lc (qi .i64) (lc (qi .i64) (lc (qi .i64) (lc qn (lc (qi .i64) (lc (qi .i64) (lc (qi .i64) ln)))))))) (sr 4 34 sn))))) (fun z => ⟨z.1.1, z.1.2.2.2.2.2.1, z.1.2.2.2.2.2.2.1, z.1.2.2.2.2.2.2.2.1, z.1.2.2.2.2.2.2.2.2.1, z.1.2.2.2.2.2.2.2.2.2.1, z.1.2.2.2.2.2.2.2.2.2.2.1, z.2.1, z.2.2.1, (Abstract.mk (Num.mk z.2.2.2.1.1 z.2.2.2.1.2.1 z.2.2.2.1.2.2.1) [] (Num.mk z.2.2.2.1.2.2.2.2.1 z.2.2.2.1.2.2.2.2.2.1 z.2.2.2.1.2.2.2.2.2.2.1) []), (GState2.mk z.2.2.2.2.2.1 (Num.mk z.2.2.2.2.1.2.1 z.2.2.2.2.1.2.2.1 z.2.2.2.2.1.2.2.2.1) [] (Num.mk z.2.2.2.2.1.2.2.2.2.2.1 z.2.2.2.2.1.2.2.2.2.2.2.1 z.2.2.2.2.1.2.2.2.2.2.2.2.1))⟩) (fun x => ((x.t2, (), (), (), (), x.t10, x.t11, x.t12, x.t47, x.t48, x.t49, ()), (x.b0, x.b1, (x.b2.fCount.fLow, x.b2.fCount.fHigh, x.b2.fCount.fStep, (), x.b2.fTime.fLow, x.b2.fTime.fHigh, x.b2.fTime.fStep, (), ()), ((), x.b3.fCount.fLow, x.b3.fCount.fHigh, x.b3.fCount.fStep, (), x.b3.fTime.fLow, x.b3.fTime.fHigh, x.b3.fTime.fStep, ()), x.b3.fVars, ()))) fun _ => rfl)))
def n20_1 (p : L20_1) : Option (Option L20_1) :=
 bif decide (p.t49 < p.t48) then if (0 : Int) ≤ p.t49 ∧ p.t49 < (↑p.t47.length : Int) then bif decide (p.t47[p.t49.toNat]!.fKind = 1) then if (0 : Int) ≤ p.t10 ∧ p.t10 < (↑p.t2.length : Int) then if (p.b3.fVars ++ [p.t2[p.t10.toNat]!]).length ≤ 1073741824 then some (some (L20_1.mk p.t2 (i64.wrap (p.t10 + 1)) p.t11 p.t12 p.t47 p.t48 (i64.wrap (p.t49 + 1)) p.b0 p.b1 (Abstract.mk p.b2.fCount [] p.b2.fTime []) (GState2.mk (p.b3.fVars ++ [p.t2[p.t10.toNat]!]) p.b3.fCount [] p.b3.fTime))) else none else none else bif decide (p.t47[p.t49.toNat]!.fKind = 2) then if (0 : Int) ≤ p.t11 ∧ p.t11 < (↑p.b1.fPublic.length : Int) then if (p.b3.fVars ++ [m80 p.b1.fPublic[p.t11.toNat]!]).length ≤ 1073741824 then some (some (L20_1.mk p.t2 p.t10 (i64.wrap (p.t11 + 1)) p.t12 p.t47 p.t48 (i64.wrap (p.t49 + 1)) p.b0 p.b1 (Abstract.mk p.b2.fCount [] p.b2.fTime []) (GState2.mk (p.b3.fVars ++ [m80 p.b1.fPublic[p.t11.toNat]!]) p.b3.fCount [] p.b3.fTime))) else none else none else bif decide (p.t47[p.t49.toNat]!.fKind = 3) then if (0 : Int) ≤ p.t12 ∧ p.t12 < (↑p.t2.length : Int) then if (p.b3.fVars ++ [p.t2[p.t12.toNat]!]).length ≤ 1073741824 then some (some (L20_1.mk p.t2 p.t10 p.t11 (i64.wrap (p.t12 + 1)) p.t47 p.t48 (i64.wrap (p.t49 + 1)) p.b0 p.b1 (Abstract.mk p.b2.fCount [] p.b2.fTime []) (GState2.mk (p.b3.fVars ++ [p.t2[p.t12.toNat]!]) p.b3.fCount [] p.b3.fTime))) else none else none else if (p.b3.fVars ++ [m80 p.t47[p.t49.toNat]!.fInit]).length ≤ 1073741824 then some (some (L20_1.mk p.t2 p.t10 p.t11 p.t12 p.t47 p.t48 (i64.wrap (p.t49 + 1)) p.b0 p.b1 (Abstract.mk p.b2.fCount [] p.b2.fTime []) (GState2.mk (p.b3.fVars ++ [m80 p.t47[p.t49.toNat]!.fInit]) p.b3.fCount [] p.b3.fTime))) else none else none else some (none)
theorem q20_1 (p : L20_1) : execA Tryz.prog (F20) Tryz.f20.ntmps 300 (loopAt Tryz.f20 1) .no (Option L20_1) (d20_1.pat p) (kOn d20_1.rd) = n20_1 p := by kernel_rfl
def a20_1 : L20_1 → Option L20_1 := advG (n20_1)
structure L20_0 where
 t2 : List Num
 t10 : Int
 t11 : Int
 t12 : Int
 t34 : List GVar
 t35 : Int
 t36 : Int
 b0 : Flat
 b1 : View
 b2 : Abstract
 b3 : GState2
def d20_0 : Td 0 L20_0 := .c [] [2, 3, 4, 6, 9, 10, 11, 12, 34, 35, 36] (.r 0 4 (ec 2 (ql 34) (ec 3 (qp 0 0) (ec 4 (qp 1 0) (ec 6 (qp 2 0) (ec 9 (qp 3 0) (ec 10 (qi .i64) (ec 11 (qi .i64) (ec 12 (qi .i64) (ec 34 (ql 131) (ec 35 (qi .i64) (ec 36 (qi .i64) en))))))))))) (sb 0 26 (lg 26) (sb 1 29 (lg 29) (sb 2 36 (lc (qi .i64) (lc (qi .i64) (lc (qi .i64) (lc qn (lc (qi .i64) (lc (qi .i64) (lc (qi .i64) (lc qn ln)))))))) (sb 3 128 (lc qn (lc (qi .i64) (lc (qi .i64) (lc (qi .i64) (lc qn (lc (qi .i64) (lc (qi .i64) (lc (qi .i64) ln)))))))) sn)))) (fun z => ⟨z.1.1, z.1.2.2.2.2.2.1, z.1.2.2.2.2.2.2.1, z.1.2.2.2.2.2.2.2.1, z.1.2.2.2.2.2.2.2.2.1, z.1.2.2.2.2.2.2.2.2.2.1, z.1.2.2.2.2.2.2.2.2.2.2.1, z.2.1, z.2.2.1, (Abstract.mk (Num.mk z.2.2.2.1.1 z.2.2.2.1.2.1 z.2.2.2.1.2.2.1) [] (Num.mk z.2.2.2.1.2.2.2.2.1 z.2.2.2.1.2.2.2.2.2.1 z.2.2.2.1.2.2.2.2.2.2.1) []), (GState2.mk [] (Num.mk z.2.2.2.2.1.2.1 z.2.2.2.2.1.2.2.1 z.2.2.2.2.1.2.2.2.1) [] (Num.mk z.2.2.2.2.1.2.2.2.2.2.1 z.2.2.2.2.1.2.2.2.2.2.2.1 z.2.2.2.2.1.2.2.2.2.2.2.2.1))⟩) (fun x => ((x.t2, (), (), (), (), x.t10, x.t11, x.t12, x.t34, x.t35, x.t36, ()), (x.b0, x.b1, (x.b2.fCount.fLow, x.b2.fCount.fHigh, x.b2.fCount.fStep, (), x.b2.fTime.fLow, x.b2.fTime.fHigh, x.b2.fTime.fStep, (), ()), ((), x.b3.fCount.fLow, x.b3.fCount.fHigh, x.b3.fCount.fStep, (), x.b3.fTime.fLow, x.b3.fTime.fHigh, x.b3.fTime.fStep, ()), ()))) fun _ => rfl)
def n20_0 (p : L20_0) : Option (Option L20_0) :=
 bif decide (p.t36 < p.t35) then if (0 : Int) ≤ p.t36 ∧ p.t36 < (↑p.t34.length : Int) then bif decide (p.t34[p.t36.toNat]!.fKind = 1) then some (some (L20_0.mk p.t2 p.t10 p.t11 (i64.wrap (p.t12 + 1)) p.t34 p.t35 (i64.wrap (p.t36 + 1)) p.b0 p.b1 (Abstract.mk p.b2.fCount [] p.b2.fTime []) (GState2.mk [] p.b3.fCount [] p.b3.fTime))) else some (some (L20_0.mk p.t2 p.t10 p.t11 p.t12 p.t34 p.t35 (i64.wrap (p.t36 + 1)) p.b0 p.b1 (Abstract.mk p.b2.fCount [] p.b2.fTime []) (GState2.mk [] p.b3.fCount [] p.b3.fTime))) else none else some (none)
theorem q20_0 (p : L20_0) : execA Tryz.prog (F20) Tryz.f20.ntmps 300 (loopAt Tryz.f20 0) .no (Option L20_0) (d20_0.pat p) (kOn d20_0.rd) = n20_0 p := by kernel_rfl
def a20_0 : L20_0 → Option L20_0 := advG (n20_0)
abbrev E20 : Type := Abstract × Int
def d20 : Td 0 E20 := .c [] [6, 7] (.r 0 1 (ec 6 (qp 0 0) (ec 7 (qi .i64) en)) (sb 0 36 (lg 36) sn) (fun z => (z.2.1, z.1.2.1)) (fun x => (((), x.2, ()), (x.1, ()))) fun _ => rfl)
def A20 := (lc (qg 26) (lc (qg 29) (lc (ql 34) ln)))
def an20 : An := (.two .no (.two .no (.two .no (.two .no (.two (.two .no (d20_0.lp a20_0 .no)) (.two (.two .no (d20_1.lp a20_1 .no)) (.two .no (.two (.two .no (d20_2.lp a20_2 .no)) .no))))))))
theorem fa20 : FnAn Tryz.prog (F20) 0 300 20 (an20) := fnAn_of (l := [(loopAt Tryz.f20 0, (d20_0.lp a20_0 .no)), (loopAt Tryz.f20 1, (d20_1.lp a20_1 .no)), (loopAt Tryz.f20 2, (d20_2.lp a20_2 .no))]) Tryz.func20 (bodyOf_eq (by kernel_rfl)) (by kernel_rfl) (ob_cons ⟨d20_0.ok _, advG_ok (q20_0)⟩ (ob_cons ⟨d20_1.ok _, advG_ok (q20_1)⟩ (ob_cons ⟨d20_2.ok _, advG_ok (q20_2)⟩ ob_nil)))
def m20 (a0 : Flat) (a1 : View) (a2 : List Num) : Option E20 :=
 match m79 a0 a1 a2 with | none => none | some r3 => bif bif decide (r3 = 0) then false else true then some ((Abstract.mk (Num.mk (0) (0) (0)) [] (Num.mk (0) (0) (0)) [], r3)) else match a20_0 (L20_0.mk a2 (0) (0) (0) a0.fVars (↑a0.fVars.length : Int) (0) a0 a1 (Abstract.mk (Num.mk (0) (0) (0)) [] (Num.mk (0) (0) (0)) []) (GState2.mk [] (m80 (0)) [] (m80 (0)))) with | none => none | some r4 => bif decide (r4.t36 < r4.t35) then if (0 : Int) ≤ r4.t36 ∧ r4.t36 < (↑r4.t34.length : Int) then bif decide (r4.t34[r4.t36.toNat]!.fKind = 1) then none else none else none else match a20_1 (L20_1.mk r4.t2 r4.t10 r4.t11 r4.t12 r4.b0.fVars (↑r4.b0.fVars.length : Int) (0) r4.b0 r4.b1 (Abstract.mk r4.b2.fCount [] r4.b2.fTime []) (GState2.mk [] r4.b3.fCount [] r4.b3.fTime)) with | none => none | some r5 => bif decide (r5.t49 < r5.t48) then if (0 : Int) ≤ r5.t49 ∧ r5.t49 < (↑r5.t47.length : Int) then bif decide (r5.t47[r5.t49.toNat]!.fKind = 1) then if (0 : Int) ≤ r5.t10 ∧ r5.t10 < (↑r5.t2.length : Int) then if (r5.b3.fVars ++ [r5.t2[r5.t10.toNat]!]).length ≤ 1073741824 then none else none else none else bif decide (r5.t47[r5.t49.toNat]!.fKind = 2) then if (0 : Int) ≤ r5.t11 ∧ r5.t11 < (↑r5.b1.fPublic.length : Int) then if (r5.b3.fVars ++ [m80 r5.b1.fPublic[r5.t11.toNat]!]).length ≤ 1073741824 then none else none else none else bif decide (r5.t47[r5.t49.toNat]!.fKind = 3) then if (0 : Int) ≤ r5.t12 ∧ r5.t12 < (↑r5.t2.length : Int) then if (r5.b3.fVars ++ [r5.t2[r5.t12.toNat]!]).length ≤ 1073741824 then none else none else none else if (r5.b3.fVars ++ [m80 r5.t47[r5.t49.toNat]!.fInit]).length ≤ 1073741824 then none else none else none else match a20_2 (L20_2.mk r5.b0.fHatches (↑r5.b0.fHatches.length : Int) (0) r5.b0 r5.b1 (Abstract.mk r5.b2.fCount [] r5.b2.fTime []) (GState2.mk r5.b3.fVars r5.b3.fCount [] r5.b3.fTime) (Runner.mk r5.b0 [])) with | none => none | some r6 => bif decide (r6.t110 < r6.t109) then if (0 : Int) ≤ r6.t110 ∧ r6.t110 < (↑r6.t108.length : Int) then match m82 (GState2.mk r6.b3.fVars r6.b3.fCount [] r6.b3.fTime) (GTerm.mk r6.t108[r6.t110.toNat]!.fTerm.fOp r6.t108[r6.t110.toNat]!.fTerm.fN r6.t108[r6.t110.toNat]!.fTerm.fKids) with | none => none | some r7 => match m81 r7 r6.t108[r6.t110.toNat]!.fLow r6.t108[r6.t110.toNat]!.fHigh with | none => none | some r8 => if (r6.b4.fHatches ++ [r8.fst]).length ≤ 1073741824 then none else none else none else match r83 r6.b4 r6.b0.fBody (GState2.mk r6.b3.fVars r6.b3.fCount [] r6.b3.fTime) with | none => none | some r9 => bif bif r6.b1.fTimed then false else true then some ((Abstract.mk r9.fCount r9.fSlots (m80 (0)) r9.fVars, 0)) else some ((Abstract.mk r9.fCount r9.fSlots r9.fTime r9.fVars, 0))
theorem c20 (a0 : Flat) (a1 : View) (a2 : List Num) : callR Tryz.prog (F20) 300 (an20) 20 (A20.c (a0, a1, a2, ())) [] 0 d20.rd = m20 a0 a1 a2 := by kernel_rfl
def e20 : Orc → Orc := eZ Tryz.prog 20 A20 d20 (fun g => m20 g.1 g.2.1 g.2.2.1)
theorem e20_ok {F : Orc} (h : OrcG Tryz.prog F) : OrcG Tryz.prog (e20 F) := eZ_ok (hl_of F20_ok fa20 (fun _ => by kernel_rfl) (fun _ => by kernel_rfl) fun g => c20 g.1 g.2.1 g.2.2.1) ⟨_, Tryz.func20, by kernel_rfl, by kernel_rfl⟩ (fun _ => by kernel_rfl) h
theorem e20_skip {F : Orc} {f : Nat} (hne : Nat.beq f 20 = false) (h : PureF F f) : PureF (e20 F) f := orY_skip hne h
def F93 : Orc := or0
theorem F93_ok : OrcG Tryz.prog F93 := or0_g
abbrev E93 : Type := Int
def d93 : Td 0 E93 := .c [] [4] (.r 0 0 (ec 4 (qi .i64) en) sn (fun z => z.1.1) (fun x => ((x, ()), (()))) fun _ => rfl)
def A93 := (lc (qi .i64) (lc (qi .i64) ln))
def an93 : An := (.two .no (.two (.two (.rb [] 12) .no) .no))
theorem pu93  : ∀ f ∈ ([] : List Nat), PureF (F93) f := ob_nil
theorem fa93 : FnAn Tryz.prog (F93) 0 300 93 (an93) := fnAn_of (l := [(.skip, (.rb [] 12))]) Tryz.func93 (bodyOf_eq (by kernel_rfl)) (by kernel_rfl) (ob_cons pu93 ob_nil)
def m93 (a0 : Int) (a1 : Int) : Option E93 :=
 match bif decide (0 < a1) then if ¬a1 = (0 : Int) then some (decide (i64.wrap ((1099511627776 : Int).tdiv a1) < a0)) else none else some (false) with | none => none | some r1 => bif r1 then some (1099511627776) else some (i64.wrap (a0 * a1))
theorem c93 (a0 : Int) (a1 : Int) : callR Tryz.prog (F93) 300 (an93) 93 (A93.c (a0, a1, ())) [] 0 d93.rd = m93 a0 a1 := by kernel_rfl
def e93 : Orc → Orc := eL Tryz.prog 93 false A93 d93 (fun g => m93 g.1 g.2.1)
theorem e93_ok {F : Orc} (h : OrcG Tryz.prog F) : OrcG Tryz.prog (e93 F) := eL_ok (sc := scU) scU_ok (hl_of F93_ok fa93 (fun _ => by kernel_rfl) (fun _ => by kernel_rfl) fun g => c93 g.1 g.2.1) ⟨_, Tryz.func93, by kernel_rfl, by kernel_rfl⟩ (fun _ => by kernel_rfl) (fun _ => by kernel_rfl) h
def F25 : Orc := (e93 (e92 (e91 (e20 or0))))
theorem F25_ok : OrcG Tryz.prog F25 := (e93_ok (e92_ok (e91_ok (e20_ok or0_g))))
structure L25_1 where
 t10 : Int
 t13 : Int
 t58 : List Num
 t59 : Int
 t60 : Int
def d25_1 : Td 0 L25_1 := .c [] [10, 13, 58, 59, 60] (.r 0 0 (ec 10 (qi .i64) (ec 13 (qi .i64) (ec 58 (ql 34) (ec 59 (qi .i64) (ec 60 (qi .i64) en))))) sn (fun z => ⟨z.1.1, z.1.2.1, z.1.2.2.1, z.1.2.2.2.1, z.1.2.2.2.2.1⟩) (fun x => ((x.t10, x.t13, x.t58, x.t59, x.t60, ()), (()))) fun _ => rfl)
def n25_1 (p : L25_1) : Option (Option L25_1) :=
 bif decide (p.t60 < p.t59) then if (0 : Int) ≤ p.t60 ∧ p.t60 < (↑p.t58.length : Int) then match m91 p.t58[p.t60.toNat]! with | none => none | some r6 => match m93 p.t13 r6 with | none => none | some r7 => some (some (L25_1.mk p.t10 r7 p.t58 p.t59 (i64.wrap (p.t60 + 1)))) else none else some (none)
theorem q25_1 (p : L25_1) : execA Tryz.prog (F25) Tryz.f25.ntmps 300 (loopAt Tryz.f25 1) .no (Option L25_1) (d25_1.pat p) (kOn d25_1.rd) = n25_1 p := by kernel_rfl
def a25_1 : L25_1 → Option L25_1 := advG (n25_1)
structure L25_0 where
 t2 : List Num
 t10 : Int
 t11 : Int
 t32 : Int
 t33 : Int
 b0 : Abstract
def d25_0 : Td 0 L25_0 := .c [] [2, 8, 10, 11, 32, 33] (.r 0 1 (ec 2 (ql 34) (ec 8 (qp 0 0) (ec 10 (qi .i64) (ec 11 (qi .i64) (ec 32 (qi .i64) (ec 33 (qi .i64) en)))))) (sb 0 36 (lg 36) sn) (fun z => ⟨z.1.1, z.1.2.2.1, z.1.2.2.2.1, z.1.2.2.2.2.1, z.1.2.2.2.2.2.1, z.2.1⟩) (fun x => ((x.t2, (), x.t10, x.t11, x.t32, x.t33, ()), (x.b0, ()))) fun _ => rfl)
def n25_0 (p : L25_0) : Option (Option L25_0) :=
 bif decide (p.t33 < p.t32) then match m92 p.b0.fCount p.t33 with | none => none | some r1 => bif r1 then bif decide (p.t33 < (↑p.b0.fSlots.length : Int)) then if (0 : Int) ≤ p.t33 ∧ p.t33 < (↑p.b0.fSlots.length : Int) then match m91 p.b0.fSlots[p.t33.toNat]! with | none => none | some r2 => match m93 p.t11 r2 with | none => none | some r3 => some (some (L25_0.mk p.t2 (if 1099511627776 < i64.wrap (p.t10 + p.t11) then 1099511627776 else i64.wrap (p.t10 + p.t11)) r3 p.t32 (i64.wrap (p.t33 + 1)) p.b0)) else none else some (some (L25_0.mk p.t2 (if 1099511627776 < i64.wrap (p.t10 + p.t11) then 1099511627776 else i64.wrap (p.t10 + p.t11)) p.t11 p.t32 (i64.wrap (p.t33 + 1)) p.b0)) else bif decide (p.t33 < (↑p.b0.fSlots.length : Int)) then if (0 : Int) ≤ p.t33 ∧ p.t33 < (↑p.b0.fSlots.length : Int) then match m91 p.b0.fSlots[p.t33.toNat]! with | none => none | some r4 => match m93 p.t11 r4 with | none => none | some r5 => some (some (L25_0.mk p.t2 p.t10 r5 p.t32 (i64.wrap (p.t33 + 1)) p.b0)) else none else some (some (L25_0.mk p.t2 p.t10 p.t11 p.t32 (i64.wrap (p.t33 + 1)) p.b0)) else some (none)
theorem q25_0 (p : L25_0) : execA Tryz.prog (F25) Tryz.f25.ntmps 300 (loopAt Tryz.f25 0) .no (Option L25_0) (d25_0.pat p) (kOn d25_0.rd) = n25_0 p := by kernel_rfl
def a25_0 : L25_0 → Option L25_0 := advG (n25_0)
abbrev E25 : Type := Int × Int
def d25 : Td 0 E25 := .c [] [6, 7] (.r 0 0 (ec 6 (qi .i64) (ec 7 (qi .i64) en)) sn (fun z => (z.1.1, z.1.2.1)) (fun x => ((x.1, x.2, ()), (()))) fun _ => rfl)
def A25 := (lc (qg 26) (lc (qg 29) (lc (ql 34) ln)))
def an25 : An := (.two .no (.two .no (.two .no (.two .no (.two (.two .no (d25_0.lp a25_0 .no)) (.two .no (.two (.two .no (d25_1.lp a25_1 .no)) .no)))))))
theorem fa25 : FnAn Tryz.prog (F25) 0 300 25 (an25) := fnAn_of (l := [(loopAt Tryz.f25 0, (d25_0.lp a25_0 .no)), (loopAt Tryz.f25 1, (d25_1.lp a25_1 .no))]) Tryz.func25 (bodyOf_eq (by kernel_rfl)) (by kernel_rfl) (ob_cons ⟨d25_0.ok _, advG_ok (q25_0)⟩ (ob_cons ⟨d25_1.ok _, advG_ok (q25_1)⟩ ob_nil))
def m25 (a0 : Flat) (a1 : View) (a2 : List Num) : Option E25 :=
 match m20 a0 a1 a2 with | none => none | some r8 => bif bif decide (r8.snd = 0) then false else true then some ((0, r8.snd)) else match m91 r8.fst.fTime with | none => none | some r9 => match a25_0 (L25_0.mk a2 (0) r9 (i64.wrap ((↑r8.fst.fSlots.length : Int) + 1)) (0) r8.fst) with | none => none | some r10 => bif decide (r10.t33 < r10.t32) then match m92 r10.b0.fCount r10.t33 with | none => none | some r11 => bif r11 then bif decide (r10.t33 < (↑r10.b0.fSlots.length : Int)) then if (0 : Int) ≤ r10.t33 ∧ r10.t33 < (↑r10.b0.fSlots.length : Int) then match m91 r10.b0.fSlots[r10.t33.toNat]! with | none => none | some r12 => match m93 r10.t11 r12 with | none => none | some r13 => none else none else none else bif decide (r10.t33 < (↑r10.b0.fSlots.length : Int)) then if (0 : Int) ≤ r10.t33 ∧ r10.t33 < (↑r10.b0.fSlots.length : Int) then match m91 r10.b0.fSlots[r10.t33.toNat]! with | none => none | some r14 => match m93 r10.t11 r14 with | none => none | some r15 => none else none else none else match a25_1 (L25_1.mk r10.t10 (1) r10.t2 (↑r10.t2.length : Int) (0)) with | none => none | some r16 => bif decide (r16.t60 < r16.t59) then if (0 : Int) ≤ r16.t60 ∧ r16.t60 < (↑r16.t58.length : Int) then match m91 r16.t58[r16.t60.toNat]! with | none => none | some r17 => match m93 r16.t13 r17 with | none => none | some r18 => none else none else some ((if r16.t13 < r16.t10 then r16.t13 else r16.t10, 0))
theorem c25 (a0 : Flat) (a1 : View) (a2 : List Num) : callR Tryz.prog (F25) 300 (an25) 25 (A25.c (a0, a1, a2, ())) [] 0 d25.rd = m25 a0 a1 a2 := by kernel_rfl
def e25 : Orc → Orc := eL Tryz.prog 25 false A25 d25 (fun g => m25 g.1 g.2.1 g.2.2.1)
theorem e25_ok {F : Orc} (h : OrcG Tryz.prog F) : OrcG Tryz.prog (e25 F) := eL_ok (sc := scU) scU_ok (hl_of F25_ok fa25 (fun _ => by kernel_rfl) (fun _ => by kernel_rfl) fun g => c25 g.1 g.2.1 g.2.2.1) ⟨_, Tryz.func25, by kernel_rfl, by kernel_rfl⟩ (fun _ => by kernel_rfl) (fun _ => by kernel_rfl) h
def F26 : Orc := (e91 (e20 or0))
theorem F26_ok : OrcG Tryz.prog F26 := (e91_ok (e20_ok or0_g))
structure L26_0 where
 t12 : Bool
 t41 : List Num
 t42 : Int
 t43 : Int
 b0 : Observation
 b1 : Observation
def d26_0 : Td 0 L26_0 := .c [] [6, 11, 12, 41, 42, 43] (.t (TurnOk.c 1 0 [] 3) (.c [] [6, 11, 12, 41, 42, 43] (.r 0 3 (ec 6 (qp 0 0) (ec 11 (qp 1 0) (ec 12 qb (ec 41 (ql 34) (ec 42 (qi .i64) (ec 43 (qi .i64) en)))))) (sb 0 47 (lc qn (lc (qi .i64) ln)) (sb 1 47 (lc (qo 2) (lc (qi .i64) ln)) (sr 2 3 sn))) (fun z => ⟨z.1.2.2.1, z.1.2.2.2.1, z.1.2.2.2.2.1, z.1.2.2.2.2.2.1, (Observation.mk [] z.2.1.2.1), (Observation.mk z.2.2.2.1 z.2.2.1.2.1)⟩) (fun x => (((), (), x.t12, x.t41, x.t42, x.t43, ()), (((), x.b0.fTime, ()), ((), x.b1.fTime, ()), x.b1.fOutputs, ()))) fun _ => rfl)))
def n26_0 (p : L26_0) : Option (Option L26_0) :=
 bif decide (p.t43 < p.t42) then if (0 : Int) ≤ p.t43 ∧ p.t43 < (↑p.t41.length : Int) then match bif p.t12 then match m91 p.t41[p.t43.toNat]! with | none => none | some r1 => some (decide (r1 = 1)) else some (false) with | none => none | some r2 => if (p.b1.fOutputs ++ [p.t41[p.t43.toNat]!.fLow]).length ≤ 1073741824 then some (some (L26_0.mk r2 p.t41 p.t42 (i64.wrap (p.t43 + 1)) (Observation.mk [] p.b0.fTime) (Observation.mk (p.b1.fOutputs ++ [p.t41[p.t43.toNat]!.fLow]) p.b1.fTime))) else none else none else some (none)
def g26_0 : An := (.two .no (.two .no (.two (.two .no (.two (.rb [91] 12) .no)) .no)))
theorem q26_0 (p : L26_0) : execA Tryz.prog (F26) Tryz.f26.ntmps 300 (loopAt Tryz.f26 0) g26_0 (Option L26_0) (d26_0.pat p) (kOn d26_0.rd) = n26_0 p := by kernel_rfl
def a26_0 : L26_0 → Option L26_0 := advG (n26_0)
abbrev E26 : Type := Observation × Bool × Int
def d26 : Td 0 E26 := .c [] [6, 7, 8] (.t (TurnOk.c 0 0 [] 3) (.c [] [6, 7, 8] (.r 0 2 (ec 6 (qp 0 0) (ec 7 qb (ec 8 (qi .i64) en))) (sb 0 47 (lc (qo 1) (lc (qi .i64) ln)) (sr 1 3 sn)) (fun z => ((Observation.mk z.2.2.1 z.2.1.2.1), z.1.2.1, z.1.2.2.1)) (fun x => (((), x.2.1, x.2.2, ()), (((), x.1.fTime, ()), x.1.fOutputs, ()))) fun _ => rfl)))
def A26 := (lc (qg 26) (lc (qg 29) (lc (ql 34) ln)))
def an26 : An := (.two .no (.two .no (.two .no (.two .no (.two (.rb [91] 12) (.two (.two .no (d26_0.lp a26_0 g26_0)) .no))))))
theorem pu26  : ∀ f ∈ ([91] : List Nat), PureF (F26) f := (ob_cons (e91_pure (e20_skip (f := 91) rfl or0_pure)) ob_nil)
theorem fa26 : FnAn Tryz.prog (F26) 0 300 26 (an26) := fnAn_of (l := [(.skip, (.rb [91] 12)), (loopAt Tryz.f26 0, (d26_0.lp a26_0 g26_0)), (.skip, (.rb [91] 12))]) Tryz.func26 (bodyOf_eq (by kernel_rfl)) (by kernel_rfl) (ob_cons pu26 (ob_cons ⟨d26_0.ok _, advG_ok (q26_0)⟩ (ob_cons pu26 ob_nil)))
def m26 (a0 : Flat) (a1 : View) (a2 : List Num) : Option E26 :=
 match m20 a0 a1 a2 with | none => none | some r3 => bif bif decide (r3.snd = 0) then false else true then some ((Observation.mk [] (0), false, r3.snd)) else match match m91 r3.fst.fCount with | none => none | some r4 => bif decide (r4 = 1) then match m91 r3.fst.fTime with | none => none | some r5 => some (decide (r5 = 1)) else some (false) with | none => none | some r6 => match a26_0 (L26_0.mk r6 r3.fst.fSlots (↑r3.fst.fSlots.length : Int) (0) (Observation.mk [] (0)) (Observation.mk [] r3.fst.fTime.fLow)) with | none => none | some r7 => bif decide (r7.t43 < r7.t42) then if (0 : Int) ≤ r7.t43 ∧ r7.t43 < (↑r7.t41.length : Int) then match bif r7.t12 then match m91 r7.t41[r7.t43.toNat]! with | none => none | some r8 => some (decide (r8 = 1)) else some (false) with | none => none | some r9 => if (r7.b1.fOutputs ++ [r7.t41[r7.t43.toNat]!.fLow]).length ≤ 1073741824 then none else none else none else bif bif r7.t12 then false else true then some ((Observation.mk [] (0), false, 0)) else some ((r7.b1, true, 0))
theorem c26 (a0 : Flat) (a1 : View) (a2 : List Num) : callR Tryz.prog (F26) 300 (an26) 26 (A26.c (a0, a1, a2, ())) [] 0 d26.rd = m26 a0 a1 a2 := by kernel_rfl
def e26 : Orc → Orc := eL Tryz.prog 26 false A26 d26 (fun g => m26 g.1 g.2.1 g.2.2.1)
theorem e26_ok {F : Orc} (h : OrcG Tryz.prog F) : OrcG Tryz.prog (e26 F) := eL_ok (sc := scU) scU_ok (hl_of F26_ok fa26 (fun _ => by kernel_rfl) (fun _ => by kernel_rfl) fun g => c26 g.1 g.2.1 g.2.2.1) ⟨_, Tryz.func26, by kernel_rfl, by kernel_rfl⟩ (fun _ => by kernel_rfl) (fun _ => by kernel_rfl) h
def F36 : Orc := or0
theorem F36_ok : OrcG Tryz.prog F36 := or0_g
abbrev E36 : Type := Num
def d36 : Td 0 E36 := .c [] [2] (.r 0 1 (ec 2 (qp 0 0) en) (sb 0 34 (lg 34) sn) (fun z => z.2.1) (fun x => (((), ()), (x, ()))) fun _ => rfl)
def A36 := (lc (qi .i64) ln)
def an36 : An := .no
theorem fa36 : FnAn Tryz.prog (F36) 0 300 36 (an36) := fnAn_of (l := []) Tryz.func36 (bodyOf_eq (by kernel_rfl)) (by kernel_rfl) ob_nil
def m36 (a0 : Int) : E36 :=
 Num.mk a0 a0 (0)
theorem c36 (a0 : Int) : callR Tryz.prog (F36) 300 (an36) 36 (A36.c (a0, ())) [] 0 d36.rd = some (m36 a0) := by kernel_rfl
def e36 : Orc → Orc := eL Tryz.prog 36 false A36 d36 (fun g => some (m36 g.1))
theorem e36_ok {F : Orc} (h : OrcG Tryz.prog F) : OrcG Tryz.prog (e36 F) := eL_ok (sc := scU) scU_ok (hl_of F36_ok fa36 (fun _ => by kernel_rfl) (fun _ => by kernel_rfl) fun g => c36 g.1) ⟨_, Tryz.func36, by kernel_rfl, by kernel_rfl⟩ (fun _ => by kernel_rfl) (fun _ => by kernel_rfl) h
def F5 : Orc := (e36 (e35 (e31 (e29 (e28 (e26 (e25 (e24 (e20 (e18 or0))))))))))
theorem F5_ok : OrcG Tryz.prog F5 := (e36_ok (e35_ok (e31_ok (e29_ok (e28_ok (e26_ok (e25_ok (e24_ok (e20_ok (e18_okv gv18 or0_g))))))))))
structure L5_1 where
 t2 : Bool
 t102 : List Int
 t103 : Int
 t104 : Int
 b0 : GState
 b1 : Observation
 b2 : Abstract
def d5_1 : Td 0 L5_1 := .c [] [2, 7, 13, 16, 102, 103, 104] (.r 0 4 (ec 2 qb (ec 7 (qp 0 0) (ec 13 (qp 1 0) (ec 16 (qp 2 0) (ec 102 (ql 3) (ec 103 (qi .i64) (ec 104 (qi .i64) en))))))) (sb 0 56 (lg 56) (sb 1 47 (lc (qo 3) (lc (qi .i64) ln)) (sb 2 36 (lg 36) (sr 3 3 sn)))) (fun z => ⟨z.1.1, z.1.2.2.2.2.1, z.1.2.2.2.2.2.1, z.1.2.2.2.2.2.2.1, z.2.1, (Observation.mk z.2.2.2.2.1 z.2.2.1.2.1), z.2.2.2.1⟩) (fun x => ((x.t2, (), (), (), x.t102, x.t103, x.t104, ()), (x.b0, ((), x.b1.fTime, ()), x.b2, x.b1.fOutputs, ()))) fun _ => rfl)
def n5_1 (p : L5_1) : Option (Option L5_1) :=
 bif decide (p.t104 < p.t103) then if (0 : Int) ≤ p.t104 ∧ p.t104 < (↑p.t102.length : Int) then if (0 : Int) ≤ p.t104 ∧ p.t104 < (↑p.b2.fFinal.length : Int) then bif bif bif decide (p.b2.fFinal[p.t104.toNat]!.fLow = (m36 p.t102[p.t104.toNat]!).fLow) then bif decide (p.b2.fFinal[p.t104.toNat]!.fHigh = (m36 p.t102[p.t104.toNat]!).fHigh) then bif decide (p.b2.fFinal[p.t104.toNat]!.fStep = (m36 p.t102[p.t104.toNat]!).fStep) then true else false else false else false then false else true then some (none) else some (some (L5_1.mk p.t2 p.t102 p.t103 (i64.wrap (p.t104 + 1)) p.b0 p.b1 p.b2)) else none else none else some (none)
theorem q5_1 (p : L5_1) : execA Tryz.prog (F5) Tryz.f5.ntmps 300 (loopAt Tryz.f5 1) .no (Option L5_1) (d5_1.pat p) (kOn d5_1.rd) = n5_1 p := by kernel_rfl
def a5_1 : L5_1 → Option L5_1 := advG (n5_1)
structure L5_0 where
 t2 : Bool
 t9 : List Num
 t40 : List Int
 t41 : Int
 t42 : Int
 b0 : Flat
 b1 : Inputs
 b2 : GState
def d5_0 : Td 0 L5_0 := .c [] [2, 3, 4, 7, 9, 40, 41, 42] (.t (TurnOk.s 9 [] 34) (.c [] [2, 3, 4, 7, 9, 40, 41, 42] (.r 0 5 (ec 2 qb (ec 3 (qp 0 0) (ec 4 (qp 1 0) (ec 7 (qp 2 0) (ec 9 (qo 3) (ec 40 (qo 4) (ec 41 (qi .i64) (ec 42 (qi .i64) en)))))))) (sb 0 26 (lg 26) (sb 1 52 (lg 52) (sb 2 56 (lg 56) (sr 3 34 (sr 4 3 sn))))) (fun z => ⟨z.1.1, z.2.2.2.2.1, z.2.2.2.2.2.1, z.1.2.2.2.2.2.2.1, z.1.2.2.2.2.2.2.2.1, z.2.1, z.2.2.1, z.2.2.2.1⟩) (fun x => ((x.t2, (), (), (), (), (), x.t41, x.t42, ()), (x.b0, x.b1, x.b2, x.t9, x.t40, ()))) fun _ => rfl)))
def n5_0 (p : L5_0) : Option (Option L5_0) :=
 bif decide (p.t42 < p.t41) then if (0 : Int) ≤ p.t42 ∧ p.t42 < (↑p.t40.length : Int) then if 3 = 3 ∧ p.t42.toNat < p.t40.length then if (p.t9 ++ [m36 p.t40[p.t42.toNat]!]).length ≤ 1073741824 then some (some (L5_0.mk p.t2 (p.t9 ++ [m36 p.t40[p.t42.toNat]!]) p.t40 p.t41 (i64.wrap (p.t42 + 1)) p.b0 p.b1 p.b2)) else none else none else none else some (none)
theorem q5_0 (p : L5_0) : execA Tryz.prog (F5) Tryz.f5.ntmps 300 (loopAt Tryz.f5 0) .no (Option L5_0) (d5_0.pat p) (kOn d5_0.rd) = n5_0 p := by kernel_rfl
def a5_0 : L5_0 → Option L5_0 := advG (n5_0)
abbrev E5 : Type := Bool
def d5 : Td 0 E5 := .c [] [6] (.r 0 0 (ec 6 qb en) sn (fun z => z.1.1) (fun x => ((x, ()), (()))) fun _ => rfl)
def A5 := (lc (qg 26) (lc (qg 52) (lc qb ln)))
def an5 : An := (.two .no (.two .no (.two .no (.two .no (.two .no (.two .no (.two (.two .no (d5_0.lp a5_0 .no)) (.two .no (.two .no (.two .no (.two .no (.two (.two (.rb [] 100) .no) (.two (.two .no (d5_1.lp a5_1 .no)) .no)))))))))))))
theorem pu5  : ∀ f ∈ ([] : List Nat), PureF (F5) f := ob_nil
theorem fa5 : FnAn Tryz.prog (F5) 0 300 5 (an5) := fnAn_of (l := [(loopAt Tryz.f5 0, (d5_0.lp a5_0 .no)), (.skip, (.rb [] 100)), (loopAt Tryz.f5 1, (d5_1.lp a5_1 .no))]) Tryz.func5 (bodyOf_eq (by kernel_rfl)) (by kernel_rfl) (ob_cons ⟨d5_0.ok _, advG_ok (q5_0)⟩ (ob_cons pu5 (ob_cons ⟨d5_1.ok _, advG_ok (q5_1)⟩ ob_nil)))
def m5 (a0 : Flat) (a1 : Inputs) (a2 : Bool) : Option E5 :=
 bif bif m18 then false else true then some (false) else match m24 a0 (4096) (4096) (256) with | none => none | some r1 => bif bif r1 then false else true then some (true) else match m28 a0 a1 with | none => none | some r2 => bif bif decide (r2.snd = 0) then false else true then some (true) else match m35 a1.fSecret with | none => none | some r3 => if (r3 ++ a1.fRandom).length ≤ 1073741824 then match a5_0 (L5_0.mk a2 [] (r3 ++ a1.fRandom) (↑(r3 ++ a1.fRandom).length : Int) (0) a0 a1 r2.fst) with | none => none | some r4 => bif decide (r4.t42 < r4.t41) then if (0 : Int) ≤ r4.t42 ∧ r4.t42 < (↑r4.t40.length : Int) then if 3 = 3 ∧ r4.t42.toNat < r4.t40.length then if (r4.t9 ++ [m36 r4.t40[r4.t42.toNat]!]).length ≤ 1073741824 then none else none else none else none else match m26 r4.b0 (View.mk r4.b1.fPublic r4.t2) r4.t9 with | none => none | some r5 => match m20 r4.b0 (View.mk r4.b1.fPublic r4.t2) r4.t9 with | none => none | some r6 => match m25 r4.b0 (View.mk r4.b1.fPublic r4.t2) r4.t9 with | none => none | some r7 => match bif bif decide (i64.wrap (i64.wrap (r5.snd.snd + r6.snd) + r7.snd) = 0) then false else true then some (true) else bif bif r5.snd.fst then false else true then some (true) else bif bif decide (r7.fst = 1) then false else true then some (true) else some (bif decide ((↑r6.fst.fFinal.length : Int) = (↑r4.b2.fValues.length : Int)) then false else true) with | none => none | some r8 => bif r8 then some (false) else match a5_1 (L5_1.mk r4.t2 r4.b2.fValues (↑r4.b2.fValues.length : Int) (0) r4.b2 r5.fst r6.fst) with | none => none | some r9 => bif decide (r9.t104 < r9.t103) then if (0 : Int) ≤ r9.t104 ∧ r9.t104 < (↑r9.t102.length : Int) then if (0 : Int) ≤ r9.t104 ∧ r9.t104 < (↑r9.b2.fFinal.length : Int) then bif bif bif decide (r9.b2.fFinal[r9.t104.toNat]!.fLow = (m36 r9.t102[r9.t104.toNat]!).fLow) then bif decide (r9.b2.fFinal[r9.t104.toNat]!.fHigh = (m36 r9.t102[r9.t104.toNat]!).fHigh) then bif decide (r9.b2.fFinal[r9.t104.toNat]!.fStep = (m36 r9.t102[r9.t104.toNat]!).fStep) then true else false else false else false then false else true then some (false) else none else none else none else match m31 r9.b1 (m29 (Observation.mk r9.b0.fOutputs r9.b0.fTime) r9.t2) with | none => none | some r10 => some (r10) else none
theorem c5 (a0 : Flat) (a1 : Inputs) (a2 : Bool) : callR Tryz.prog (F5) 300 (an5) 5 (A5.c (a0, a1, a2, ())) [] 0 d5.rd = m5 a0 a1 a2 := by kernel_rfl
theorem h5 : HL Tryz.prog 5 A5 d5 (fun g => m5 g.1 g.2.1 g.2.2.1) := (hl_of F5_ok fa5 (fun _ => by kernel_rfl) (fun _ => by kernel_rfl) fun g => c5 g.1 g.2.1 g.2.2.1)
def e5 : Orc → Orc := eL Tryz.prog 5 false A5 d5 (fun g => m5 g.1 g.2.1 g.2.2.1)
end Go.Proofs.YtnfljbehcffmcaaGreat
end
noncomputable section
namespace Go.Proofs.YtnfljbehcffmcaaGreat
open Go Go.Iv
open Go.IntKind (i64)
theorem map_sg {vals : List Int} {i : Nat} (h : i < vals.length) : (vals.map sg)[i]! = sg vals[i]! := by
 rw [getElem!_pos _ i (by simpa using h), getElem!_pos vals i h, List.getElem_map]
theorem a150_0_eq (M : GTerm → GState2 → Option E150) {vals : List Int} {st : GState2} {ks : List GTerm} (hl : ks.length ≤ 1000000) (hK : ∀ k ∈ ks, M k st = some (sg (valT vals k), st) ∧ InT (valT vals k)) {H : Int} (h0 : 0 ≤ H) (h1 : H < ks.length) (z : Num) :
    a150_0 M ⟨ks, (ks.length : Int), 0, st, z, sg H, m224⟩ = some ⟨ks, (ks.length : Int), (ks.length : Int), st, z, sg H, sg (valT vals ks[H.toNat]!)⟩ := by
  have hm : InM H := by unfold InM; omega
  obtain ⟨v, e1, hv⟩ := loopI (rnd := n150_0 M) ks.length (fun i (b : Num) => ⟨ks, (ks.length : Int), (i : Int), st, z, sg H, b⟩) (fun i b => b = if (i : Int) ≤ H then m224 else sg (valT vals ks[H.toNat]!)) (fun i b hi hb => by
    have hw := w1L hi hl
    obtain ⟨k1, k2⟩ := hK _ (get_memL hi)
    have i1 : (i : Int) < (ks.length : Int) := by omega
    have i2 : (0 : Int) ≤ (i : Int) := by omega
    by_cases hc : H = (i : Int)
    · have ht : H.toNat = i := by omega
      rw [if_pos (by omega)] at hb
      have e92 : m92 (sg H) (i : Int) = some true := by rw [m92_sg hm, decide_eq_true hc]
      refine ⟨sg (valT vals ks[H.toNat]!), ?_, by rw [if_neg (by omega)]⟩
      unfold n150_0
      simp only [Int.toNat_natCast, i1, i2, decide_true, cond_true, and_self, if_true, e92, ht, GTerm.eta, k1, hb, m152_none k2.m, hw]
    · refine ⟨b, ?_, ?_⟩
      · unfold n150_0
        simp only [Int.toNat_natCast, i1, i2, decide_true, decide_false, cond_true, cond_false, and_self, if_true, m92_sg hm, hc, hw]
      · rw [hb]
        by_cases h : (i : Int) ≤ H
        · rw [if_pos h, if_pos (by omega)]
        · rw [if_neg h, if_neg (by omega)]) (fun b _ => by unfold n150_0; simp) (b := m224) (by rw [if_pos (by simpa using h0)])
  rw [if_neg (by omega)] at hv
  rw [← hv]
  exact e1
theorem s150_eq (M : GTerm → GState2 → Option E150) {vars : List GVar} (hv : VarsOk vars) {vals : List Int} (hV : VIn vars vals) {inp : Bool} {st : GState2} (hst : st.fVars = vals.map sg) (t : GTerm) (hf : formS vars inp t = true) (hs : (rngS vars t).isSome = true)
    (hM : ∀ k ∈ t.fKids, M k st = some (sg (valT vals k), st)) : s150 M t st = some (sg (valT vals t), st) := by
  obtain ⟨⟨g1, g2, g3⟩, h24⟩ := form_kn hf
  have hkv := kidV hv hV hf hs
  have K : ∀ i, i < t.fKids.length → M t.fKids[i]! st = some (sg (valT vals t.fKids[i]!), st) ∧ InT (valT vals t.fKids[i]!) := fun i hi => ⟨hM _ (get_memL hi), (hkv _ (get_memL hi)).2⟩
  rw [valT_eq]
  unfold s150 valO
  simp only [GTerm.eta, List.length_map]
  rcases kn_cases t.fOp g1 with ⟨h, e⟩ | ⟨h, e⟩ | ⟨h, e⟩ | ⟨h, e⟩ | ⟨h, e⟩ <;> rw [e] at g2 g3 <;> dsimp only at g2 g3
  · rcases h with h | h
    · simp only [h, decide_true, cond_true, if_true, m80_eq]
    · obtain ⟨q1, q2⟩ := h24 h
      have hl := hV.1
      simp only [h, Int.reduceEq, decide_false, decide_true, cond_true, cond_false, if_true, if_false, hst, List.length_map]
      rw [if_pos (by omega), map_sg (by omega)]
  · obtain ⟨k1, k2⟩ := K 0 (by omega)
    have m0 := mapV (vals := vals) (show 0 < t.fKids.length by omega)
    have i0 : (0 : Int) ≤ 0 ∧ (0 : Int) < (t.fKids.length : Int) := by omega
    have i1 : (t.fKids.length : Int) = 1 := by omega
    rcases h with h | h
    · simp only [h, Int.reduceEq, decide_false, decide_true, cond_true, cond_false, i0, i1, if_true, if_false, k1, m0, and_self, m154_neg k2.m, Int.reduceLT, Int.reduceLE]
    · simp only [h, Int.reduceEq, decide_false, decide_true, cond_true, cond_false, i0, i1, if_true, if_false, k1, m0, and_self, m154_not k2.m, Int.reduceLT, Int.reduceLE]
  · obtain ⟨k1, k2⟩ := K 0 (by omega)
    obtain ⟨l1, l2⟩ := K 1 (by omega)
    have m0 := mapV (vals := vals) (show 0 < t.fKids.length by omega)
    have m1 := mapV (vals := vals) (show 1 < t.fKids.length by omega)
    have hlen : (t.fKids.length : Int) = 2 := by omega
    have hb := m155_sg (o := t.fOp) ⟨h.1, h.2⟩ k2 l2
    have n0 : t.fOp ≠ 0 := by omega
    have n1 : t.fOp ≠ 24 := by omega
    have n2 : t.fOp ≠ 6 := by omega
    have n3 : t.fOp ≠ 7 := by omega
    have n4 : t.fOp ≠ 23 := by omega
    have n5 : t.fOp ≠ 25 := by omega
    simp only [n0, n1, n2, n3, n4, n5, decide_false, cond_false, hlen, if_false, k1, l1, hb, m0, m1, Int.reduceEq, Int.reduceLT, Int.reduceLE, and_self, if_true, ne_eq, not_false_eq_true]
  · obtain ⟨k1, k2⟩ := K 0 (by omega)
    obtain ⟨l1, l2⟩ := K 1 (by omega)
    obtain ⟨p1, p2⟩ := K 2 (by omega)
    have m0 := mapV (vals := vals) (show 0 < t.fKids.length by omega)
    have m1 := mapV (vals := vals) (show 1 < t.fKids.length by omega)
    have m2 := mapV (vals := vals) (show 2 < t.fKids.length by omega)
    have hlen : (t.fKids.length : Int) = 3 := by omega
    simp only [h, Int.reduceEq, decide_false, decide_true, cond_true, cond_false, hlen, if_true, if_false, k1, l1, p1, m0, m1, m2, m151_sg k2.m, Int.reduceLT, Int.reduceLE, and_self]
    by_cases hz : valT vals t.fKids[0]! = 0
    · simp only [hz, decide_true, decide_false, cond_true, cond_false, if_false, ne_eq, not_true]
    · simp only [hz, decide_true, decide_false, cond_true, cond_false, if_true, ne_eq, not_false_eq_true]
  · obtain ⟨k1, k2⟩ := K 0 (by omega)
    have m0 := mapV (vals := vals) (show 0 < t.fKids.length by omega)
    have w : i64.wrap ((t.fKids.length : Int) - (2 : Int)) = (t.fKids.length : Int) - (2 : Int) := wrap_id (by omega) (by omega)
    have hcl := m81_sg (x := valT vals t.fKids[0]!) (lo := 0) (hi := (t.fKids.length : Int) - (2 : Int)) k2.m (by unfold InM; omega) (by unfold InM; omega) (by omega)
    have hh : (0 : Int) ≤ heldI (valT vals t.fKids[0]!) 0 ((t.fKids.length : Int) - (2 : Int)) ∧ heldI (valT vals t.fKids[0]!) 0 ((t.fKids.length : Int) - (2 : Int)) ≤ (t.fKids.length : Int) - (2 : Int) := heldI_in (by omega)
    simp only [h, Int.reduceEq, decide_false, decide_true, cond_true, cond_false, if_true, if_false, k1, m0, w]
    rw [if_pos (by omega), hcl]
    generalize heldI (valT vals t.fKids[0]!) 0 ((t.fKids.length : Int) - (2 : Int)) = H at hh
    have hd : (t.fKids.drop 1).length = t.fKids.length - 1 := List.length_drop ..
    have e2 := a150_0_eq M (vals := vals) (st := st) (ks := t.fKids.drop 1) (by omega) (fun k hk => ⟨hM k (List.mem_of_mem_drop hk), (hkv k (List.mem_of_mem_drop hk)).2⟩) (H := H) hh.1 (by omega) ⟨0, 0, 0⟩
    dsimp only
    rw [if_pos (by omega)]
    rw [show m153 = m224 from rfl, e2]
    dsimp only
    rw [decide_eq_false (by omega), cond_false, mapV (by omega)]
    have e3 : (t.fKids.drop 1)[H.toNat]! = t.fKids[(1 + H).toNat]! := by
      rw [getElem!_pos _ H.toNat (by omega), getElem!_pos _ (1 + H).toNat (by omega), List.getElem_drop]
      congr 1
      omega
    rw [e3]
    rfl
theorem m150_eq {vars : List GVar} (hv : VarsOk vars) {vals : List Int} (hV : VIn vars vals) (inp : Bool) {st : GState2} (hst : st.fVars = vals.map sg) : ∀ (n : Nat) (t : GTerm), SizeOf.sizeOf t < n → formS vars inp t = true → (rngS vars t).isSome = true → m150 n t st = some (sg (valT vals t), st)
 | 0, _, h, _, _ => by omega
 | n + 1, t, h, hf, hs => s150_eq (m150 n) hv hV hst t hf hs (fun k hk => m150_eq hv hV inp hst n k (by have := GTerm.kids_lt hk; omega) (form_kid hf hk) (kidV hv hV hf hs k hk).1)
theorem m82_eq {vars : List GVar} (hv : VarsOk vars) {vals : List Int} (hV : VIn vars vals) (inp : Bool) {st : GState2} (hst : st.fVars = vals.map sg) (t : GTerm) (hc : termC vars inp t = 0) : m82 st t = some (sg (valT vals t)) := by
 unfold termC at hc
 cases hf : formS vars inp t with
 | false => rw [hf] at hc; simp at hc
 | true =>
  rw [hf] at hc
  cases hs : (rngS vars t).isSome with
  | false => rw [hs] at hc; simp at hc
  | true =>
   have e : r150 t st = some (sg (valT vals t), st) := lim_eq (SizeOf.sizeOf t + 1) fun n hn => m150_eq hv hV inp hst n t (by omega) hf hs
   unfold m82
   rw [GTerm.eta, e]
def absS (s : CS) : GState2 := ⟨s.vals.map sg, sg s.outs.length, s.outs.map sg, sg s.time⟩
theorem m40_eq {l : List Num} (h : l.length ≤ 1000000) : m40 l = some l := by unfold m40; rw [if_pos (by omega)]
theorem m235_eq {s : CS} (h1 : s.vals.length ≤ 1000000) (h2 : s.outs.length ≤ 1000000) : m235 (absS s) = some (absS s) := by
 unfold m235 absS
 dsimp only
 rw [m40_eq (by simpa using h1)]
 dsimp only
 rw [m40_eq (by simpa using h2)]
theorem m226_two : m226 [0, 0] = some 0 := m226_zero [0, 0] (by simp) (by simp)
theorem m155_add {x y : Int} (hx : 0 ≤ x ∧ x ≤ 268435456) (hy : 0 ≤ y ∧ y ≤ 134217728) : m155 8 (sg x) (sg y) = some (sg (x + y), 0) := by
 have w2 : i64.wrap (x + y) = x + y := wrap_id (by omega) (by omega)
 have v2 : m145 (x + y) = true := m145_eq (by unfold InM; omega)
 unfold m155
 simp only [m144_sg (x := x) (by unfold InM; omega), m144_sg (x := y) (by unfold InM; omega), m231_eq (o := 8) (by omega), m147_sg, cond_true, cond_false, Int.reduceEq, decide_false, decide_true, w2, v2, m226_two, m225_sg]
theorem m157_eq {s : CS} {c : Int} (hx : 0 ≤ s.time ∧ s.time ≤ 268435456) (hy : 0 ≤ c ∧ c ≤ 134217728) : m157 (absS s) c = some (absS (s.add c)) := by
 unfold m157 absS CS.add
 simp only [m80_eq, m155_add hx hy]
theorem set_map (vals : List Int) (i : Nat) (n : Int) : (vals.map sg).set i (sg n) = (vals.set i n).map sg := by rw [List.map_set]
theorem m158_eq {r : Runner} {s : CS} (hv : VarsOk r.fF.fVars) (hV : VIn r.fF.fVars s.vals) (hn : r.fF.fVars.length ≤ 1000000) (ho : s.outs.length ≤ 1000000) {v n : Int} (h1 : 0 ≤ v) (h2 : v < r.fF.fVars.length) (hm : InM n) : m158 r (absS s) v (sg n) = some (absS (setI r.fF s v n)) := by
 have hl := hV.1
 have hb := hv _ (get_memL (show v.toNat < r.fF.fVars.length by omega))
 unfold m158
 rw [m235_eq (by omega) ho]
 dsimp only
 rw [if_pos ⟨h1, h2⟩, m81_sg hm (by unfold InM; omega) (by unfold InM; omega) hb.2.1]
 dsimp only
 have hlen : (absS s).fVars.length = s.vals.length := by simp [absS]
 rw [if_pos (by rw [hlen]; omega), if_pos ⟨rfl, by rw [hlen]; omega⟩]
 simp only [absS, set_map]
 rfl
theorem m159_eq {s : CS} {n : Int} (h1 : s.vals.length ≤ 1000000) (h2 : s.outs.length ≤ 1000) : m159 (absS s) (sg n) = some (absS ⟨s.vals, s.outs ++ [n], s.time⟩) := by
 have hm : InM (s.outs.length : Int) := by unfold InM; omega
 obtain ⟨v, e1, hv⟩ := loopI (rnd := n159_0) s.outs.length (fun i (_ : Unit) => ⟨(s.outs.length : Int), (i : Int), absS s, sg n, ⟨[], ⟨0, 0, 0⟩, [], ⟨0, 0, 0⟩⟩⟩) (fun i _ => True) (fun i b hi _ => by
  have hw := w1L hi (by omega)
  refine ⟨(), ?_, trivial⟩
  unfold n159_0
  dsimp only [absS]
  rw [decide_eq_true (by omega), cond_true, m92_sg hm]
  simp only [show ¬ (s.outs.length : Int) = (i : Int) by omega, decide_false, cond_false, hw]) (fun b _ => by unfold n159_0; simp) (b := ()) trivial
 have e1' : a159_0 ⟨(s.outs.length : Int), 0, absS s, sg n, ⟨[], ⟨0, 0, 0⟩, [], ⟨0, 0, 0⟩⟩⟩ = some ⟨(s.outs.length : Int), (s.outs.length : Int), absS s, sg n, ⟨[], ⟨0, 0, 0⟩, [], ⟨0, 0, 0⟩⟩⟩ := e1
 unfold m159
 rw [m235_eq h1 (by omega)]
 dsimp only
 rw [show ((absS s).fSlots.length : Int) = (s.outs.length : Int) by simp [absS], e1']
 dsimp only
 rw [decide_eq_false (by omega), cond_false, if_pos (by simp [absS]; omega)]
 dsimp only [absS]
 rw [m80_eq, m155_add (by omega) (by omega)]
 simp
theorem sorted_rise {l : List Int} (h : riseB l = true) : l.mergeSort (fun x y => decide (x ≤ y)) = l := by
 apply List.mergeSort_of_pairwise
 rw [List.pairwise_iff_getElem]
 intro i j hi hj hij
 have := rise_lt h hij hj
 rw [getElem!_pos l i hi, getElem!_pos l j hj] at this
 simp
 omega
theorem m161_eq {l : List Int} {t : Int} (hl : 1 ≤ l.length ∧ l.length ≤ 32) (h0 : (0 : Int) ≤ l[0]!) (hr : riseB l = true) (h6 : l[l.length - 1]! ≤ 67108864) (ht : InM t) : m161 (sg t) l = some (sg (settI l t), 0) := by
  have hbd : ∀ i, i < l.length → InM l[i]! := fun i hi => by
    have a1 : l[0]! ≤ l[i]! := by
      by_cases h : i = 0
      · subst h; exact Int.le_refl _
      · exact Int.le_of_lt (rise_lt hr (by omega) hi)
    have a2 : l[i]! ≤ l[l.length - 1]! := by
      by_cases h : i = l.length - 1
      · subst h; exact Int.le_refl _
      · exact Int.le_of_lt (rise_lt hr (by omega) (by omega))
    unfold InM; omega
  obtain ⟨v, e1, hv⟩ := loopI (rnd := n161_0) l.length (fun i (b : Num × Num) => ⟨l, (l.length : Int), (i : Int), b.1, ⟨0, 0, 0⟩, b.2⟩)
    (fun i b => (b = (sg t, m224) ∧ ∀ j, j < i → l[j]! < t) ∨ ∃ j, j < i ∧ b = (m224, sg l[j]!) ∧ t ≤ l[j]! ∧ ∀ k, k < j → l[k]! < t) (fun i b hi hb => by
    have hw := w1L hi (show l.length ≤ 1000000 by omega)
    have i1 : (i : Int) < (l.length : Int) := by omega
    have i2 : (0 : Int) ≤ (i : Int) := by omega
    have hm := m145_eq (hbd i hi)
    have h33 : 3 = 3 ∧ i < l.length := ⟨rfl, hi⟩
    rcases hb with ⟨rfl, hb⟩ | ⟨j, h1, rfl, h3, h4⟩
    · by_cases hc : t ≤ l[i]!
      · refine ⟨(m224, sg l[i]!), ?_, .inr ⟨i, by omega, rfl, hc, hb⟩⟩
        unfold n161_0
        simp only [Int.toNat_natCast, i1, i2, h33, hm, hw, decide_true, cond_true, cond_false, and_self, if_true, m146_high hc, m147_sg, m149_eq, m148_none]
      · refine ⟨(sg t, m224), ?_, .inl ⟨rfl, fun j hj => ?_⟩⟩
        · unfold n161_0
          simp only [Int.toNat_natCast, i1, i2, h33, hm, hw, decide_true, cond_true, cond_false, and_self, if_true, m146_low (show l[i]! < t by omega), m147_none]
        · by_cases hji : j = i
          · subst hji; omega
          · exact hb j (by omega)
    · refine ⟨(m224, sg l[j]!), ?_, .inr ⟨j, by omega, rfl, h3, h4⟩⟩
      unfold n161_0
      simp only [Int.toNat_natCast, i1, i2, h33, hm, hw, decide_true, cond_true, cond_false, and_self, if_true, m146_none, m147_none]) (fun b _ => by unfold n161_0; simp) (b := (sg t, m224)) (.inl ⟨rfl, fun j hj => by omega⟩)
  have e1' : a161_0 ⟨l, (l.length : Int), 0, sg t, ⟨0, 0, 0⟩, m224⟩ = some ⟨l, (l.length : Int), (l.length : Int), v.1, ⟨0, 0, 0⟩, v.2⟩ := e1
  have e35 : m35 l = some l := by unfold m35; rw [if_pos (by omega)]
  have e237 : m237 l = some l := by unfold m237; rw [if_pos (by omega), sorted_rise hr]
  unfold m161
  rw [m144_sg ht]
  dsimp only
  rw [e35]
  simp only [cond_true, cond_false]
  rw [e237]
  dsimp only
  rw [e1']
  dsimp only
  rw [decide_eq_false (by omega), cond_false]
  rcases hv with ⟨rfl, hv⟩ | ⟨j, h1, rfl, h3, h4⟩
  · rw [settI_none hv, m148_none]
  · rw [settI_at h1 h3 h4, m148_none2]
theorem Bud.small {f : Flat} {top : Bool} {x : GStep} {l : List GStep} {b : CS} (hb : Bud f top (x :: l) b) : (x.fDo = 4 ∨ b.time + x.fCost ≤ 134217728) ∧ (b.outs.length : Int) ≤ 8 ∧ b.time ≤ 134217728 := by
  have ht := hb.t
  have ht0 := hb.t0
  obtain ⟨p1, p2, p3⟩ := hb.pos
  have hou := hb.o
  have ho := hb.ok
  have hc := ho.cost
  rw [(uO_cons x _).2] at ht
  rw [(uO_cons x _).1] at hou
  have e1 : 0 ≤ (uO x).1 ∧ 0 ≤ (uO x).2 ∧ (x.fDo = 4 ∨ x.fCost ≤ (uO x).2) := by
    unfold uO
    by_cases a1 : x.fDo = 1
    · rw [if_pos a1]; exact ⟨by show (0 : Int) ≤ 1; decide, hc.1, .inr (Int.le_refl _)⟩
    by_cases a3 : x.fDo = 3
    · rw [if_neg a1, if_pos a3]; dsimp only; omega
    by_cases a4 : x.fDo = 4
    · rw [if_neg a1, if_neg a3, if_pos a4]
      have hn := ho.n4 a4
      exact ⟨Int.mul_nonneg hn.1 p1.1, Int.mul_nonneg hn.1 (by omega), .inl a4⟩
    · rw [if_neg a1, if_neg a3, if_neg a4]; exact ⟨Int.le_refl _, hc.1, .inr (Int.le_refl _)⟩
  omega
theorem m151_abs {f : Flat} (hv : VarsOk f.fVars) {s : CS} (hV : VIn f.fVars s.vals) {t : GTerm} (hc : termC f.fVars false t = 0) : m82 (absS s) t = some (sg (valT s.vals t)) ∧ m151 (sg (valT s.vals t)) = some (decide (valT s.vals t = 0), decide (valT s.vals t ≠ 0)) ∧ InT (valT s.vals t) := by
 obtain ⟨_, h1, h2⟩ := r181_eq hv hV false t hc
 have hT : InT (valT s.vals t) := ⟨h1, h2⟩
 exact ⟨m82_eq hv hV false rfl t hc, m151_sg hT.m, hT⟩
theorem s160_eq (M83 : Runner → (List GStep) → GState2 → Option E83) (M156 : Runner → GStep → GState2 → Option E156) (M160 : Runner → GStep → GState2 → Option E160) {r : Runner} (hv : VarsOk r.fF.fVars) {hs : List Int} {x : GStep} {s : CS} (hV : VIn r.fF.fVars s.vals) (hc : termC r.fF.fVars false x.fTerm = 0)
    (h1 : M83 r x.fThen (absS s) = some (absS (runC r.fF hs x.fThen s))) (h2 : M83 r x.fElse (absS s) = some (absS (runC r.fF hs x.fElse s))) :
    s160 M83 M156 M160 r x (absS s) = some (absS (if valT s.vals x.fTerm ≠ 0 then runC r.fF hs x.fThen s else runC r.fF hs x.fElse s)) := by
  obtain ⟨e1, e2, _⟩ := m151_abs hv hV hc
  unfold s160
  rw [GTerm.eta, e1]
  dsimp only
  rw [e2]
  dsimp only
  by_cases hz : valT s.vals x.fTerm = 0
  · simp only [hz, h2, decide_true, decide_false, cond_true, cond_false, ne_eq, not_true, if_false]
  · simp only [hz, h1, decide_true, decide_false, cond_true, cond_false, ne_eq, not_false_eq_true, if_true]
theorem a156_1_eq (M83 : Runner → (List GStep) → GState2 → Option E83) (M156 : Runner → GStep → GState2 → Option E156) (M160 : Runner → GStep → GState2 → Option E160) (z b : GState2) : a156_1 M83 M156 M160 ⟨[], 0, 0, z, b⟩ = some ⟨[], 0, 0, z, b⟩ := advG_stop (fun r => by unfold n156_1; simp)
theorem s156_eq (M83 : Runner → (List GStep) → GState2 → Option E83) (M156 : Runner → GStep → GState2 → Option E156) (M160 : Runner → GStep → GState2 → Option E160) {r : Runner} (hv : VarsOk r.fF.fVars) (hn : r.fF.fVars.length ≤ 1000000) {hs : List Int} {x : GStep} (hN : 0 ≤ x.fN ∧ x.fN ≤ 4096) {s : CS} (h : BudL r.fF x x.fN.toNat s)
    (h1 : ∀ s, Bud r.fF false x.fThen s → M83 r x.fThen (absS s) = some (absS (runC r.fF hs x.fThen s))) :
    s156 M83 M156 M160 r x (absS s) = some (absS (rndC (runC r.fF hs x.fThen) x.fTerm x.fCost x.fN.toNat s)) := by
  have add : ∀ {n : Nat} {b : CS}, BudL r.fF x (n + 1) b → m157 (absS b) x.fCost = some (absS (b.add x.fCost)) ∧ (b.outs.length : Int) ≤ 8 := fun {n b} hb => by
    have hbb := hb.body
    have ht := hbb.t
    have ho := hbb.o
    have hp := uSs_pos r.fF _ _ _ (Nat.lt_succ_self _) hb.hc
    have h0 := hb.t0
    have hcc := hb.cost
    simp only [CS.add] at ht ho
    exact ⟨m157_eq (by omega) (by omega), by omega⟩
  obtain ⟨i, v, e1, hV, hc⟩ := loopJ (rnd := n156_0 M83 M156 M160) x.fN.toNat (fun i (b : CS × GState2) => ⟨[], true, x.fN, (i : Int), r, x, absS b.1, ⟨[], b.2.fCount, [], b.2.fTime⟩⟩)
    (fun i b => BudL r.fF x (x.fN.toNat - i) b.1 ∧ rndC (runC r.fF hs x.fThen) x.fTerm x.fCost (x.fN.toNat - i) b.1 = rndC (runC r.fF hs x.fThen) x.fTerm x.fCost x.fN.toNat s) (fun i b => valT b.1.vals x.fTerm = 0) (fun i b hi hb => by
    obtain ⟨b, z⟩ := b
    obtain ⟨hb, hr⟩ := hb
    dsimp only at hb hr
    obtain ⟨k, hk⟩ : ∃ k, x.fN.toNat - i = k + 1 := ⟨x.fN.toNat - i - 1, by omega⟩
    have hk2 : x.fN.toNat - (i + 1) = k := by omega
    rw [hk] at hb hr
    rw [rndC] at hr
    have hw : i64.wrap ((i : Int) + 1) = ((i + 1 : Nat) : Int) := by rw [wrap_id (by omega) (by omega)]; omega
    have i1 : (i : Int) < x.fN := by omega
    obtain ⟨ea, ho8⟩ := add hb
    obtain ⟨ev, et, _⟩ := m151_abs hv (s := b.add x.fCost) hb.vals hb.term
    have e := h1 _ hb.body
    have ec := m235_eq (s := b.add x.fCost) (by have := hb.vals.1; simp only [CS.add]; omega) (by simp only [CS.add]; omega)
    have hvt : valT (b.add x.fCost).vals x.fTerm = valT b.vals x.fTerm := rfl
    rw [hvt] at ev et
    by_cases hz : valT b.vals x.fTerm = 0
    · refine .inr ⟨?_, hz⟩
      rw [hz] at ev et
      simp only [ne_eq, not_true, decide_true, decide_false] at et
      unfold n156_0
      simp only [i1, decide_true, cond_true, GTerm.eta, ea, ev, et, ec, ne_eq, not_true, decide_false, cond_false, List.nil_append, List.length_singleton]
      rw [if_pos (by decide)]
    · rw [if_neg hz] at hr
      refine .inl ⟨(runC r.fF hs x.fThen (b.add x.fCost), z), ?_, by rw [hk2]; exact hb.next hv hs, by rw [hk2]; exact hr⟩
      unfold n156_0
      simp only [i1, decide_true, cond_true, GTerm.eta, ea, ev, et, hz, ne_eq, not_false_eq_true, decide_false, cond_false, e, GStep.eta, hw]) (fun b _ => by
      unfold n156_0
      dsimp only
      rw [decide_eq_false (by omega)]; rfl) (b := (s, ⟨[], ⟨0, 0, 0⟩, [], ⟨0, 0, 0⟩⟩)) ⟨h, rfl⟩
  obtain ⟨b, z⟩ := v
  have e1' : a156_0 M83 M156 M160 ⟨[], true, x.fN, 0, r, x, absS s, ⟨[], ⟨0, 0, 0⟩, [], ⟨0, 0, 0⟩⟩⟩ = some ⟨[], true, x.fN, (i : Int), r, x, absS b, ⟨[], z.fCount, [], z.fTime⟩⟩ := e1
  unfold s156
  rw [GTerm.eta, GStep.eta, e1']
  obtain ⟨hb, hr⟩ := hV
  dsimp only at hb hr
  rw [← hr]
  rcases hc with rfl | ⟨hi, hz⟩
  · dsimp only
    rw [decide_eq_false (by omega), cond_false, Nat.sub_self, rndC]
    simp only [cond_true, List.nil_append, List.length_singleton, List.drop_one, List.tail_cons, List.length_nil]
    rw [if_pos (by decide), if_pos (by decide), if_pos (by decide), if_pos (by decide)]
    rw [show (((0 : Nat) : Int)) = 0 from rfl, show ([absS b] : List GState2)[0]! = absS b from rfl, a156_1_eq]
    simp
  · obtain ⟨k, hk⟩ : ∃ k, x.fN.toNat - i = k + 1 := ⟨x.fN.toNat - i - 1, by omega⟩
    rw [hk] at hb ⊢
    dsimp only at hz
    rw [rndC, if_pos hz]
    obtain ⟨ea, ho8⟩ := add hb
    obtain ⟨ev, et, _⟩ := m151_abs hv (s := b.add x.fCost) hb.vals hb.term
    have ec := m235_eq (s := b.add x.fCost) (by have := hb.vals.1; simp only [CS.add]; omega) (by simp only [CS.add]; omega)
    have hvt : valT (b.add x.fCost).vals x.fTerm = valT b.vals x.fTerm := rfl
    rw [hvt] at ev et
    dsimp only
    rw [decide_eq_true (by omega), cond_true, ea]
    dsimp only
    rw [GTerm.eta, ev]
    dsimp only
    rw [et]
    simp only [hz, ec, decide_true, cond_true, cond_false, ne_eq, not_true, decide_false, List.nil_append, List.length_singleton, List.drop_one, List.tail_cons, List.length_nil]
    rw [if_pos (by decide), if_pos (by decide), if_pos (by decide), if_pos (by decide)]
    rw [show (((0 : Nat) : Int)) = 0 from rfl, show ([absS (b.add x.fCost)] : List GState2)[0]! = absS (b.add x.fCost) from rfl, a156_1_eq]
    simp
theorem s83_eq (M83 : Runner → (List GStep) → GState2 → Option E83) (M156 : Runner → GStep → GState2 → Option E156) (M160 : Runner → GStep → GState2 → Option E160) {r : Runner} (hv : VarsOk r.fF.fVars) (hn : r.fF.fVars.length ≤ 1000000) {hs : List Int} (hh : hs.length = r.fF.fHatches.length) (hrh : r.fHatches = hs.map sg) (hsT : ∀ x ∈ hs, InT x)
    {top : Bool} {l : List GStep} (hl : l.length ≤ 1000000) {s : CS} (h : Bud r.fF top l s)
    (h1 : ∀ x ∈ l, ∀ s, x.fDo = 3 → VIn r.fF.fVars s.vals → termC r.fF.fVars false x.fTerm = 0 → Bud r.fF false x.fThen s → Bud r.fF false x.fElse s → M160 r x (absS s) = some (absS (if valT s.vals x.fTerm ≠ 0 then runC r.fF hs x.fThen s else runC r.fF hs x.fElse s)))
    (h3 : ∀ x ∈ l, ∀ s, x.fDo = 4 → BudL r.fF x x.fN.toNat s → M156 r x (absS s) = some (absS (rndC (runC r.fF hs x.fThen) x.fTerm x.fCost x.fN.toNat s))) :
    s83 M83 M156 M160 r l (absS s) = some (absS (runC r.fF hs l s)) := by
  obtain ⟨v, e1, hV⟩ := loopI (rnd := n83_0 M83 M156 M160) l.length (fun i (b : CS × GState2) => ⟨l, (l.length : Int), (i : Int), r, absS b.1, ⟨[], b.2.fCount, [], b.2.fTime⟩⟩)
    (fun i b => Bud r.fF top (l.drop i) b.1 ∧ runC r.fF hs (l.drop i) b.1 = runC r.fF hs l s) (fun i b hi hb => by
    obtain ⟨b, z⟩ := b
    obtain ⟨hb, hr⟩ := hb
    dsimp only at hb hr
    rw [drop_cons hi] at hb hr
    rw [runC_cons] at hr
    have hm := get_memL hi
    generalize hx : l[i]! = x at *
    refine ⟨(stepO r.fF hs (runC r.fF hs x.fThen) (runC r.fF hs x.fElse) x b, z), ?_, hb.next hv, hr⟩
    have ho := hb.ok
    obtain ⟨hsm, ho8, ht8⟩ := hb.small
    have hw := w1L hi hl
    have i1 : (i : Int) < (l.length : Int) := by omega
    have i2 : (0 : Int) ≤ (i : Int) := by omega
    have hc := ho.cost
    have ht0 := hb.t0
    have hvl := hb.vals.1
    unfold n83_0
    dsimp only
    simp only [Int.toNat_natCast, i1, i2, hx, decide_true, cond_true, and_self, if_true, GStep.eta, GTerm.eta, hw]
    unfold stepO
    by_cases d4 : x.fDo = 4
    · have e := h3 x hm b d4 (hb.loop d4)
      simp only [d4, Int.reduceEq, decide_true, cond_true, if_true, e]
    have ea := m157_eq (s := b) (c := x.fCost) (by omega) (by omega)
    obtain ⟨ev, _, evT⟩ := m151_abs hv (s := b.add x.fCost) hb.vals ho.term
    have hvt : valT (b.add x.fCost).vals x.fTerm = valT b.vals x.fTerm := rfl
    rw [hvt] at ev evT
    simp only [d4, decide_false, cond_false, ea, if_false]
    by_cases d0 : x.fDo = 0
    · obtain ⟨v1, v2⟩ := ho.var (.inl d0)
      simp only [d0, Int.reduceEq, decide_true, decide_false, cond_true, cond_false, if_true, if_false, ev, m158_eq (s := b.add x.fCost) hv hb.vals hn (by simp only [CS.add]; omega) v1 v2 evT.m]
    by_cases d1 : x.fDo = 1
    · have e := m159_eq (s := b.add x.fCost) (n := valT b.vals x.fTerm) (by simp only [CS.add]; omega) (by simp only [CS.add]; omega)
      simp only [d1, Int.reduceEq, decide_true, decide_false, cond_true, cond_false, if_true, if_false, ev, e]
      rfl
    by_cases d5 : x.fDo = 5
    · obtain ⟨v1, v2⟩ := ho.var (.inr d5)
      obtain ⟨n1, n2⟩ := ho.n5 d5
      have hlt : x.fN.toNat < hs.length := by omega
      have hT := hsT _ (get_memL hlt)
      have e := m158_eq (s := b.add x.fCost) (n := hs[x.fN.toNat]!) hv hb.vals hn (by simp only [CS.add]; omega) v1 v2 hT.m
      simp only [d5, Int.reduceEq, decide_true, decide_false, cond_true, cond_false, if_true, if_false, hrh, List.length_map]
      rw [if_pos (by omega), map_sg hlt, e]
    by_cases d3 : x.fDo = 3
    · have e := h1 x hm (b.add x.fCost) d3 hb.vals ho.term (hb.sub d3).1 (hb.sub d3).2
      simp only [d3, Int.reduceEq, decide_true, decide_false, cond_true, cond_false, if_true, if_false, e]
      rfl
    by_cases d6 : x.fDo = 6
    · obtain ⟨_, q2, q3, q4, q5⟩ := ho.last6 d6
      have e := m161_eq (t := b.time + x.fCost) q2 q3 q4 q5 (by unfold InM; omega)
      simp only [d6, Int.reduceEq, decide_true, decide_false, cond_true, cond_false, if_true, if_false]
      rw [show (absS (b.add x.fCost)).fTime = sg (b.time + x.fCost) from rfl, e]
      rfl
    · simp only [d0, d1, d3, d5, d6, decide_false, cond_false, if_false]) (fun b _ => by unfold n83_0; simp) (b := (s, ⟨[], ⟨0, 0, 0⟩, [], ⟨0, 0, 0⟩⟩)) ⟨by rw [List.drop_zero]; exact h, by rw [List.drop_zero]⟩
  obtain ⟨b, z⟩ := v
  have e1' : a83_0 M83 M156 M160 ⟨l, (l.length : Int), 0, r, absS s, ⟨[], ⟨0, 0, 0⟩, [], ⟨0, 0, 0⟩⟩⟩ = some ⟨l, (l.length : Int), (l.length : Int), r, absS b, ⟨[], z.fCount, [], z.fTime⟩⟩ := e1
  have hr := hV.2
  dsimp only at hr
  rw [List.drop_length, runC_nil] at hr
  unfold s83
  rw [e1', ← hr]
  dsimp only
  rw [decide_eq_false (by omega), cond_false]
theorem m83_eq {r : Runner} (hv : VarsOk r.fF.fVars) (hn : r.fF.fVars.length ≤ 1000000) {hs : List Int} (hh : hs.length = r.fF.fHatches.length) (hrh : r.fHatches = hs.map sg) (hsT : ∀ x ∈ hs, InT x) : ∀ n : Nat,
    (∀ (top : Bool) (l : List GStep) (s : CS), 2 * SizeOf.sizeOf l < n → nSs l ≤ 1000000 → Bud r.fF top l s → m83 n r l (absS s) = some (absS (runC r.fF hs l s))) ∧
    (∀ (x : GStep) (s : CS), 2 * SizeOf.sizeOf x.fThen + 1 < n → nSs x.fThen ≤ 1000000 → (0 ≤ x.fN ∧ x.fN ≤ 4096) → BudL r.fF x x.fN.toNat s → m156 n r x (absS s) = some (absS (rndC (runC r.fF hs x.fThen) x.fTerm x.fCost x.fN.toNat s))) ∧
    (∀ (x : GStep) (s : CS), 2 * SizeOf.sizeOf x.fThen + 1 < n → 2 * SizeOf.sizeOf x.fElse + 1 < n → nSs x.fThen ≤ 1000000 → nSs x.fElse ≤ 1000000 → VIn r.fF.fVars s.vals → termC r.fF.fVars false x.fTerm = 0 → Bud r.fF false x.fThen s → Bud r.fF false x.fElse s → m160 n r x (absS s) = some (absS (if valT s.vals x.fTerm ≠ 0 then runC r.fF hs x.fThen s else runC r.fF hs x.fElse s)))
  | 0 => ⟨fun _ _ _ h => by omega, fun _ _ h => by omega, fun _ _ h => by omega⟩
  | n + 1 => by
    obtain ⟨i1, i2, i3⟩ := m83_eq hv hn hh hrh hsT n
    refine ⟨fun top l s h hN hb0 => ?_, fun x s h hN hx hb => ?_, fun x s h h' hN hN' hV hc hb hb' => ?_⟩
    · refine s83_eq (m83 n) (m156 n) (m160 n) hv hn hh hrh hsT (Nat.le_trans (nSs_len l) hN) hb0 (fun x hx s h3 hV hc hb hb' => ?_) (fun x hx s h4 hb => ?_)
      · have := sizeOf_then hx
        have := nSs_sub hx
        exact i3 x s (by omega) (by omega) (by omega) (by omega) hV hc hb hb'
      · have := (sizeOf_then hx).1
        exact i2 x s (by omega) (Nat.le_trans (nSs_sub hx).1 hN) ((stOk_mem hb0.hc hx).choose_spec.n4 h4) hb
    · exact s156_eq (m83 n) (m156 n) (m160 n) hv hn hx hb (fun s hb => i1 false x.fThen s (by omega) hN hb)
    · exact s160_eq (m83 n) (m156 n) (m160 n) hv hV hc (i1 false x.fThen s (by omega) hN hb) (i1 false x.fElse s (by omega) hN' hb')
def kd (k : Int) (v : GVar) : Bool := decide (v.fKind = k)
def cnt (vars : List GVar) (k : Int) (i : Nat) : Nat := ((vars.take i).filter (kd k)).length
theorem cnt_succ {vars : List GVar} {i : Nat} (h : i < vars.length) (k : Int) : cnt vars k (i + 1) = cnt vars k i + if vars[i]!.fKind = k then 1 else 0 := by
  unfold cnt
  rw [take_succL h, List.filter_append, List.length_append]
  by_cases hk : vars[i]!.fKind = k
  · rw [if_pos hk]; simp only [List.filter_cons, List.filter_nil, kd, hk, decide_true, if_true, List.length_singleton]
  · rw [if_neg hk]; simp only [List.filter_cons, List.filter_nil, kd, hk, decide_false, Bool.false_eq_true, if_false, List.length_nil]
theorem cnt_le (vars : List GVar) (k : Int) (i : Nat) : cnt vars k i ≤ i := by
 unfold cnt
 exact Nat.le_trans (List.length_filter_le _ _) (by rw [List.length_take]; omega)
theorem cnt_mono {vars : List GVar} {k : Int} {i j : Nat} (hij : i ≤ j) (hj : j ≤ vars.length) : cnt vars k i ≤ cnt vars k j := by
  induction j with
  | zero => have : i = 0 := by omega
            subst this; exact Nat.le_refl _
  | succ j ih =>
    by_cases h : i = j + 1
    · subst h; exact Nat.le_refl _
    · rw [cnt_succ (by omega)]
      have := ih (by omega) (by omega)
      omega
theorem cnt_len (vars : List GVar) (k : Int) : cnt vars k vars.length = (vars.filter (kd k)).length := by unfold cnt; rw [List.take_length]
theorem filt_at (vars : List GVar) (k : Int) : ∀ (n : Nat), n ≤ vars.length → ∀ j, j < cnt vars k n → ∃ i, i < n ∧ vars[i]!.fKind = k ∧ cnt vars k i = j ∧ ((vars.take n).filter (kd k))[j]! = vars[i]!
  | 0, _, j, h => by simp [cnt] at h
  | n + 1, hn, j, h => by
    have hi : n < vars.length := by omega
    rw [take_succL hi, List.filter_append]
    have hc := cnt_succ hi k
    by_cases hj : j < cnt vars k n
    · obtain ⟨i, h1, h2, h3, h4⟩ := filt_at vars k n (by omega) j hj
      refine ⟨i, by omega, h2, h3, ?_⟩
      rw [← h4]
      have hl : j < ((vars.take n).filter (kd k)).length := hj
      rw [getElem!_pos _ j (by rw [List.length_append]; omega), getElem!_pos _ j hl, List.getElem_append_left hl]
    · have hk : vars[n]!.fKind = k := by
        by_cases hk : vars[n]!.fKind = k
        · exact hk
        · rw [if_neg hk] at hc; omega
      rw [if_pos hk] at hc
      refine ⟨n, by omega, hk, by omega, ?_⟩
      have hl : ((vars.take n).filter (kd k)).length = j := by show cnt vars k n = j; omega
      have e : [vars[n]!].filter (kd k) = [vars[n]!] := by simp only [List.filter_cons, List.filter_nil, kd, hk, decide_true, if_true]
      rw [e, getElem!_pos _ j (by rw [List.length_append, hl]; simp), List.getElem_append_right (by omega)]
      simp [hl]
theorem m173_eq (vars : List GVar) (hl : vars.length ≤ 1000000) (k : Int) : m173 vars k = some (vars.filter (kd k)) := by
  obtain ⟨v, e1, hV⟩ := loopI (rnd := n173_0) vars.length (fun i (b : List GVar) => ⟨vars, k, b, (i : Int)⟩) (fun i b => b = (vars.take i).filter (kd k)) (fun i b hi hb => by
    have hw := w1L hi hl
    have i1 : (i : Int) < (vars.length : Int) := by omega
    have i2 : (0 : Int) ≤ (i : Int) := by omega
    refine ⟨_, ?_, rfl⟩
    have hlen : b.length ≤ 1000000 := by rw [hb]; exact Nat.le_trans (cnt_le vars k i) (by omega)
    rw [take_succL hi, List.filter_append, ← hb]
    unfold n173_0
    by_cases hk : vars[i]!.fKind = k
    · have h2 : (b ++ [vars[i]!]).length ≤ 1073741824 := by rw [List.length_append, List.length_singleton]; omega
      simp only [Int.toNat_natCast, i1, i2, hk, h2, hw, decide_true, cond_true, and_self, if_true, kd, List.filter_cons, List.filter_nil]
    · simp only [Int.toNat_natCast, i1, i2, hk, hw, decide_true, decide_false, cond_true, cond_false, and_self, if_true, kd, List.filter_cons, List.filter_nil, List.append_nil, Bool.false_eq_true, if_false]) (fun b _ => by unfold n173_0; simp) (b := []) (by simp)
  rw [List.take_length] at hV
  have e1' : a173_0 ⟨vars, k, [], 0⟩ = some ⟨vars, k, v, (vars.length : Int)⟩ := e1
  unfold m173
  rw [e1']
  simp [hV]
theorem m89_some (vars : List GVar) (hv : VarsOk vars) (hl : vars.length ≤ 1000000) {k : Int} (hk : k = 1 ∨ k = 2 ∨ k = 3) : ∃ p, m89 vars k = some p := by
  have hm := m173_eq vars hl k
  generalize hF : vars.filter (kd k) = L at hm
  have hL : ∀ v ∈ L, -1048576 ≤ v.fLow ∧ v.fLow ≤ v.fHigh ∧ v.fHigh ≤ 1048576 := fun v h => by rw [← hF] at h; exact hv v (List.mem_filter.1 h).1
  have hll : L.length ≤ 1000000 := by rw [← hF]; exact Nat.le_trans (List.length_filter_le _ _) hl
  obtain ⟨v, e1, _⟩ := loopI (rnd := n89_0) L.length (fun i (_ : Unit) => ⟨L, (i : Int)⟩) (fun _ _ => True) (fun i b hi _ => by
    have hw := w1L hi hll
    obtain ⟨q1, q2, q3⟩ := hL _ (get_memL hi)
    have i1 : (i : Int) < (L.length : Int) := by omega
    have i2 : (0 : Int) ≤ (i : Int) := by omega
    refine ⟨(), ?_, trivial⟩
    unfold n89_0
    simp only [Int.toNat_natCast, i1, i2, hi, hw, decide_true, cond_true, and_self, if_true, show ¬ L[i]!.fHigh < L[i]!.fLow by omega, show ¬ L[i]!.fLow < -1048576 by omega, show ¬ 1048576 < L[i]!.fHigh by omega, decide_false, cond_false]) (fun b _ => by unfold n89_0; simp) (b := ()) trivial
  have e1' : a89_0 ⟨L, 0⟩ = some ⟨L, (L.length : Int)⟩ := e1
  have hsz : ∀ i, i < L.length → ∀ n : Int, 1 ≤ n → n ≤ 4096 → i64.wrap (n * i64.wrap (i64.wrap (L[i]!.fHigh - L[i]!.fLow) + 1)) = n * (L[i]!.fHigh - L[i]!.fLow + 1) ∧ 1 ≤ n * (L[i]!.fHigh - L[i]!.fLow + 1) := fun i hi n h1 h2 => by
    obtain ⟨q1, q2, q3⟩ := hL _ (get_memL hi)
    have p1 : n * (L[i]!.fHigh - L[i]!.fLow + 1) ≤ 4096 * (L[i]!.fHigh - L[i]!.fLow + 1) := Int.mul_le_mul_of_nonneg_right h2 (by omega)
    have p2 : 1 * (L[i]!.fHigh - L[i]!.fLow + 1) ≤ n * (L[i]!.fHigh - L[i]!.fLow + 1) := Int.mul_le_mul_of_nonneg_right h1 (by omega)
    rw [wrap_id (n := L[i]!.fHigh - L[i]!.fLow) (by omega) (by omega), wrap_id (n := L[i]!.fHigh - L[i]!.fLow + 1) (by omega) (by omega), wrap_id (by omega) (by omega)]
    exact ⟨rfl, by omega⟩
  obtain ⟨i, n, e2, hI, hc⟩ := loopJ (rnd := n89_1) L.length (fun i (b : Int) => ⟨L, b, (i : Int)⟩) (fun _ b => 1 ≤ b ∧ b ≤ 4096) (fun i b => 4096 < b * (L[i]!.fHigh - L[i]!.fLow + 1)) (fun i b hi hb => by
    have hw := w1L hi hll
    obtain ⟨s1, s2⟩ := hsz i hi b hb.1 hb.2
    have i1 : (i : Int) < (L.length : Int) := by omega
    have i2 : (0 : Int) ≤ (i : Int) := by omega
    by_cases h : 4096 < b * (L[i]!.fHigh - L[i]!.fLow + 1)
    · refine .inr ⟨?_, h⟩
      unfold n89_1
      simp only [Int.toNat_natCast, i1, i2, hi, decide_true, cond_true, and_self, if_true, s1, h]
    · refine .inl ⟨b * (L[i]!.fHigh - L[i]!.fLow + 1), ?_, s2, by omega⟩
      unfold n89_1
      simp only [Int.toNat_natCast, i1, i2, hi, hw, decide_true, cond_true, and_self, if_true, s1, h, decide_false, cond_false]) (fun b _ => by unfold n89_1; simp) (b := 1) ⟨by omega, by omega⟩
  have e2' : a89_1 ⟨L, 1, 0⟩ = some ⟨L, n, (i : Int)⟩ := e2
  have hk1 : (bif bif decide (k = 0) then false else true then
      bif bif decide (k = 1) then false else true then
        bif bif decide (k = 2) then false else true then some (bif decide (k = 3) then false else true) else some false
      else some false
    else some false) = some false := by rcases hk with h | h | h <;> simp [h]
  unfold m89
  rw [hk1]
  simp only [cond_false, hm, e1']
  rw [decide_eq_false (by omega), cond_false, e2']
  dsimp only
  rcases hc with rfl | ⟨hi, h⟩
  · rw [decide_eq_false (by omega)]
    exact ⟨_, rfl⟩
  · obtain ⟨s1, s2⟩ := hsz i hi n hI.1 hI.2
    have i1 : (i : Int) < (L.length : Int) := by omega
    have i2 : (0 : Int) ≤ (i : Int) := by omega
    simp only [Int.toNat_natCast, i1, i2, hi, decide_true, cond_true, and_self, if_true, s1, h]
    exact ⟨_, rfl⟩
theorem few_nodes {f : Flat} (h : few f 10 80 = true) : nSs f.fBody + nTs (f.fHatches.map (·.fTerm)) ≤ 80 ∧ f.fHatches.length ≤ 10 ∧ f.fVars.length ≤ 10 := by
  unfold few at h
  rw [decide_eq_true_eq] at h
  omega
theorem chk_steps {f : Flat} (h : chk f = 0) : stepC f true f.fBody = 0 := by
  unfold chk at h
  split at h
  · cases h
  split at h
  · exact absurd h ‹_›
  split at h
  · exact absurd h ‹_›
  split at h
  · exact absurd h ‹_›
  rename_i h4
  simpa using h4
theorem m24_eq (f : Flat) (a b c : Int) : ∃ r, m24 f a b c = some r ∧ (r = true → few f 10 80 = true ∧ chk f = 0) := by
  unfold m24
  rw [m53_eq f 10 80 (by decide) (by decide) (by decide) (by decide)]
  cases hf : few f 10 80 with
  | false => exact ⟨false, rfl, fun h => by cases h⟩
  | true =>
    obtain ⟨h1, h2, h3⟩ := few_nodes hf
    rw [m78_eq f (by omega) (by omega) (by omega)]
    by_cases hc : chk f = 0
    · have hv := chk_vars hc
      obtain ⟨p1, e1⟩ := m89_some f.fVars hv (by omega) (k := 1) (.inl rfl)
      obtain ⟨p2, e2⟩ := m89_some f.fVars hv (by omega) (k := 2) (.inr (.inl rfl))
      obtain ⟨p3, e3⟩ := m89_some f.fVars hv (by omega) (k := 3) (.inr (.inr rfl))
      have hS : SOk f.fBody := SOk_of f _ f.fBody true (Nat.lt_succ_self _) (chk_steps hc)
      rw [e1, e2, e3, r90_eq f.fBody (by omega) hS]
      simp only [hc, decide_true, cond_true, cond_false]
      cases decide (p1.fst ≤ a) <;> cases decide (p2.fst ≤ b) <;> cases decide (p3.fst ≤ c) <;> exact ⟨_, rfl, fun _ => ⟨trivial, trivial⟩⟩
    · simp only [hc, decide_false, cond_true, cond_false]
      exact ⟨false, rfl, fun h => by cases h⟩
def inval (vars : List GVar) (inp : Inputs) (i : Nat) : Int :=
 if vars[i]!.fKind = 1 then inp.fSecret[cnt vars 1 i]! else if vars[i]!.fKind = 2 then inp.fPublic[cnt vars 2 i]! else if vars[i]!.fKind = 3 then inp.fRandom[cnt vars 3 i]! else vars[i]!.fInit
def invals (vars : List GVar) (inp : Inputs) : List Int := (List.range vars.length).map (inval vars inp)
structure StartOk (vars : List GVar) (inp : Inputs) : Prop where
 s : inp.fSecret.length = cnt vars 1 vars.length
 p : inp.fPublic.length = cnt vars 2 vars.length
 r : inp.fRandom.length = cnt vars 3 vars.length
 b : ∀ i, i < vars.length → vars[i]!.fLow ≤ inval vars inp i ∧ inval vars inp i ≤ vars[i]!.fHigh
theorem m178_hit {l : List Int} {i : Nat} (h : i < l.length) : m178 l (i : Int) = some (l[i]!, true) := by
 unfold m178
 rw [decide_eq_false (by omega), cond_false, if_pos (by omega), Int.toNat_natCast]
theorem m178_miss {l : List Int} {i : Nat} (h : l.length ≤ i) : m178 l (i : Int) = some (0, false) := by
 unfold m178
 rw [decide_eq_true (by omega), cond_true]
theorem range_snoc {α : Type} (f : Nat → α) (i : Nat) : (List.range (i + 1)).map f = (List.range i).map f ++ [f i] := by rw [List.range_succ, List.map_append]; rfl
theorem m95_eq (vars : List GVar) (hl : vars.length ≤ 1000000) (inp : Inputs) : ∃ p, m95 vars inp = some p ∧ (p.2 = 0 → p.1 = invals vars inp ∧ StartOk vars inp) := by
  obtain ⟨i, v, e1, hI, hc⟩ := loopJ (rnd := n95_0) vars.length (fun i (b : List Int × Bool) => ⟨vars, (cnt vars 1 i : Int), (cnt vars 2 i : Int), (cnt vars 3 i : Int), b.1, b.2, (i : Int), inp⟩)
    (fun i b => b.1 = (List.range i).map (inval vars inp) ∧ (b.2 = true → ∀ j, j < i → vars[j]!.fLow ≤ inval vars inp j ∧ inval vars inp j ≤ vars[j]!.fHigh) ∧ cnt vars 1 i ≤ inp.fSecret.length ∧ cnt vars 2 i ≤ inp.fPublic.length ∧ cnt vars 3 i ≤ inp.fRandom.length)
    (fun i b => (vars[i]!.fKind = 1 ∧ inp.fSecret.length ≤ cnt vars 1 i) ∨ (vars[i]!.fKind = 2 ∧ inp.fPublic.length ≤ cnt vars 2 i) ∨ (vars[i]!.fKind = 3 ∧ inp.fRandom.length ≤ cnt vars 3 i)) (fun i b hi hb => by
    obtain ⟨b, ok⟩ := b
    obtain ⟨rfl, hok, h1, h2, h3⟩ := hb
    dsimp only at hok
    have hw := w1L hi hl
    have i1 : (i : Int) < (vars.length : Int) := by omega
    have i2 : (0 : Int) ≤ (i : Int) := by omega
    have c1 := cnt_succ hi 1
    have c2 := cnt_succ hi 2
    have c3 := cnt_succ hi 3
    have l1 := cnt_le vars 1 i
    have l2 := cnt_le vars 2 i
    have l3 := cnt_le vars 3 i
    have w1 : i64.wrap ((cnt vars 1 i : Int) + 1) = ((cnt vars 1 i + 1 : Nat) : Int) := by rw [wrap_id (by omega) (by omega)]; omega
    have w2 : i64.wrap ((cnt vars 2 i : Int) + 1) = ((cnt vars 2 i + 1 : Nat) : Int) := by rw [wrap_id (by omega) (by omega)]; omega
    have w3 : i64.wrap ((cnt vars 3 i : Int) + 1) = ((cnt vars 3 i + 1 : Nat) : Int) := by rw [wrap_id (by omega) (by omega)]; omega
    have hs := range_snoc (inval vars inp) i
    have hlen : ∀ x : Int, ((List.range i).map (inval vars inp) ++ [x]).length ≤ 1073741824 := fun x => by simp; omega
    have flag : ∀ (x : Int), x = inval vars inp i → ∀ ok' : Bool, ok' = (if x < vars[i]!.fLow ∨ vars[i]!.fHigh < x then false else ok) → (ok' = true → ∀ j, j < i + 1 → vars[j]!.fLow ≤ inval vars inp j ∧ inval vars inp j ≤ vars[j]!.fHigh) := fun x hx ok' he hok' j hj => by
      subst hx
      rw [he] at hok'
      split at hok'
      · cases hok'
      rename_i hb
      by_cases hji : j = i
      · subst hji; omega
      · exact hok hok' j (by omega)
    by_cases k1 : vars[i]!.fKind = 1
    · have ev : inval vars inp i = inp.fSecret[cnt vars 1 i]! := by unfold inval; rw [if_pos k1]
      rw [k1] at c1 c2 c3
      simp only [Int.reduceEq, if_true, if_false, Nat.add_zero] at c1 c2 c3
      by_cases hm : cnt vars 1 i < inp.fSecret.length
      · refine .inl ⟨((List.range (i + 1)).map (inval vars inp), if inval vars inp i < vars[i]!.fLow ∨ vars[i]!.fHigh < inval vars inp i then false else ok), ?_, rfl, flag _ rfl _ rfl, by omega, by omega, by omega⟩
        unfold n95_0
        dsimp only
        rw [hs, c1, c2, c3]
        simp only [Int.toNat_natCast, i1, i2, k1, decide_true, cond_true, and_self, if_true, m178_hit hm, cond_false, ← ev, hlen, w1, hw]
        by_cases q1 : inval vars inp i < vars[i]!.fLow
        · simp only [q1, decide_true, cond_true, true_or, if_true]
        · by_cases q2 : vars[i]!.fHigh < inval vars inp i
          · simp only [q1, q2, decide_true, decide_false, cond_true, cond_false, or_true, if_true]
          · simp only [q1, q2, decide_false, cond_false, or_self, if_false]
      · refine .inr ⟨?_, .inl ⟨k1, by omega⟩⟩
        unfold n95_0
        simp only [Int.toNat_natCast, i1, i2, k1, decide_true, cond_true, and_self, if_true, m178_miss (show inp.fSecret.length ≤ cnt vars 1 i by omega), cond_false]
    by_cases k2 : vars[i]!.fKind = 2
    · have ev : inval vars inp i = inp.fPublic[cnt vars 2 i]! := by unfold inval; rw [if_neg k1, if_pos k2]
      rw [k2] at c1 c2 c3
      simp only [Int.reduceEq, if_true, if_false, Nat.add_zero] at c1 c2 c3
      by_cases hm : cnt vars 2 i < inp.fPublic.length
      · refine .inl ⟨((List.range (i + 1)).map (inval vars inp), if inval vars inp i < vars[i]!.fLow ∨ vars[i]!.fHigh < inval vars inp i then false else ok), ?_, rfl, flag _ rfl _ rfl, by omega, by omega, by omega⟩
        unfold n95_0
        dsimp only
        rw [hs, c1, c2, c3]
        simp only [Int.toNat_natCast, i1, i2, k1, k2, Int.reduceEq, decide_true, decide_false, cond_true, and_self, if_true, m178_hit hm, cond_false, ← ev, hlen, w2, hw]
        by_cases q1 : inval vars inp i < vars[i]!.fLow
        · simp only [q1, decide_true, cond_true, true_or, if_true]
        · by_cases q2 : vars[i]!.fHigh < inval vars inp i
          · simp only [q1, q2, decide_true, decide_false, cond_true, cond_false, or_true, if_true]
          · simp only [q1, q2, decide_false, cond_false, or_self, if_false]
      · refine .inr ⟨?_, .inr (.inl ⟨k2, by omega⟩)⟩
        unfold n95_0
        simp only [Int.toNat_natCast, i1, i2, k2, Int.reduceEq, decide_true, decide_false, cond_true, and_self, if_true, m178_miss (show inp.fPublic.length ≤ cnt vars 2 i by omega), cond_false]
    by_cases k3 : vars[i]!.fKind = 3
    · have ev : inval vars inp i = inp.fRandom[cnt vars 3 i]! := by unfold inval; rw [if_neg k1, if_neg k2, if_pos k3]
      rw [k3] at c1 c2 c3
      simp only [Int.reduceEq, if_true, if_false, Nat.add_zero] at c1 c2 c3
      by_cases hm : cnt vars 3 i < inp.fRandom.length
      · refine .inl ⟨((List.range (i + 1)).map (inval vars inp), if inval vars inp i < vars[i]!.fLow ∨ vars[i]!.fHigh < inval vars inp i then false else ok), ?_, rfl, flag _ rfl _ rfl, by omega, by omega, by omega⟩
        unfold n95_0
        dsimp only
        rw [hs, c1, c2, c3]
        simp only [Int.toNat_natCast, i1, i2, k1, k2, k3, Int.reduceEq, decide_true, decide_false, cond_true, and_self, if_true, m178_hit hm, cond_false, ← ev, hlen, w3, hw]
        by_cases q1 : inval vars inp i < vars[i]!.fLow
        · simp only [q1, decide_true, cond_true, true_or, if_true]
        · by_cases q2 : vars[i]!.fHigh < inval vars inp i
          · simp only [q1, q2, decide_true, decide_false, cond_true, cond_false, or_true, if_true]
          · simp only [q1, q2, decide_false, cond_false, or_self, if_false]
      · refine .inr ⟨?_, .inr (.inr ⟨k3, by omega⟩)⟩
        unfold n95_0
        simp only [Int.toNat_natCast, i1, i2, k3, Int.reduceEq, decide_true, decide_false, cond_true, and_self, if_true, m178_miss (show inp.fRandom.length ≤ cnt vars 3 i by omega), cond_false]
    · have ev : inval vars inp i = vars[i]!.fInit := by unfold inval; rw [if_neg k1, if_neg k2, if_neg k3]
      rw [if_neg k1] at c1
      rw [if_neg k2] at c2
      rw [if_neg k3] at c3
      simp only [Nat.add_zero] at c1 c2 c3
      refine .inl ⟨((List.range (i + 1)).map (inval vars inp), if inval vars inp i < vars[i]!.fLow ∨ vars[i]!.fHigh < inval vars inp i then false else ok), ?_, rfl, flag _ rfl _ rfl, by omega, by omega, by omega⟩
      unfold n95_0
      dsimp only
      rw [hs, c1, c2, c3]
      simp only [Int.toNat_natCast, i1, i2, k1, k2, k3, decide_true, decide_false, cond_true, and_self, if_true, cond_false, ← ev, hlen, hw]
      by_cases q1 : inval vars inp i < vars[i]!.fLow
      · simp only [q1, decide_true, cond_true, true_or, if_true]
      · by_cases q2 : vars[i]!.fHigh < inval vars inp i
        · simp only [q1, q2, decide_true, decide_false, cond_true, cond_false, or_true, if_true]
        · simp only [q1, q2, decide_false, cond_false, or_self, if_false]) (fun b _ => by unfold n95_0; simp) (b := ([], true)) ⟨by simp, fun _ j hj => by omega, by simp [cnt], by simp [cnt], by simp [cnt]⟩
  obtain ⟨b, ok⟩ := v
  obtain ⟨hbv, hok, h1, h2, h3⟩ := hI
  dsimp only at hbv hok
  have e1' : a95_0 ⟨vars, 0, 0, 0, [], true, 0, inp⟩ = some ⟨vars, (cnt vars 1 i : Int), (cnt vars 2 i : Int), (cnt vars 3 i : Int), b, ok, (i : Int), inp⟩ := e1
  unfold m95
  rw [e1']
  dsimp only
  rcases hc with rfl | ⟨hi, hc⟩
  · rw [decide_eq_false (by omega), cond_false]
    by_cases d1 : cnt vars 1 vars.length = inp.fSecret.length
    · by_cases d2 : cnt vars 2 vars.length = inp.fPublic.length
      · by_cases d3 : cnt vars 3 vars.length = inp.fRandom.length
        · have g1 : (cnt vars 1 vars.length : Int) = (inp.fSecret.length : Int) := by omega
          have g2 : (cnt vars 2 vars.length : Int) = (inp.fPublic.length : Int) := by omega
          have g3 : (cnt vars 3 vars.length : Int) = (inp.fRandom.length : Int) := by omega
          simp only [g1, g2, g3, decide_true, cond_true, cond_false]
          cases ok with
          | false => exact ⟨_, rfl, fun h => by cases h⟩
          | true => exact ⟨_, rfl, fun _ => ⟨hbv, ⟨d1.symm, d2.symm, d3.symm, hok rfl⟩⟩⟩
        · have g1 : (cnt vars 1 vars.length : Int) = (inp.fSecret.length : Int) := by omega
          have g2 : (cnt vars 2 vars.length : Int) = (inp.fPublic.length : Int) := by omega
          have g3 : ¬ (cnt vars 3 vars.length : Int) = (inp.fRandom.length : Int) := by omega
          simp only [g1, g2, g3, decide_true, decide_false, cond_true, cond_false]
          exact ⟨_, rfl, fun h => by cases h⟩
      · have g1 : (cnt vars 1 vars.length : Int) = (inp.fSecret.length : Int) := by omega
        have g2 : ¬ (cnt vars 2 vars.length : Int) = (inp.fPublic.length : Int) := by omega
        simp only [g1, g2, decide_true, decide_false, cond_true, cond_false]
        exact ⟨_, rfl, fun h => by cases h⟩
    · have g1 : ¬ (cnt vars 1 vars.length : Int) = (inp.fSecret.length : Int) := by omega
      simp only [g1, decide_false, cond_true, cond_false]
      exact ⟨_, rfl, fun h => by cases h⟩
  · have i1 : (i : Int) < (vars.length : Int) := by omega
    have i2 : (0 : Int) ≤ (i : Int) := by omega
    rcases hc with ⟨k, hm⟩ | ⟨k, hm⟩ | ⟨k, hm⟩ <;> simp only [Int.toNat_natCast, i1, i2, k, Int.reduceEq, decide_true, decide_false, cond_true, and_self, if_true, m178_miss hm, cond_false] <;> exact ⟨_, rfl, fun h => by cases h⟩
theorem firstC_zr {α : Type} [Inhabited α] {c : Nat → α → Int} : ∀ {l : List α} {i : Nat}, firstC c l i = 0 → ∀ j, j < l.length → c (i + j) l[j]! = 0
 | [], _, _, j, h => by simp at h
 | x :: l, i, h, j, hj => by
  unfold firstC at h
  split at h
  case isFalse h1 => exact absurd h h1
  rename_i h0
  cases j with
  | zero => simpa using h0
  | succ j =>
   have := firstC_zr h j (by simpa using hj)
   rw [show i + (j + 1) = i + 1 + j by omega]
   exact this
theorem hat_ok {f : Flat} {i : Nat} {h : Hatch} (hc : hatC f i h = 0) : (-1048576 ≤ h.fLow ∧ h.fLow ≤ h.fHigh ∧ h.fHigh ≤ 1048576) ∧ termC f.fVars true h.fTerm = 0 := by
  unfold hatC at hc
  split at hc
  · cases hc
  split at hc
  · cases hc
  split at hc
  · cases hc
  rename_i hb
  have hb : boundB h.fLow h.fHigh = true := by simpa using hb
  unfold boundB at hb
  rw [decide_eq_true_eq] at hb
  exact ⟨⟨hb.2.1, hb.1, hb.2.2⟩, hc⟩
structure ChkOk (f : Flat) : Prop where
 vars : VarsOk f.fVars
 hat : ∀ i, i < f.fHatches.length → (-1048576 ≤ f.fHatches[i]!.fLow ∧ f.fHatches[i]!.fLow ≤ f.fHatches[i]!.fHigh ∧ f.fHatches[i]!.fHigh ≤ 1048576) ∧ termC f.fVars true f.fHatches[i]!.fTerm = 0
 steps : stepC f true f.fBody = 0
 o : (uSs f.fBody).2.1 ≤ 8
 t : (uSs f.fBody).2.2 ≤ 67108864
theorem chk_ok {f : Flat} (h : chk f = 0) : ChkOk f := by
  have hv := chk_vars h
  unfold chk at h
  split at h
  · cases h
  split at h
  · exact absurd h ‹_›
  split at h
  · exact absurd h ‹_›
  rename_i h3
  split at h
  · exact absurd h ‹_›
  rename_i h4
  split at h
  · cases h
  rename_i h5
  have h3 : firstC (hatC f) f.fHatches 0 = 0 := by simpa using h3
  have h4 : stepC f true f.fBody = 0 := by simpa using h4
  unfold overB at h5
  simp only [decide_eq_true_eq] at h5
  exact ⟨hv, fun i hi => hat_ok (i := 0 + i) (firstC_zr h3 i hi), h4, by omega, by omega⟩
def hatV (f : Flat) (vals : List Int) : List Int := f.fHatches.map fun h => heldI (valT vals h.fTerm) h.fLow h.fHigh
theorem m97_eq {f : Flat} (hf : ChkOk f) (hl : f.fHatches.length ≤ 1000000) {vals : List Int} (hV : VIn f.fVars vals) : m97 f vals = some (hatV f vals) := by
 obtain ⟨v, e1, hI⟩ := loopI (rnd := n97_0) f.fHatches.length (fun i (b : List Int) => ⟨vals, b, (i : Int), f⟩) (fun i b => b = (f.fHatches.take i).map fun h => heldI (valT vals h.fTerm) h.fLow h.fHigh) (fun i b hi hb => by
  have hw := w1L hi hl
  have i1 : (i : Int) < (f.fHatches.length : Int) := by omega
  have i2 : (0 : Int) ≤ (i : Int) := by omega
  obtain ⟨ev, _, _⟩ := r181_eq hf.vars hV true f.fHatches[i]!.fTerm (hf.hat i hi).2
  have hlen : b.length ≤ 1000000 := by rw [hb]; simp; omega
  have hl2 : ∀ x : Int, (b ++ [x]).length ≤ 1073741824 := fun x => by simp; omega
  refine ⟨b ++ [heldI (valT vals f.fHatches[i]!.fTerm) f.fHatches[i]!.fLow f.fHatches[i]!.fHigh], ?_, by rw [take_succL hi, List.map_append, hb]; rfl⟩
  unfold n97_0
  simp only [Int.toNat_natCast, i1, i2, decide_true, cond_true, and_self, if_true, GTerm.eta, ev, m183_eq, hl2, hw]) (fun b _ => by unfold n97_0; simp) (b := []) (by simp)
 rw [List.take_length] at hI
 have e1' : a97_0 ⟨vals, [], 0, f⟩ = some ⟨vals, v, (f.fHatches.length : Int), f⟩ := e1
 unfold m97
 rw [e1']
 dsimp only
 rw [decide_eq_false (by omega), cond_false, hI]
 rfl
theorem invals_in {vars : List GVar} {inp : Inputs} (h : StartOk vars inp) : VIn vars (invals vars inp) := by
 refine ⟨by simp [invals], fun i hi => ?_⟩
 have e : (invals vars inp)[i]! = inval vars inp i := by
  unfold invals
  rw [getElem!_pos _ i (by simpa using hi), List.getElem_map, List.getElem_range]
 rw [e]
 exact h.b i hi
def endC (f : Flat) (inp : Inputs) : CS := runC f (hatV f (invals f.fVars inp)) f.fBody ⟨invals f.fVars inp, [], 0⟩
theorem bud0 {f : Flat} (hf : ChkOk f) {inp : Inputs} (h : StartOk f.fVars inp) : Bud f true f.fBody ⟨invals f.fVars inp, [], 0⟩ := by
 have := hf.o
 have := hf.t
 exact ⟨hf.steps, invals_in h, Int.le_refl _, by show (0 : Int) + _ ≤ _; omega, by show (((0 : Nat) : Int)) + _ ≤ _; omega⟩
theorem Bud.run {f : Flat} (hv : VarsOk f.fVars) {hs : List Int} : ∀ {top : Bool} {l : List GStep} {s : CS}, Bud f top l s → Bud f top [] (runC f hs l s)
 | _, [], _, h => by rw [runC_nil]; exact h
 | _, x :: l, s, h => by rw [runC_cons]; exact Bud.run hv (h.next hv)
theorem m28_eq {f : Flat} (hc : chk f = 0) (h80 : nSs f.fBody + nTs (f.fHatches.map (·.fTerm)) ≤ 80) (hh : f.fHatches.length ≤ 10) (hvl : f.fVars.length ≤ 10) (inp : Inputs) :
    ∃ p, m28 f inp = some p ∧ (p.2 = 0 → p.1 = encG (endC f inp) ∧ StartOk f.fVars inp) := by
  have hf := chk_ok hc
  obtain ⟨p, e1, hp⟩ := m95_eq f.fVars (by omega) inp
  unfold m28
  rw [m78_eq f (by omega) (by omega) (by omega), hc]
  simp only [decide_true, cond_true, cond_false, e1]
  by_cases h0 : p.2 = 0
  · obtain ⟨q1, q2⟩ := hp h0
    have hV := invals_in q2
    have e2 : r96 f (hatV f (invals f.fVars inp)) f.fBody (encG ⟨invals f.fVars inp, [], 0⟩) = some (encG (endC f inp)) := lim_eq (2 * SizeOf.sizeOf f.fBody + 1) fun n hn => (m96_eq hf.vars (by omega) (by simp [hatV]) n).1 true f.fBody _ (by omega) (by omega) (bud0 hf q2)
    simp only [h0, decide_true, cond_true, cond_false, q1, m97_eq hf (by omega) hV]
    rw [show GState.mk (invals f.fVars inp) [] 0 = encG ⟨invals f.fVars inp, [], 0⟩ from rfl, e2]
    exact ⟨_, rfl, fun _ => ⟨rfl, q2⟩⟩
  · simp only [h0, decide_false, cond_true, cond_false]
    exact ⟨_, rfl, fun h => absurd h h0⟩
end Go.Proofs.YtnfljbehcffmcaaGreat
end
