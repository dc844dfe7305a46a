/- Ledger: heads: encoding, decoding, the law. -/
import Derived.Test.YtgdahkddhecloaaLq
import Derived.Test.YtgdahkddhecloaaLb
import Derived.Test.YtgdahkddhecloaaOpL
set_option linter.unusedSectionVars false
set_option linter.unusedVariables false
set_option linter.unusedSimpArgs false
namespace Go.Proofs.Ytgdahkddhecloaa
open Go Go.Iv

def okV (n : Int) : Bool := decide (1 ≤ n ∧ n ≤ 1048576)
theorem m41_eq (n : Int) : m41 n = !okV n := by
  have e : m41 n = (decide (n < 1) || decide (1048576 < n)) := by
    unfold m41
    cases decide (n < 1) <;> rfl
  rw [e]
  unfold okV
  rw [Bool.eq_iff_iff]
  simp only [Bool.or_eq_true, decide_eq_true_eq, Bool.not_eq_true', decide_eq_false_iff_not]
  omega
theorem m42_eq (n : Int) : m42 n = !okV n := m41_eq n
theorem n52_at (a : List Int) (hl : a.length ≤ 100000) (i : Nat) (h : i < a.length) : n52_0 ⟨a, a.length, i⟩ = if okV a[i]! then some (some ⟨a, a.length, ((i + 1 : Nat) : Int)⟩) else some none := by
  unfold n52_0
  dsimp only
  rw [wrap_id (n := (i : Int) + 1) (by omega) (by omega), decide_eq_true (show (i : Int) < a.length by omega), cond_true, if_pos (by omega), Int.toNat_natCast, m42_eq]
  cases okV a[i]! <;> rfl
theorem m33_eq (a : List Int) (hl : a.length ≤ 100000) : m33 a = some (!a.all okV) := by
  unfold m33 m52
  obtain ⟨j, q1, q2, q3, q4, q5⟩ := advG_count (rnd := n52_0) (fun i => ⟨a, a.length, (i : Nat)⟩) a.length (fun i hi => by
      rw [n52_at a hl i hi]
      cases e : okV a[i]!
      · exact .inr fun r => by simp
      · exact .inl rfl) (fun r => by
      unfold n52_0
      dsimp only
      rw [decide_eq_false (by omega)]
      simp) a.length 0 (by omega)
  have q3' : a52_0 ⟨a, a.length, 0⟩ = some ⟨a, a.length, j⟩ := q3
  rw [q3']
  dsimp only
  have hlt : ∀ m (hm : m < j), okV a[m]! = true := by
    intro m hm
    have h1 := q4 m (by omega) hm
    rw [n52_at a hl m (by omega)] at h1
    cases e : okV a[m]!
    · rw [e] at h1; simp at h1
    · rfl
  by_cases hj : j = a.length
  · subst hj
    have : a.all okV = true := by
      rw [List.all_eq_true]
      intro x hx
      obtain ⟨i, hi, rfl⟩ := List.getElem_of_mem hx
      have := hlt i hi
      rwa [getElem!_pos a i hi] at this
    rw [decide_eq_false (show ¬ (a.length : Int) < a.length by omega), this]
    rfl
  · have hj' : j < a.length := by omega
    have hne : okV a[j]! = false := by
      cases e : okV a[j]!
      · rfl
      · have h1 := q5 ⟨a, a.length, ((j + 1 : Nat) : Int)⟩
        rw [n52_at a hl j hj', if_pos e] at h1
        exact absurd rfl h1
    have : a.all okV = false := by
      rw [List.all_eq_false]
      exact ⟨a[j], List.getElem_mem hj', by rw [getElem!_pos a j hj'] at hne; simp [hne]⟩
    rw [Int.toNat_natCast, decide_eq_true (show (j : Int) < a.length by omega), m42_eq, hne, this, if_pos (by omega)]
    show some (decide ((0 : Int) ≤ j)) = some true
    rw [decide_eq_true (by omega)]
theorem n52c_at (a : List Int) (hl : a.length ≤ 100000) (i : Nat) (h : i < a.length) : n52c_0 ⟨a, a.length, i⟩ = if okV a[i]! then some (some ⟨a, a.length, ((i + 1 : Nat) : Int)⟩) else some none := by
  unfold n52c_0
  dsimp only
  rw [wrap_id (n := (i : Int) + 1) (by omega) (by omega), decide_eq_true (show (i : Int) < a.length by omega), cond_true, if_pos (by omega), Int.toNat_natCast, m41_eq]
  cases okV a[i]! <;> rfl
theorem m33c_eq (a : List Int) (hl : a.length ≤ 100000) : m33c a = some (!a.all okV) := by
  unfold m33c m52c
  obtain ⟨j, q1, q2, q3, q4, q5⟩ := advG_count (rnd := n52c_0) (fun i => ⟨a, a.length, (i : Nat)⟩) a.length (fun i hi => by
      rw [n52c_at a hl i hi]
      cases e : okV a[i]!
      · exact .inr fun r => by simp
      · exact .inl rfl) (fun r => by
      unfold n52c_0
      dsimp only
      rw [decide_eq_false (by omega)]
      simp) a.length 0 (by omega)
  have q3' : a52c_0 ⟨a, a.length, 0⟩ = some ⟨a, a.length, j⟩ := q3
  rw [q3']
  dsimp only
  have hlt : ∀ m (hm : m < j), okV a[m]! = true := by
    intro m hm
    have h1 := q4 m (by omega) hm
    rw [n52c_at a hl m (by omega)] at h1
    cases e : okV a[m]!
    · rw [e] at h1; simp at h1
    · rfl
  by_cases hj : j = a.length
  · subst hj
    have : a.all okV = true := by
      rw [List.all_eq_true]
      intro x hx
      obtain ⟨i, hi, rfl⟩ := List.getElem_of_mem hx
      have := hlt i hi
      rwa [getElem!_pos a i hi] at this
    rw [decide_eq_false (show ¬ (a.length : Int) < a.length by omega), this]
    rfl
  · have hj' : j < a.length := by omega
    have hne : okV a[j]! = false := by
      cases e : okV a[j]!
      · rfl
      · have h1 := q5 ⟨a, a.length, ((j + 1 : Nat) : Int)⟩
        rw [n52c_at a hl j hj', if_pos e] at h1
        exact absurd rfl h1
    have : a.all okV = false := by
      rw [List.all_eq_false]
      exact ⟨a[j], List.getElem_mem hj', by rw [getElem!_pos a j hj'] at hne; simp [hne]⟩
    rw [Int.toNat_natCast, decide_eq_true (show (j : Int) < a.length by omega), m41_eq, hne, this, if_pos (by omega)]
    show some (decide ((0 : Int) ≤ j)) = some true
    rw [decide_eq_true (by omega)]
def okH (h : Head) : Bool := (decide (h.fMode = 0) || decide (h.fMode = 1)) && decide (1 ≤ h.fBudgets.length ∧ h.fBudgets.length ≤ 16) && h.fBudgets.all okV
theorem m14_eq (h : Head) (hl : h.fBudgets.length ≤ 100000) : m14 h = some (okH h) := by
  unfold m14 okH
  rw [m33c_eq _ hl]
  by_cases h0 : h.fMode = 0
  · by_cases h2 : 1 ≤ h.fBudgets.length
    · by_cases h3 : h.fBudgets.length ≤ 16
      · have e2 : (1 : Int) ≤ h.fBudgets.length := by omega
        have e3 : (h.fBudgets.length : Int) ≤ 16 := by omega
        simp [h0, h2, h3, e2, e3]
      · have e2 : (1 : Int) ≤ h.fBudgets.length := by omega
        have e3 : ¬ (h.fBudgets.length : Int) ≤ 16 := by omega
        simp [h0, h3, e2, e3]
    · have e2 : ¬ (1 : Int) ≤ h.fBudgets.length := by omega
      simp [h0, h2, e2]
  · by_cases h1 : h.fMode = 1
    · by_cases h2 : 1 ≤ h.fBudgets.length
      · by_cases h3 : h.fBudgets.length ≤ 16
        · have e2 : (1 : Int) ≤ h.fBudgets.length := by omega
          have e3 : (h.fBudgets.length : Int) ≤ 16 := by omega
          simp [h1, h2, h3, e2, e3]
        · have e2 : (1 : Int) ≤ h.fBudgets.length := by omega
          have e3 : ¬ (h.fBudgets.length : Int) ≤ 16 := by omega
          simp [h1, h3, e2, e3]
      · have e2 : ¬ (1 : Int) ≤ h.fBudgets.length := by omega
        simp [h1, h2, e2]
    · simp [h0, h1]
theorem m16_eq (h : Head) (hl : h.fBudgets.length ≤ 100000) : m16 h = some (if okH h then 0 else 1) := by
  unfold m16 okH
  rw [m33_eq _ hl]
  by_cases h2 : 1 ≤ h.fBudgets.length
  · by_cases h3 : h.fBudgets.length ≤ 16
    · have e2 : ¬ (h.fBudgets.length : Int) < 1 := by omega
      have e3 : ¬ 16 < (h.fBudgets.length : Int) := by omega
      by_cases h0 : h.fMode = 0
      · cases hb : h.fBudgets.all okV <;> simp [h0, h2, h3, e2, e3, hb]
      · by_cases h1 : h.fMode = 1
        · cases hb : h.fBudgets.all okV <;> simp [h1, h2, h3, e2, e3, hb]
        · simp [h0, h1]
    · have e2 : ¬ (h.fBudgets.length : Int) < 1 := by omega
      have e3 : 16 < (h.fBudgets.length : Int) := by omega
      by_cases h0 : h.fMode = 0
      · simp [h0, h3, e2, e3]
      · by_cases h1 : h.fMode = 1
        · simp [h1, h3, e2, e3]
        · simp [h0, h1]
  · have e2 : (h.fBudgets.length : Int) < 1 := by omega
    by_cases h0 : h.fMode = 0
    · simp [h0, h2, e2]
    · by_cases h1 : h.fMode = 1
      · simp [h1, h2, e2]
      · simp [h0, h1]
/-- bytes of the budgets -/
def be3 (l : List Int) (b : List Int) : List Int := l.foldl (fun b x => b ++ be 3 x) b
theorem be3_eq : ∀ (l b : List Int), be3 l b = b ++ l.flatMap (be 3)
  | [], b => by simp [be3]
  | x :: l, b => by
    have := be3_eq l (b ++ be 3 x)
    simp only [be3, List.foldl_cons] at this ⊢
    rw [this]
    simp
theorem flat_len : ∀ l : List Int, (l.flatMap (be 3)).length = 3 * l.length
  | [] => rfl
  | x :: l => by simp [flat_len l, be_len]; omega
theorem a31b1_eq (t1 n : Int) (t10 : List Int) (t11 t12 : Int) : ∀ (w : Nat) (b : List Int), w ≤ 8 → b.length + w ≤ 1000 → a31b_1 ⟨b, t1, n, (w : Int) - 1, t10, t11, t12⟩ = some ⟨b ++ be w n, t1, n, -1, t10, t11, t12⟩
  | 0, b, _, _ => by
    rw [be, List.append_nil]
    exact advG_stop fun r => by simp [n31b_1]
  | w + 1, b, hw, hb => by
    have ih := a31b1_eq t1 n t10 t11 t12 w (b ++ [IntKind.u8.wrap (bShr .i64 n (8 * w))]) (by omega) (by simp; omega)
    have e1 : IntKind.i64.wrap (8 * (((w + 1 : Nat) : Int) - 1)) = 8 * w := by rw [wrap_id (by omega) (by omega)]; omega
    have e2 : IntKind.i64.wrap ((((w + 1 : Nat) : Int) - 1) - 1) = (w : Int) - 1 := by rw [wrap_id (by omega) (by omega)]; omega
    have hs : n31b_1 ⟨b, t1, n, ((w + 1 : Nat) : Int) - 1, t10, t11, t12⟩ = some (some ⟨b ++ [IntKind.u8.wrap (bShr .i64 n (8 * w))], t1, n, (w : Int) - 1, t10, t11, t12⟩) := by
      unfold n31b_1
      dsimp only
      rw [e1, e2, decide_eq_true (show (0 : Int) ≤ ((w + 1 : Nat) : Int) - 1 by omega), cond_true, if_pos (by omega), if_pos (by simp; omega)]
    show advG n31b_1 _ = _
    rw [advG_step hs]
    show a31b_1 _ = _
    rw [ih, be, List.append_assoc]
    rfl
theorem a31b_eq (l : List Int) (hl : l.length ≤ 16) : ∀ (k i : Nat) (b : List Int), i + k = l.length → b.length ≤ 100 + 3 * i → a31b_0 ⟨b, 3, l, l.length, i⟩ = some ⟨be3 (l.drop i) b, 3, l, l.length, l.length⟩
  | 0, i, b, h, hb => by
    have : i = l.length := by omega
    subst this
    rw [List.drop_length]
    exact advG_stop fun r => by simp [n31b_0]
  | k + 1, i, b, h, hb => by
    have hi : i < l.length := by omega
    have ih := a31b_eq l hl k (i + 1) (b ++ be 3 l[i]) (by omega) (by simp [be_len]; omega)
    have e2 : IntKind.i64.wrap ((3 : Int) - 1) = ((3 : Nat) : Int) - 1 := wrap_id (by omega) (by omega)
    have hs : n31b_0 ⟨b, 3, l, l.length, i⟩ = some (some ⟨b ++ be 3 l[i], 3, l, l.length, ((i + 1 : Nat) : Int)⟩) := by
      unfold n31b_0
      dsimp only
      rw [e2, decide_eq_true (show (i : Int) < l.length by omega), cond_true, if_pos (by omega), Int.toNat_natCast, getElem!_pos l i hi, a31b1_eq _ _ _ _ _ 3 b (by omega) (by omega)]
      dsimp only
      rw [wrap_id (n := (i : Int) + 1) (by omega) (by omega)]
      rfl
    show advG n31b_0 _ = _
    rw [advG_step hs]
    show a31b_0 _ = _
    rw [ih, List.drop_eq_getElem_cons hi]
    rfl
theorem m31b_eq (l b : List Int) (hl : l.length ≤ 16) (hb : b.length ≤ 100) : m31b 3 l b = some (b ++ l.flatMap (be 3)) := by
  unfold m31b
  rw [show (0 : Int) = ((0 : Nat) : Int) from rfl, a31b_eq l hl l.length 0 b (by omega) (by omega)]
  dsimp only
  rw [decide_eq_false (by omega)]
  rw [List.drop_zero, be3_eq]
  rfl
theorem a18_eq (l : List Int) (hl : l.length ≤ 16) : ∀ (k i : Nat) (b : List Int), i + k = l.length → b.length ≤ 100 + 3 * i → a18_0 ⟨b, l, l.length, i⟩ = some ⟨be3 (l.drop i) b, l, l.length, l.length⟩
  | 0, i, b, h, hb => by
    have : i = l.length := by omega
    subst this
    rw [List.drop_length]
    exact advG_stop fun r => by simp [n18_0]
  | k + 1, i, b, h, hb => by
    have hi : i < l.length := by omega
    have ih := a18_eq l hl k (i + 1) (b ++ be 3 l[i]) (by omega) (by simp [be_len]; omega)
    have hs : n18_0 ⟨b, l, l.length, i⟩ = some (some ⟨b ++ be 3 l[i], l, l.length, ((i + 1 : Nat) : Int)⟩) := by
      unfold n18_0
      dsimp only
      rw [wrap_id (n := (i : Int) + 1) (by omega) (by omega), decide_eq_true (by omega), cond_true, if_pos (by omega), Int.toNat_natCast, getElem!_pos l i hi, show (3 : Int) = ((3 : Nat) : Int) from rfl, m38_eq _ 3 _ (by omega) (by omega)]
      rfl
    show advG n18_0 _ = _
    rw [advG_step hs]
    show a18_0 _ = _
    rw [ih, List.drop_eq_getElem_cons hi]
    rfl
def headB (h : Head) (e : Int) : List Int := [2] ++ be 4 e ++ [IntKind.u8.wrap h.fMode, IntKind.u8.wrap (h.fBudgets.length : Int)]
def encH (h : Head) (e : Int) : List Int := pad (headB h e ++ h.fBudgets.flatMap (be 3))
theorem headB_len (h : Head) (e : Int) : (headB h e).length = 7 := by simp [headB, be_len]
theorem body_len (h : Head) (e : Int) : (headB h e ++ h.fBudgets.flatMap (be 3)).length = 7 + 3 * h.fBudgets.length := by rw [List.length_append, headB_len, flat_len]
theorem encH_len (h : Head) (e : Int) (hl : h.fBudgets.length ≤ 16) : (encH h e).length = 96 := by
  unfold encH pad
  rw [List.length_append, List.length_replicate, body_len]
  omega
theorem okH_len {h : Head} (hk : okH h = true) : 1 ≤ h.fBudgets.length ∧ h.fBudgets.length ≤ 16 := by
  unfold okH at hk
  simp only [Bool.and_eq_true, decide_eq_true_eq] at hk
  exact hk.1.2
theorem m18_eq (h : Head) (e : Int) (hl : h.fBudgets.length ≤ 16) : m18 h e = some (encH h e) := by
  unfold m18
  rw [show (4 : Int) = ((4 : Nat) : Int) from rfl, m38_eq e 4 [2] (by omega) (by simp)]
  dsimp only
  rw [if_pos (by simp [be_len])]
  have hq : ([2] ++ be 4 e ++ [IntKind.u8.wrap h.fMode, IntKind.u8.wrap (h.fBudgets.length : Int)]) = headB h e := rfl
  rw [hq, show (0 : Int) = ((0 : Nat) : Int) from rfl, a18_eq h.fBudgets hl h.fBudgets.length 0 (headB h e) (by omega) (by rw [headB_len]; omega)]
  dsimp only
  rw [decide_eq_false (by omega)]
  dsimp only [cond_false]
  rw [List.drop_zero, be3_eq, m39_eq _ (by rw [body_len]; omega)]
  rfl
theorem m15_eq (h : Head) (e : Int) (hl : h.fBudgets.length ≤ 100000) : m15 h e = some (if okH h && okF e then (encH h e, 0) else ([], 1)) := by
  unfold m15
  rw [m16_eq h hl, m30_eq]
  cases hk : okH h
  · simp
  · cases he : okF e
    · simp
    · have := okH_len hk
      have hq : ([2] ++ be 4 e ++ [IntKind.u8.wrap h.fMode, IntKind.u8.wrap (h.fBudgets.length : Int)]) = headB h e := rfl
      rw [show (4 : Int) = ((4 : Nat) : Int) from rfl, m31_eq e 4 [2] (by omega) (by simp)]
      dsimp only
      rw [hq, m31b_eq _ _ this.2 (by rw [headB_len]; omega)]
      have hc : (headB h e).length ≤ 1073741824 := by rw [headB_len]; omega
      simp only [if_pos hc, Bool.and_self, if_true, cond_true, cond_false]
      simp only [decide_true, cond_true, cond_false]
      rw [m32_eq _ (by rw [body_len]; omega)]
      rfl

theorem n43_at (a b : List Int) (hl : a.length ≤ 100000) (hab : a.length = b.length) (i : Nat) (h : i < a.length) : n43_0 ⟨a, b, a.length, i⟩ = if a[i]! = b[i]! then some (some ⟨a, b, a.length, ((i + 1 : Nat) : Int)⟩) else some none := by
  unfold n43_0
  dsimp only
  rw [wrap_id (n := (i : Int) + 1) (by omega) (by omega), decide_eq_true (show (i : Int) < a.length by omega), cond_true, if_pos (by omega), if_pos (by omega), Int.toNat_natCast]
  by_cases e : a[i]! = b[i]!
  · rw [if_pos e, decide_eq_true e]; rfl
  · rw [if_neg e, decide_eq_false e]; rfl
theorem m43_eq (a b : List Int) (hl : a.length ≤ 100000) : m43 a b = some (decide (a = b)) := by
  unfold m43
  by_cases he : a.length = b.length
  · rw [decide_eq_true (show (a.length : Int) = b.length by omega)]
    obtain ⟨j, q1, q2, q3, q4, q5⟩ := advG_count (rnd := n43_0) (fun i => ⟨a, b, a.length, (i : Nat)⟩) a.length (fun i hi => by
        rw [n43_at a b hl he i hi]
        by_cases e : a[i]! = b[i]!
        · rw [if_pos e]; exact .inl rfl
        · rw [if_neg e]; exact .inr fun r => by simp) (fun r => by
        unfold n43_0
        dsimp only
        rw [decide_eq_false (by omega)]
        simp) a.length 0 (by omega)
    have q3' : a43_0 ⟨a, b, a.length, 0⟩ = some ⟨a, b, a.length, j⟩ := q3
    rw [q3']
    have hlt : ∀ m (hm : m < j), a[m]! = b[m]! := by
      intro m hm
      have h1 := q4 m (by omega) hm
      rw [n43_at a b hl he m (by omega)] at h1
      by_cases e : a[m]! = b[m]!
      · exact e
      · rw [if_neg e] at h1; simp at h1
    by_cases hj : j = a.length
    · subst hj
      have : a = b := by
        apply List.ext_getElem he
        intro i h1 h2
        have := hlt i h1
        rwa [getElem!_pos a i h1, getElem!_pos b i h2] at this
      dsimp only
      rw [decide_eq_false (show ¬ (a.length : Int) < a.length by omega), decide_eq_true this]
      rfl
    · have hj' : j < a.length := by omega
      have hne : ¬ a[j]! = b[j]! := by
        intro e
        have h1 := q5 ⟨a, b, a.length, ((j + 1 : Nat) : Int)⟩
        rw [n43_at a b hl he j hj', if_pos e] at h1
        exact h1 rfl
      have : ¬ a = b := fun e => hne (by rw [e])
      dsimp only
      rw [Int.toNat_natCast, decide_eq_true (show (j : Int) < a.length by omega), decide_eq_false hne, decide_eq_false this, if_pos (by omega), if_pos (by omega)]
      rfl
  · rw [decide_eq_false (show ¬ (a.length : Int) = b.length by omega)]
    rw [decide_eq_false (fun h => he (by rw [h]))]
    rfl

theorem m19_eq (a b : Head) (hl : a.fBudgets.length ≤ 100000) : m19 a b = some (decide (a = b)) := by
  unfold m19
  rw [m43_eq _ _ hl]
  obtain ⟨m, x⟩ := a
  obtain ⟨n, y⟩ := b
  by_cases h : m = n
  · by_cases h2 : x = y <;> simp [h, h2]
  · simp [h]
def gH (l : List Int) (i : Nat) : Int := getS (List.drop (7 + 3 * i) (List.take (10 + 3 * i) l))
def gHs (l : List Int) (n : Nat) : List Int := (List.range n).map (gH l)
theorem gHs_len (l : List Int) (n : Nat) : (gHs l n).length = n := by simp [gHs]
theorem gHs_succ (l : List Int) (n : Nat) : gHs l (n + 1) = gHs l n ++ [gH l n] := by
  unfold gHs
  rw [List.range_succ, List.map_append]
  rfl
abbrev zH : Head := ⟨0, []⟩
theorem a17_eq (l : List Int) (h : l.length = 96) (m : Int) (n : Nat) (hn : n ≤ 16) : a17_0 ⟨l, n, 0, zH, ⟨m, []⟩⟩ = some ⟨l, n, n, zH, ⟨m, gHs l n⟩⟩ := by
  have := advG_all (rnd := n17_0) (fun i => ⟨l, n, (i : Nat), zH, ⟨m, gHs l i⟩⟩) n (fun i hi => by
    unfold n17_0
    dsimp only
    have e1 : IntKind.i64.wrap ((3 : Int) * (i : Nat)) = ((3 * i : Nat) : Int) := by rw [wrap_id (by omega) (by omega)]; omega
    have e2 : IntKind.i64.wrap ((7 : Int) + ((3 * i : Nat) : Int)) = ((7 + 3 * i : Nat) : Int) := by rw [wrap_id (by omega) (by omega)]; omega
    have e3 : IntKind.i64.wrap ((10 : Int) + ((3 * i : Nat) : Int)) = ((10 + 3 * i : Nat) : Int) := by rw [wrap_id (by omega) (by omega)]; omega
    rw [e1, e2, e3, wrap_id (n := (i : Int) + 1) (by omega) (by omega), decide_eq_true (by omega), cond_true, if_pos (by omega), Int.toNat_natCast, Int.toNat_natCast, m36_eq _ (by simp; omega)]
    dsimp only
    rw [if_pos (by rw [List.length_append, gHs_len]; simp; omega), gHs_succ]
    rfl) (fun r => by
    unfold n17_0
    dsimp only
    rw [decide_eq_false (by omega)]
    simp)
  exact this
theorem a20_eq (l : List Int) (h : l.length = 96) (m : Int) (n : Nat) (hn : n ≤ 16) (h6 : l[6]! = (n : Int)) : a20_0 ⟨l, 0, zH, ⟨m, []⟩⟩ = some ⟨l, n, zH, ⟨m, gHs l n⟩⟩ := by
  have ew : IntKind.i64.wrap (n : Int) = n := wrap_id (by omega) (by omega)
  have := advG_all (rnd := n20_0) (fun i => ⟨l, (i : Nat), zH, ⟨m, gHs l i⟩⟩) n (fun i hi => by
    unfold n20_0
    dsimp only
    have e1 : IntKind.i64.wrap ((3 : Int) * (i : Nat)) = ((3 * i : Nat) : Int) := by rw [wrap_id (by omega) (by omega)]; omega
    have e2 : IntKind.i64.wrap ((7 : Int) + ((3 * i : Nat) : Int)) = ((7 + 3 * i : Nat) : Int) := by rw [wrap_id (by omega) (by omega)]; omega
    have e3 : IntKind.i64.wrap ((10 : Int) + ((3 * i : Nat) : Int)) = ((10 + 3 * i : Nat) : Int) := by rw [wrap_id (by omega) (by omega)]; omega
    rw [if_pos (by omega), h6, ew, e1, e2, e3, wrap_id (n := (i : Int) + 1) (by omega) (by omega), decide_eq_true (by omega), cond_true, if_pos (by omega), Int.toNat_natCast, Int.toNat_natCast, m40_eq _ (by simp; omega)]
    dsimp only
    rw [if_pos (by rw [List.length_append, gHs_len]; simp; omega), gHs_succ]
    rfl) (fun r => by
    unfold n20_0
    dsimp only
    rw [if_pos (by omega), h6, ew, decide_eq_false (by omega)]
    simp)
  exact this
def hd (l : List Int) : Head := ⟨l[5]!, gHs l l[6]!.toNat⟩
def ep (l : List Int) : Int := getS (List.drop 1 (List.take 5 l))
open Classical in
noncomputable def decH (l : List Int) : Head × Int × Bool := if l.length = 96 ∧ l[6]! ≤ (16 : Int) ∧ okH (hd l) = true ∧ okF (ep l) = true ∧ encH (hd l) (ep l) = l then (hd l, ep l, true) else (zH, 0, false)
theorem byt_at {l : List Int} (hb : Byt l) {i : Nat} (hi : i < l.length) : 0 ≤ l[i]! ∧ l[i]! < 256 := by
  rw [getElem!_pos l i hi]
  exact hb _ (List.getElem_mem hi)
theorem encH_byt (h : Head) (e : Int) : Byt (encH h e) := by
  have hz : ∀ n, Byt (List.replicate n 0) := fun n x hx => by rw [List.mem_replicate] at hx; omega
  have h2 : Byt [2] := by simp [Byt]
  have hw : Byt [IntKind.u8.wrap h.fMode, IntKind.u8.wrap (h.fBudgets.length : Int)] := by
    intro x hx
    have e : ∀ n, IntKind.u8.wrap n = n % 256 := fun n => rfl
    simp only [List.mem_cons, List.not_mem_nil, or_false, e] at hx
    rcases hx with rfl | rfl <;> omega
  have hf : Byt (h.fBudgets.flatMap (be 3)) := fun x hx => by
    obtain ⟨y, _, hy⟩ := List.mem_flatMap.1 hx
    exact be_byte y 3 x hy
  unfold encH pad headB
  exact (((h2.append (be_byte e 4)).append hw).append hf).append (hz _)
theorem m17_eq (l : List Int) (hb : Byt l) : m17 l = some (decH l) := by
  unfold m17
  by_cases h : l.length = 96
  · have h' : (l.length : Int) = 96 := by omega
    have h6 := byt_at hb (i := 6) (by omega)
    rw [h']
    have e6 : l[Int.toNat 6]! = l[6]! := rfl
    rw [e6]
    by_cases hc : (16 : Int) < l[6]!
    · have : decH l = (zH, 0, false) := if_neg fun q => by have := q.2.1; omega
      rw [this, decide_eq_true hc]
      rfl
    · obtain ⟨n, hn⟩ : ∃ n : Nat, l[6]! = n := ⟨l[6]!.toNat, by omega⟩
      have ew : IntKind.i64.wrap l[6]! = n := by rw [hn]; exact wrap_id (by omega) (by omega)
      have h5 := byt_at hb (i := 5) (by omega)
      have ew5 : IntKind.i64.wrap l[5]! = l[5]! := wrap_id (by omega) (by omega)
      have ehd : (⟨l[5]!, gHs l n⟩ : Head) = hd l := by unfold hd; rw [hn]; rfl
      have hlen : (hd l).fBudgets.length ≤ 16 := by rw [← ehd]; show (gHs l n).length ≤ 16; rw [gHs_len]; omega
      rw [ew, ew5, decide_eq_false hc, a17_eq l h _ n (by omega)]
      dsimp only
      rw [decide_eq_false (show ¬ (n : Int) < n by omega)]
      dsimp only [cond_false]
      rw [ehd, h', m36_eq _ (by simp; omega)]
      simp only [m15_eq (hd l) _ (show (hd l).fBudgets.length ≤ 100000 by omega)]
      have eep : getS (List.drop 1 (List.take 5 l)) = ep l := rfl
      rw [eep]
      have hm := m37_eq (encH_byt (hd l) (ep l)) hb
      cases hk : okH (hd l) && okF (ep l)
      · have : decH l = (zH, 0, false) := if_neg fun q => by rw [q.2.2.1, q.2.2.2.1] at hk; cases hk
        rw [this]
        rfl
      · rw [Bool.and_eq_true] at hk
        by_cases he : encH (hd l) (ep l) = l
        · have : decH l = (hd l, ep l, true) := if_pos ⟨h, by omega, hk.1, hk.2, he⟩
          rw [this]
          rw [he] at hm
          simp [he, hm]
        · have : decH l = (zH, 0, false) := if_neg fun q => he q.2.2.2.2
          rw [this]
          simp [he, hm]
  · have : decH l = (zH, 0, false) := if_neg fun q => h q.1
    rw [this, decide_eq_false (show ¬ (l.length : Int) = 96 by omega)]
    rfl
theorem ep_nonneg (l : List Int) (hb : Byt l) (h : l.length = 96) : 0 ≤ ep l := by
  have hl : (List.drop 1 (List.take 5 l)).length = 4 := by simp; omega
  have hbb : Byt (List.drop 1 (List.take 5 l)) := fun x hx => hb x (List.mem_of_mem_take (List.mem_of_mem_drop hx))
  unfold ep
  revert hl hbb
  generalize List.drop 1 (List.take 5 l) = q
  intro hl hbb
  match q, hl with
  | [a, b, c, d], _ =>
    have h1 := hbb a (by simp)
    have h2 := hbb b (by simp)
    have h3 := hbb c (by simp)
    have h4 := hbb d (by simp)
    unfold getS
    simp only [List.foldl]
    rw [bOr_add 0 a (by omega) (by omega) (by omega) (by omega)]
    rw [bOr_add _ b (by omega) (by omega) (by omega) (by omega)]
    rw [bOr_add _ c (by omega) (by omega) (by omega) (by omega)]
    rw [bOr_add _ d (by omega) (by omega) (by omega) (by omega)]
    omega
theorem m20_eq (l : List Int) (hb : Byt l) : m20 l = some (decH l) := by
  unfold m20
  by_cases h : l.length = 96
  · have h' : (l.length : Int) = 96 := by omega
    have h6 := byt_at hb (i := 6) (by omega)
    rw [h']
    have e6 : l[Int.toNat 6]! = l[6]! := rfl
    have e0 : l[Int.toNat 0]! = l[0]! := rfl
    rw [e6, e0]
    by_cases h0 : l[0]! = (2 : Int)
    · by_cases hc1 : l[6]! < (1 : Int)
      · have : decH l = (zH, 0, false) := if_neg fun q => by
          have := (okH_len q.2.2.1).1
          have e : (hd l).fBudgets.length = l[6]!.toNat := gHs_len _ _
          omega
        rw [this, decide_eq_true h0, decide_eq_true hc1]
        rfl
      · by_cases hc : (16 : Int) < l[6]!
        · have : decH l = (zH, 0, false) := if_neg fun q => by have := q.2.1; omega
          rw [this, decide_eq_true h0, decide_eq_false hc1, decide_eq_true hc]
          rfl
        · obtain ⟨n, hn⟩ : ∃ n : Nat, l[6]! = n := ⟨l[6]!.toNat, by omega⟩
          have ew : IntKind.i64.wrap l[6]! = n := by rw [hn]; exact wrap_id (by omega) (by omega)
          have h5 := byt_at hb (i := 5) (by omega)
          have ew5 : IntKind.i64.wrap l[5]! = l[5]! := wrap_id (by omega) (by omega)
          have ehd : (⟨l[5]!, gHs l n⟩ : Head) = hd l := by unfold hd; rw [hn]; rfl
          have hlen : (hd l).fBudgets.length ≤ 16 := by rw [← ehd]; show (gHs l n).length ≤ 16; rw [gHs_len]; omega
          rw [ew5, decide_eq_true h0, decide_eq_false hc1, decide_eq_false hc, a20_eq l h _ n (by omega) hn]
          dsimp only
          rw [ew, decide_eq_false (show ¬ (n : Int) < n by omega)]
          dsimp only [cond_false]
          rw [ehd, h', m40_eq _ (by simp; omega)]
          have eep : getS (List.drop 1 (List.take 5 l)) = ep l := rfl
          simp only [m14_eq (hd l) (show (hd l).fBudgets.length ≤ 100000 by omega), eep, m18_eq (hd l) _ hlen]
          have hm := m11_eq (encH (hd l) (ep l)) l (by rw [encH_len _ _ hlen]; omega)
          have hp := ep_nonneg l hb h
          cases hk : okH (hd l)
          · have : decH l = (zH, 0, false) := if_neg fun q => by rw [q.2.2.1] at hk; cases hk
            rw [this]
            rfl
          · by_cases hf : 2147483647 < ep l
            · have : decH l = (zH, 0, false) := if_neg fun q => by
                have := q.2.2.2.1
                unfold okF at this
                rw [decide_eq_true_eq] at this
                omega
              rw [this, decide_eq_true hf]
              rfl
            · have hf' : okF (ep l) = true := decide_eq_true ⟨hp, by omega⟩
              by_cases he : encH (hd l) (ep l) = l
              · have : decH l = (hd l, ep l, true) := if_pos ⟨h, by omega, hk, hf', he⟩
                rw [this]
                rw [he] at hm
                simp [he, hm, hf]
              · have : decH l = (zH, 0, false) := if_neg fun q => he q.2.2.2.2
                rw [this]
                simp [he, hm, hf]
    · have : decH l = (zH, 0, false) := if_neg fun q => h0 (by rw [← q.2.2.2.2]; rfl)
      rw [this, decide_eq_false h0]
      rfl
  · have : decH l = (zH, 0, false) := if_neg fun q => h q.1
    rw [this, decide_eq_false (show ¬ (l.length : Int) = 96 by omega)]
    rfl

theorem getS_be3 (n : Int) (h1 : 0 ≤ n) (h2 : n ≤ 1048576) : getS (be 3 n) = n := by
  obtain ⟨m, rfl⟩ : ∃ m : Nat, n = m := ⟨n.toNat, by omega⟩
  have hm : m ≤ 1048576 := by omega
  have e : be 3 (m : Int) = [((m / 2 ^ 16 % 256 : Nat) : Int), ((m / 2 ^ 8 % 256 : Nat) : Int), ((m / 2 ^ 0 % 256 : Nat) : Int)] := by
    rw [← byte_of m 16 (by omega), ← byte_of m 8 (by omega), ← byte_of m 0 (by omega)]
    rfl
  rw [e, getS]
  simp only [List.foldl]
  generalize h2 : ((m / 2 ^ 16 % 256 : Nat) : Int) = b2
  generalize h3 : ((m / 2 ^ 8 % 256 : Nat) : Int) = b3
  generalize h4 : ((m / 2 ^ 0 % 256 : Nat) : Int) = b4
  rw [bOr_add 0 b2 (by omega) (by omega) (by omega) (by omega)]
  rw [bOr_add _ b3 (by omega) (by omega) (by omega) (by omega)]
  rw [bOr_add _ b4 (by omega) (by omega) (by omega) (by omega)]
  omega
theorem flat_at : ∀ (bs post : List Int) (i : Nat) (hi : i < bs.length), List.take 3 (List.drop (3 * i) (bs.flatMap (be 3) ++ post)) = be 3 bs[i]
  | b :: bs, post, 0, hi => by
    rw [Nat.mul_zero, List.drop_zero, List.flatMap_cons, List.append_assoc]
    exact List.take_left' (be_len 3 b)
  | b :: bs, post, i + 1, hi => by
    have ih := flat_at bs post i (by simpa using hi)
    rw [List.flatMap_cons, List.append_assoc]
    have : 3 * (i + 1) = (be 3 b).length + 3 * i := by rw [be_len]; omega
    rw [this, List.drop_append, Nat.add_sub_cancel_left, List.drop_of_length_le (by omega), List.nil_append, ih]
    rfl
theorem enc_slice (h : Head) (e : Int) (i : Nat) (hi : i < h.fBudgets.length) : List.drop (7 + 3 * i) (List.take (10 + 3 * i) (encH h e)) = be 3 h.fBudgets[i] := by
  rw [List.drop_take]
  have e1 : 10 + 3 * i - (7 + 3 * i) = 3 := by omega
  rw [e1]
  unfold encH pad
  rw [List.append_assoc]
  have e2 : 7 + 3 * i = (headB h e).length + 3 * i := by rw [headB_len]
  rw [e2, List.drop_append, Nat.add_sub_cancel_left, List.drop_of_length_le (by omega), List.nil_append]
  exact flat_at _ _ i hi
theorem wrap8 (n : Int) (h1 : 0 ≤ n) (h2 : n < 256) : IntKind.u8.wrap n = n := by
  show n % 256 = n
  omega
theorem hd_enc (h : Head) (e : Int) (hk : okH h = true) : hd (encH h e) = h := by
  have hl := okH_len hk
  have h5 : (encH h e)[5]! = IntKind.u8.wrap h.fMode := rfl
  have h6 : (encH h e)[6]! = IntKind.u8.wrap (h.fBudgets.length : Int) := rfl
  unfold okH at hk
  simp only [Bool.and_eq_true, Bool.or_eq_true, decide_eq_true_eq, List.all_eq_true] at hk
  unfold hd
  rw [h5, h6, wrap8 _ (by omega) (by omega), wrap8 _ (by omega) (by omega), Int.toNat_natCast]
  have : gHs (encH h e) h.fBudgets.length = h.fBudgets := by
    apply List.ext_getElem (gHs_len _ _)
    intro i h1 h2
    simp only [gHs, List.getElem_map, List.getElem_range]
    unfold gH
    rw [enc_slice h e i h2]
    have := hk.2 _ (List.getElem_mem h2)
    unfold okV at this
    rw [decide_eq_true_eq] at this
    exact getS_be3 _ (by omega) (by omega)
  rw [this]
theorem ep_enc (h : Head) (e : Int) (hf : okF e = true) : ep (encH h e) = e := by
  have : ep (encH h e) = getS (be 4 e) := rfl
  rw [this]
  unfold okF at hf
  rw [decide_eq_true_eq] at hf
  exact getS_be e hf.1 hf.2
theorem decH_enc (h : Head) (e : Int) (hk : okH h = true) (hf : okF e = true) : decH (encH h e) = (h, e, true) := by
  have hl := okH_len hk
  have h6 : (encH h e)[6]! = IntKind.u8.wrap (h.fBudgets.length : Int) := rfl
  unfold decH
  rw [hd_enc h e hk, ep_enc h e hf, if_pos ⟨encH_len h e hl.2, by rw [h6, wrap8 _ (by omega) (by omega)]; omega, hk, hf, rfl⟩]
theorem decH_same (l : List Int) : m19 (decH l).1 (decH l).1 = some true := by
  have : (decH l).1.fBudgets.length ≤ 100000 := by
    unfold decH
    split
    · rename_i q
      have := okH_len q.2.2.1
      show (hd l).fBudgets.length ≤ 100000
      omega
    · simp
  rw [m19_eq _ _ this, decide_eq_true rfl]
theorem m4_eq (h : Head) (e : Int) (l : List Int) (hb : Byt l) : m4 h e l = some true := by
  unfold m4
  have hm7 : m7 = true := rfl
  rw [hm7]
  dsimp only [cond_true, cond_false]
  by_cases h1 : 300 < (l.length : Int)
  · rw [decide_eq_true h1]; rfl
  · rw [decide_eq_false h1]
    by_cases h2 : 40 < (h.fBudgets.length : Int)
    · rw [decide_eq_true h2]; rfl
    · rw [decide_eq_false h2, m14_eq h (by omega), m15_eq h e (by omega), m16_eq h (by omega), m17_eq l hb, m20_eq l hb]
      dsimp only [cond_true, cond_false]
      cases hk : okH h
      · simp [decH_same l]
      · have hl := okH_len hk
        by_cases h3 : e < 0
        · have : okF e = false := decide_eq_false (by omega)
          simp [h3, this, decH_same l]
        · by_cases h4 : 2147483647 < e
          · have : okF e = false := decide_eq_false (by omega)
            simp [h3, h4, this, decH_same l]
          · have hf : okF e = true := decide_eq_true (by omega)
            have q1 := m17_eq (encH h e) (encH_byt h e)
            rw [decH_enc h e hk hf] at q1
            have q2 := m11_eq (encH h e) (encH h e) (by rw [encH_len h e hl.2]; omega)
            have q3 := m19_eq h h (by omega)
            simp [h3, h4, hf, q1, m18_eq h e hl.2, q2, q3, decH_same l]
theorem o4_eq : o4 true = ⟨.b true, [], 0⟩ := by kernel_rfl
theorem byt_of' {l : List Int} (h : ∀ a ∈ l, okB a) : Byt l := fun x hx => by
  have := h x hx
  unfold okB at this
  simp only [Lit.wf, Bool.and_eq_true, decide_eq_true_eq] at this
  have e1 : IntKind.u8.min = 0 := rfl
  have e2 : IntKind.u8.max = 255 := rfl
  omega
theorem law4 (h : Head) (e : Int) (l : List Int) (hb : ∀ a ∈ l, okB a) : Iv.Fn Try.prog 4 [.agg (uni.cells 38 h), .n .i64 e, .sl 5 l] [] (fun a s => a = .b true ∧ s = []) :=
  (fn4 h e l true (m4_eq h e l (byt_of' hb))).2.law o4_eq (by kernel_rfl)
end Go.Proofs.Ytgdahkddhecloaa
