/- Plain laws: loops; known; Valid; DiskNew. -/
import Derived.Test.YtfipaakafcjjhaaG2
set_option linter.unusedSectionVars false
set_option linter.unusedVariables false
set_option linter.unusedSimpArgs false
namespace Go.Proofs.Ytfipaakafcjjhaa
open Go Go.RowKit Go.Ab

set_option maxRecDepth 100000 in
theorem m11_eq : m11 = some true := by kernel_rfl

/-! ### loops -/
theorem w64_succ {i len : Nat} (hl : len ≤ 9223372036854775807) (h : i < len) : w64 ((i : Int) + 1) = ((i + 1 : Nat) : Int) := by
  rw [w64_eq (by omega)]; omega

theorem srch {γ : Type} (len : Nat) (hl : len ≤ 9223372036854775807) (bad : Nat → Bool) (g : Int → γ) (F : Nat → Int → Option (Sum Unit γ))
    (h : ∀ k (i : Nat), i ≤ len → F (k + 1) (i : Int) = if i < len then (if bad i = true then some (.inr (g i)) else F k (w64 ((i : Int) + 1))) else some (.inl ())) :
    ((∀ i, i < len → bad i = false) ∧ F (len + 1) 0 = some (.inl ())) ∨ (∃ i, i < len ∧ bad i = true ∧ F (len + 1) 0 = some (.inr (g i))) := by
  have key : ∀ (k i : Nat), i ≤ len → len - i < k → (∀ j, j < i → bad j = false) →
      ((∀ i, i < len → bad i = false) ∧ F k i = some (.inl ())) ∨ (∃ i', i' < len ∧ bad i' = true ∧ F k i = some (.inr (g i'))) := by
    intro k
    induction k with
    | zero => intro i _ hk; omega
    | succ k ih =>
      intro i hi hk hb
      rw [h k i hi]
      by_cases hlt : i < len
      · rw [if_pos hlt]
        by_cases hx : bad i = true
        · rw [if_pos hx]
          exact .inr ⟨i, hlt, hx, rfl⟩
        · rw [if_neg hx, w64_succ hl hlt]
          refine ih (i + 1) hlt (by omega) fun j hj => ?_
          by_cases hji : j = i
          · subst hji; simpa using hx
          · exact hb j (by omega)
      · rw [if_neg hlt]
        exact .inl ⟨fun j hj => hb j (by omega), rfl⟩
  exact key (len + 1) 0 (Nat.zero_le _) (by omega) (fun j hj => by omega)

theorem foldl {β : Type} (len : Nat) (hl : len ≤ 9223372036854775807) (step : Nat → β → Option β) (F : Nat → β → Int → Option β) (b : β)
    (h : ∀ k b (i : Nat), i ≤ len → F (k + 1) b (i : Int) = if i < len then (step i b).bind (fun b' => F k b' (w64 ((i : Int) + 1))) else some b) (Inv : Nat → β → Prop) (h0 : Inv 0 b)
    (hs : ∀ i b, i < len → Inv i b → ∃ b', step i b = some b' ∧ Inv (i + 1) b') : ∃ b', F (len + 1) b 0 = some b' ∧ Inv len b' := by
  have key : ∀ (k i : Nat) b, i ≤ len → len - i < k → Inv i b → ∃ b', F k b i = some b' ∧ Inv len b' := by
    intro k
    induction k with
    | zero => intro i b _ hk; omega
    | succ k ih =>
      intro i b hi hk hb
      rw [h k b i hi]
      by_cases hlt : i < len
      · rw [if_pos hlt]
        obtain ⟨b', h1, h2⟩ := hs i b hlt hb
        rw [h1, Option.bind_some, w64_succ hl hlt]
        exact ih (i + 1) b' hlt (by omega) h2
      · rw [if_neg hlt]
        obtain rfl : i = len := by omega
        exact ⟨b, rfl, hb⟩
  exact key (len + 1) 0 b (Nat.zero_le _) (by omega) h0

theorem notT {b : Bool} (h : (!b) = true) : b = false := by cases b <;> simp_all
theorem notF {b : Bool} (h : (!b) = false) : b = true := by cases b <;> simp_all
abbrev big : Nat := 9223372036854775807

/-! ### Valid -/
def V (d : Disk) : Bool := decide (1 ≤ d.fDurable.length) && decide (d.fDurable.length ≤ 4096) && decide (d.fPending.length ≤ 8192) && d.fDurable.all (fun b => decide (b.length = 96)) && d.fPending.all (fun w => decide (0 ≤ w.fAt) && decide (w.fAt < (d.fDurable.length : Int)) && decide (w.fData.length = 96))

theorem all_of {α : Type} [Inhabited α] (l : List α) (p : α → Bool) (h : ∀ i, i < l.length → p l[i]! = true) : l.all p = true := by
  rw [List.all_eq_true]
  intro x hx
  obtain ⟨i, hi, rfl⟩ := List.getElem_of_mem hx
  have := h i hi
  rwa [getElem!_pos l i hi] at this
theorem all_not {α : Type} [Inhabited α] (l : List α) (p : α → Bool) {i : Nat} (hi : i < l.length) (h : p l[i]! = false) : l.all p = false := by
  rw [List.all_eq_false]
  exact ⟨l[i], List.getElem_mem _, by rw [getElem!_pos l i hi] at h; simp [h]⟩
theorem all_get {α : Type} [Inhabited α] {l : List α} {p : α → Bool} (h : l.all p = true) {i : Nat} (hi : i < l.length) : p l[i]! = true := by
  rw [getElem!_pos l i hi]
  exact List.all_eq_true.1 h _ (List.getElem_mem _)

theorem m33_eq (l : List (List Int)) (hl : l.length ≤ big) : m33 l = some (!l.all (fun b => decide (b.length = 96))) := by
  have h := srch l.length hl (fun i => !decide (l[i]!.length = 96)) (fun n => n) (m48_l1 l) (fun k i hi => by
    rw [m48_l1]
    by_cases hlt : i < l.length
    · simp [hlt, m34, m32]
      by_cases hx : l[i].length = 96 <;> simp [hx] <;> omega
    · simp [hlt])
  unfold m33 m48
  rw [Int.toNat_natCast]
  rcases h with ⟨h1, h2⟩ | ⟨i, hi, h1, h2⟩
  · rw [h2, all_of l _ (fun i hi => notF (h1 i hi))]
    rfl
  · rw [h2, all_not l _ hi (by simpa using h1)]
    simp

theorem m36_eq (w : Write) (n : Int) : m36 w n = some (!(decide (0 ≤ w.fAt) && decide (w.fAt < n) && decide (w.fData.length = 96))) := by
  unfold m36 m32
  by_cases h1 : w.fAt < 0
  · simp [h1] <;> omega
  · by_cases h2 : n ≤ w.fAt
    · simp [h1, h2] <;> omega
    · by_cases h3 : w.fData.length = 96
      · simp [h1, h2, h3] <;> omega
      · simp [h1, h2, h3] <;> omega

theorem m35_eq (l : List Write) (n : Int) (hl : l.length ≤ big) : m35 l n = some (!l.all (fun w => decide (0 ≤ w.fAt) && decide (w.fAt < n) && decide (w.fData.length = 96))) := by
  have h := srch l.length hl (fun i => !(decide (0 ≤ l[i]!.fAt) && decide (l[i]!.fAt < n) && decide (l[i]!.fData.length = 96))) (fun n => n) (m49_l1 l n) (fun k i hi => by
    rw [m49_l1]
    by_cases hlt : i < l.length
    · rw [if_pos (by simpa using hlt), if_pos (by omega), m36_eq, Option.bind_some, if_pos hlt, Int.toNat_natCast]
    · simp [hlt])
  unfold m35 m49
  rw [Int.toNat_natCast]
  rcases h with ⟨h1, h2⟩ | ⟨i, hi, h1, h2⟩
  · rw [h2, all_of l _ (fun i hi => notF (h1 i hi))]
    rfl
  · rw [h2, all_not l _ hi (notT h1)]
    simp

theorem m13_eq (d : Disk) (h1 : d.fDurable.length ≤ big) (h2 : d.fPending.length ≤ big) : m13 d = some (V d) := by
  unfold m13 V
  rw [m33_eq _ h1, m35_eq _ _ h2]
  by_cases q1 : d.fDurable.length = 0
  · simp [q1]
  · by_cases q2 : d.fDurable.length ≤ 4096
    · by_cases q3 : d.fPending.length ≤ 8192
      · have e1 : ¬ ((d.fDurable.length : Int) < 1) := by omega
        have e2 : ¬ ((4096 : Int) < (d.fDurable.length : Int)) := by omega
        have e3 : ¬ ((8192 : Int) < (d.fPending.length : Int)) := by omega
        have e4 : 1 ≤ d.fDurable.length := by omega
        simp only [decide_eq_true_eq, e1, e2, e3, if_false, Option.bind_some, decide_false, Bool.false_eq_true, q2, q3, e4, decide_true, Bool.true_and]
        cases d.fDurable.all (fun b => decide (b.length = 96)) <;> simp
      · have e3 : (8192 : Int) < (d.fPending.length : Int) := by omega
        have e1 : ¬ ((d.fDurable.length : Int) < 1) := by omega
        have e2 : ¬ ((4096 : Int) < (d.fDurable.length : Int)) := by omega
        simp [q3, e1, e2, e3]
    · have e2 : (4096 : Int) < (d.fDurable.length : Int) := by omega
      have e1 : ¬ ((d.fDurable.length : Int) < 1) := by omega
      simp [q2, e1, e2]

theorem m25_eq (d : Disk) (h1 : d.fDurable.length ≤ big) (h2 : d.fPending.length ≤ big) : m25 d = some (V d) := by
  have s1 := srch d.fDurable.length h1 (fun i => !decide (d.fDurable[i]!.length = 96)) (fun _ => false) (m25_l1 d) (fun k i hi => by
    rw [m25_l1]
    by_cases hlt : i < d.fDurable.length
    · rw [if_pos (by simpa using hlt), if_pos (by omega), if_pos hlt, Int.toNat_natCast]
      by_cases hx : d.fDurable[i]!.length = 96
      · have hx' : (d.fDurable[i]!.length : Int) = 96 := by omega
        rw [if_neg (by rw [decide_eq_true hx']; decide), if_neg (by rw [decide_eq_true hx]; decide)]
      · have hx' : ¬ ((d.fDurable[i]!.length : Int) = 96) := by omega
        rw [if_pos (by rw [decide_eq_false hx']; rfl), if_pos (by rw [decide_eq_false hx]; rfl)]
    · simp [hlt])
  have s2 := srch d.fPending.length h2 (fun i => !(decide (0 ≤ d.fPending[i]!.fAt) && decide (d.fPending[i]!.fAt < (d.fDurable.length : Int)) && decide (d.fPending[i]!.fData.length = 96))) (fun _ => false) (m25_l2 d) (fun k i hi => by
    rw [m25_l2]
    by_cases hlt : i < d.fPending.length
    · rw [if_pos (by simpa using hlt), if_pos (by omega), if_pos hlt, Int.toNat_natCast]
      have := m36_eq d.fPending[i]! (d.fDurable.length : Int)
      unfold m36 m32 at this
      simp only [Option.bind_some] at this
      have e : (Option.bind (if (decide (d.fPending[i]!.fAt < 0)) = true then some true else if (decide ((d.fDurable.length : Int) ≤ d.fPending[i]!.fAt)) = true then some true else some (!decide ((d.fPending[i]!.fData.length : Int) = 96))) fun c1 => some c1) = some (!(decide (0 ≤ d.fPending[i]!.fAt) && decide (d.fPending[i]!.fAt < (d.fDurable.length : Int)) && decide (d.fPending[i]!.fData.length = 96))) := this
      rw [Option.bind_fun_some] at e
      rw [e, Option.bind_some]
    · simp [hlt])
  unfold m25 V
  rw [Int.toNat_natCast, Int.toNat_natCast]
  by_cases q1 : d.fDurable.length = 0
  · simp [q1]
  · by_cases q2 : d.fDurable.length ≤ 4096
    · by_cases q3 : d.fPending.length ≤ 8192
      · have e1 : ¬ ((d.fDurable.length : Int) < 1) := by omega
        have e2 : ¬ ((4096 : Int) < (d.fDurable.length : Int)) := by omega
        have e3 : ¬ ((8192 : Int) < (d.fPending.length : Int)) := by omega
        have e4 : 1 ≤ d.fDurable.length := by omega
        simp only [decide_eq_true_eq, e1, e2, e3, if_false, Option.bind_some, decide_false, Bool.false_eq_true, q2, q3, e4, decide_true, Bool.true_and]
        rcases s1 with ⟨a1, a2⟩ | ⟨i, hi, a1, a2⟩
        · rw [a2, all_of d.fDurable _ (fun i hi => by simpa using a1 i hi)]
          rcases s2 with ⟨b1, b2⟩ | ⟨j, hj, b1, b2⟩
          · rw [b2, all_of d.fPending _ (fun i hi => notF (b1 i hi))]
            rfl
          · rw [b2, all_not d.fPending _ hj (notT b1)]
            rfl
        · rw [a2, all_not d.fDurable _ hi (by simpa using a1)]
          rfl
      · have e3 : (8192 : Int) < (d.fPending.length : Int) := by omega
        have e1 : ¬ ((d.fDurable.length : Int) < 1) := by omega
        have e2 : ¬ ((4096 : Int) < (d.fDurable.length : Int)) := by omega
        simp [q3, e1, e2, e3]
    · have e2 : (4096 : Int) < (d.fDurable.length : Int) := by omega
      have e1 : ¬ ((d.fDurable.length : Int) < 1) := by omega
      simp [q2, e1, e2]

/-! ### sectors, strings -/
theorem m15_eq (n : Int) : m15 n = some (List.replicate 96 n) := rfl
theorem m14_self (l : List Int) : m14 l l = some true := by simp [m14]

/-! ### DiskNew -/
theorem m12_eq (n : Int) : m12 n = some ⟨List.replicate (if (4096 : Int) < (if n < 1 then 1 else n) then 4096 else (if n < 1 then 1 else n)).toNat (List.replicate 96 0), [], -1, false⟩ := by
  obtain ⟨N, hN, hb⟩ : ∃ N : Nat, (if (4096 : Int) < (if n < 1 then 1 else n) then 4096 else (if n < 1 then 1 else n)) = (N : Int) ∧ N ≤ 4096 := by
    refine ⟨(if (4096 : Int) < (if n < 1 then 1 else n) then 4096 else (if n < 1 then 1 else n)).toNat, ?_, ?_⟩
    · split <;> split <;> omega
    · split <;> split <;> omega
  obtain ⟨b, h1, h2⟩ := foldl N (by omega) (fun i b => if (b ++ [List.replicate 96 (0 : Int)]).length ≤ 1073741824 then some (b ++ [List.replicate 96 (0 : Int)]) else none) (m12_l1 n) [] (fun k b i hi => by
    rw [m12_l1, hN]
    by_cases hlt : i < N
    · rw [if_pos (by simpa using hlt), if_pos hlt]
      show Option.bind (if (b ++ [List.replicate 96 (0 : Int)]).length ≤ 1073741824 then some () else none) (fun _ => m12_l1 n k (b ++ [List.replicate 96 (0 : Int)]) (w64 (i + 1))) = _
      by_cases hx : (b ++ [List.replicate 96 (0 : Int)]).length ≤ 1073741824
      · rw [if_pos hx, if_pos hx]; rfl
      · rw [if_neg hx, if_neg hx]; rfl
    · rw [if_neg (by simpa using hlt), if_neg hlt])
    (fun i b => b = List.replicate i (List.replicate 96 0)) rfl (fun i b hi hb => by
      subst hb
      refine ⟨_, if_pos (by simp; omega), ?_⟩
      rw [← List.replicate_succ'])
  unfold m12
  rw [hN, Int.toNat_natCast, h1]
  simp [h2]

theorem law3 (n : Int) : m3 n = some true := by
  unfold m3
  rw [m11_eq, m12_eq]
  by_cases hn : (100 : Int) < n
  · simp [hn]
  · have e0 : (if (4096 : Int) < (if n < 1 then 1 else n) then 4096 else (if n < 1 then 1 else n)) = (if n < 1 then 1 else n) := by
      exact if_neg (show ¬ ((4096 : Int) < (if n < 1 then 1 else n)) from by split <;> omega)
    rw [e0]
    obtain ⟨N, hN, hb⟩ : ∃ N : Nat, (if n < 1 then 1 else n) = (N : Int) ∧ 1 ≤ N ∧ N ≤ 100 := ⟨(if n < 1 then 1 else n).toNat, by split <;> omega, by split <;> omega, by split <;> omega⟩
    rw [hN, Int.toNat_natCast]
    have hV : V ⟨List.replicate N (List.replicate 96 0), [], -1, false⟩ = true := by
      simp [V]; omega
    obtain ⟨D, hD⟩ : ∃ D : Disk, D = ⟨List.replicate N (List.replicate 96 0), [], -1, false⟩ := ⟨_, rfl⟩
    rw [← hD] at hV ⊢
    have hlen : D.fDurable.length = N := by rw [hD]; simp
    have hget : ∀ i, i < N → D.fDurable[i]! = List.replicate 96 0 := fun i hi => by
      rw [getElem!_pos _ i (by omega)]; simp [hD]
    have hp : D.fPending = [] := by rw [hD]
    have h13 := m13_eq D (by rw [hlen]; show N ≤ 9223372036854775807; omega) (by rw [hp]; simp)
    rw [hV] at h13
    rcases srch N (by omega) (fun i => false) (fun _ => false) (m3_l1 D) (fun k i hi => by
      rw [m3_l1, hlen]
      by_cases hlt : i < N
      · rw [if_pos (by simpa using hlt), if_pos (by omega), if_pos hlt, Int.toNat_natCast, hget i hlt, m15_eq, Option.bind_some, m14_self]
        rfl
      · rw [if_neg (by simpa using hlt), if_neg hlt]) with ⟨_, h2⟩ | ⟨_, _, h, _⟩
    · have e1 : D.fLeft = -1 := by rw [hD]
      have e2 : D.fDown = false := by rw [hD]
      simp only [Option.bind_some, Bool.not_true, Bool.false_eq_true, if_false, decide_eq_true_eq, hn, hlen, hp, e1, e2, h13, List.length_nil, decide_true, Int.ofNat_zero, Int.toNat_natCast, h2]
    · cases h

end Go.Proofs.Ytfipaakafcjjhaa
