/- Plain laws: copies, equality, few; DiskReads, DiskSyncs, DiskCrashes, DiskWrites. -/
import Derived.Test.YtfipaakafcjjhaaL1
set_option linter.unusedSectionVars false
set_option linter.unusedVariables false
set_option linter.unusedSimpArgs false
namespace Go.Proofs.Ytfipaakafcjjhaa
open Go Go.RowKit Go.Ab

theorem m39_eq {l : List Int} (h : l.length ≤ 1073741824) : m39 l = some l := by simp [m39, h]
theorem m31_eq {l : List Int} (h : l.length ≤ 1073741824) : m31 l = some l := by simp [m31, h]

/-- a disk whose copy is within bounds -/
structure Small (d : Disk) : Prop where
  du : d.fDurable.length ≤ 1073741824
  pe : d.fPending.length ≤ 1073741824
  db : ∀ i, i < d.fDurable.length → d.fDurable[i]!.length ≤ 1073741824
  pb : ∀ i, i < d.fPending.length → d.fPending[i]!.fData.length ≤ 1073741824

theorem take_get {α : Type} [Inhabited α] (l : List α) {i : Nat} (h : i < l.length) : l.take (i + 1) = l.take i ++ [l[i]!] := by
  rw [List.take_add_one, List.getElem?_eq_getElem h, getElem!_pos l i h]
  rfl

theorem small_of_V {d : Disk} (h : V d = true) : Small d := by
  unfold V at h
  simp only [Bool.and_eq_true, decide_eq_true_eq] at h
  obtain ⟨⟨⟨⟨h1, h2⟩, h3⟩, h4⟩, h5⟩ := h
  refine ⟨by omega, by omega, fun i hi => ?_, fun i hi => ?_⟩
  · have := all_get h4 hi
    simp only [decide_eq_true_eq] at this
    omega
  · have := all_get h5 hi
    simp only [Bool.and_eq_true, decide_eq_true_eq] at this
    omega

theorem copy_loop {α : Type} [Inhabited α] (l : List α) (hl : l.length ≤ 1073741824) (F : Nat → List α → Int → Option (List α)) (clone : α → Option α) (hc : ∀ i, i < l.length → clone l[i]! = some l[i]!)
    (h : ∀ k b (i : Nat), i ≤ l.length → F (k + 1) b (i : Int) = if i < l.length then ((clone l[i]!).bind fun x => if (b ++ [x]).length ≤ 1073741824 then some (b ++ [x]) else none).bind (fun b' => F k b' (w64 ((i : Int) + 1))) else some b) : F (l.length + 1) [] 0 = some l := by
  obtain ⟨b, h1, h2⟩ := foldl l.length (by omega) (fun i b => (clone l[i]!).bind fun x => if (b ++ [x]).length ≤ 1073741824 then some (b ++ [x]) else none) F [] h (fun i b => b = l.take i) rfl (fun i b hi hb => by
    subst hb
    refine ⟨l.take (i + 1), ?_, rfl⟩
    rw [hc i hi, Option.bind_some, take_get l hi, if_pos]
    rw [List.length_append, List.length_take]
    simp
    omega)
  rw [h1, h2, List.take_of_length_le (Nat.le_refl _)]

theorem m40_eq {d : Disk} (h : Small d) : m40 d = some d := by
  unfold m40
  rw [Int.toNat_natCast, Int.toNat_natCast]
  rw [copy_loop d.fDurable h.du (m40_l1 d) m39 (fun i hi => m39_eq (h.db i hi)) (fun k b i hi => by
    rw [m40_l1]
    by_cases hlt : i < d.fDurable.length
    · rw [if_pos (by simpa using hlt), if_pos (by omega), if_pos hlt, Int.toNat_natCast]
    · rw [if_neg (by simpa using hlt), if_neg hlt])]
  rw [copy_loop d.fPending h.pe (m40_l2 d) (fun w => (m39 w.fData).bind fun x => some ⟨w.fAt, x⟩) (fun i hi => by rw [m39_eq (h.pb i hi)]; rfl) (fun k b i hi => by
    rw [m40_l2]
    by_cases hlt : i < d.fPending.length
    · rw [if_pos (by simpa using hlt), if_pos (by omega), if_pos hlt, Int.toNat_natCast]
      cases m39 d.fPending[i]!.fData <;> rfl
    · rw [if_neg (by simpa using hlt), if_neg hlt])]
  rfl

theorem m40_1_eq {d : Disk} (h : Small d) : m40_1 d = some d := by
  unfold m40_1
  rw [Int.toNat_natCast, Int.toNat_natCast]
  rw [copy_loop d.fDurable h.du (m40_1_l1 d) m39 (fun i hi => m39_eq (h.db i hi)) (fun k b i hi => by
    rw [m40_1_l1]
    by_cases hlt : i < d.fDurable.length
    · rw [if_pos (by simpa using hlt), if_pos (by omega), if_pos hlt, Int.toNat_natCast]
    · rw [if_neg (by simpa using hlt), if_neg hlt])]
  rw [copy_loop d.fPending h.pe (m40_1_l2 d) (fun w => (m39 w.fData).bind fun x => some ⟨w.fAt, x⟩) (fun i hi => by rw [m39_eq (h.pb i hi)]; rfl) (fun k b i hi => by
    rw [m40_1_l2]
    by_cases hlt : i < d.fPending.length
    · rw [if_pos (by simpa using hlt), if_pos (by omega), if_pos hlt, Int.toNat_natCast]
      cases m39 d.fPending[i]!.fData <;> rfl
    · rw [if_neg (by simpa using hlt), if_neg hlt])]
  rfl

theorem m30_eq {d : Disk} (h : Small d) : m30 d = some d := by
  unfold m30
  rw [Int.toNat_natCast, Int.toNat_natCast]
  rw [copy_loop d.fDurable h.du (m30_l1 d) m31 (fun i hi => m31_eq (h.db i hi)) (fun k b i hi => by
    rw [m30_l1]
    by_cases hlt : i < d.fDurable.length
    · rw [if_pos (by simpa using hlt), if_pos (by omega), if_pos hlt, Int.toNat_natCast]
    · rw [if_neg (by simpa using hlt), if_neg hlt])]
  rw [copy_loop d.fPending h.pe (m30_l2 d) (fun w => (m31 w.fData).bind fun x => some ⟨w.fAt, x⟩) (fun i hi => by rw [m31_eq (h.pb i hi)]; rfl) (fun k b i hi => by
    rw [m30_l2]
    by_cases hlt : i < d.fPending.length
    · rw [if_pos (by simpa using hlt), if_pos (by omega), if_pos hlt, Int.toNat_natCast]
      cases m31 d.fPending[i]!.fData <;> rfl
    · rw [if_neg (by simpa using hlt), if_neg hlt])]
  rfl

theorem m30_1_eq {d : Disk} (h : Small d) : m30_1 d = some d := by
  unfold m30_1
  rw [Int.toNat_natCast, Int.toNat_natCast]
  rw [copy_loop d.fDurable h.du (m30_1_l1 d) m31 (fun i hi => m31_eq (h.db i hi)) (fun k b i hi => by
    rw [m30_1_l1]
    by_cases hlt : i < d.fDurable.length
    · rw [if_pos (by simpa using hlt), if_pos (by omega), if_pos hlt, Int.toNat_natCast]
    · rw [if_neg (by simpa using hlt), if_neg hlt])]
  rw [copy_loop d.fPending h.pe (m30_1_l2 d) (fun w => (m31 w.fData).bind fun x => some ⟨w.fAt, x⟩) (fun i hi => by rw [m31_eq (h.pb i hi)]; rfl) (fun k b i hi => by
    rw [m30_1_l2]
    by_cases hlt : i < d.fPending.length
    · rw [if_pos (by simpa using hlt), if_pos (by omega), if_pos hlt, Int.toNat_natCast]
      cases m31 d.fPending[i]!.fData <;> rfl
    · rw [if_neg (by simpa using hlt), if_neg hlt])]
  rfl

/-! ### equality -/
theorem eq_loop {α : Type} [Inhabited α] [DecidableEq α] (p q : List α) (hlen : p.length = q.length) (hl : p.length ≤ big) (eqv : α → α → Option Bool) (he : ∀ i, i < p.length → eqv p[i]! q[i]! = some (decide (p[i]! = q[i]!))) (F : Nat → Int → Option (Sum Unit Bool))
    (h : ∀ k (i : Nat), i ≤ p.length → F (k + 1) (i : Int) = if i < p.length then ((eqv p[i]! q[i]!).bind fun x1 => if (!x1) = true then some (.inr false) else F k (w64 ((i : Int) + 1))) else some (.inl ())) :
    (p = q ∧ F (p.length + 1) 0 = some (.inl ())) ∨ (p ≠ q ∧ F (p.length + 1) 0 = some (.inr false)) := by
  rcases srch p.length hl (fun i => !decide (p[i]! = q[i]!)) (fun _ => false) F (fun k i hi => by
    rw [h k i hi]
    by_cases hlt : i < p.length
    · rw [if_pos hlt, if_pos hlt, he i hlt, Option.bind_some]
    · rw [if_neg hlt, if_neg hlt]) with ⟨h1, h2⟩ | ⟨i, hi, h1, h2⟩
  · refine .inl ⟨List.ext_getElem hlen fun i hi hi' => ?_, h2⟩
    have := notF (h1 i hi)
    rw [decide_eq_true_eq, getElem!_pos p i hi, getElem!_pos q i hi'] at this
    exact this
  · refine .inr ⟨fun e => ?_, h2⟩
    have := notT h1
    rw [decide_eq_false_iff_not] at this
    exact this (by rw [e])

def same14 (x y : List Int) : Prop := m14 x y = some (decide (x = y))
theorem same14_self (x : List Int) : same14 x x := by unfold same14; rw [m14_self]; simp

theorem m47_eq (p q : List Int) (hl : p.length ≤ big) : m47 p q = some (decide (p = q)) := by
  unfold m47
  by_cases hlen : p.length = q.length
  · rw [if_neg (by rw [decide_eq_true (by omega)]; decide), Int.toNat_natCast]
    rcases eq_loop p q hlen hl (fun x y => some (decide (x = y))) (fun _ _ => rfl) (m47_l1 p q) (fun k i hi => by
      rw [m47_l1]
      by_cases hlt : i < p.length
      · rw [if_pos (by simpa using hlt), if_pos (by omega), if_pos (by omega), if_pos hlt, Int.toNat_natCast, Option.bind_some]
      · rw [if_neg (by simpa using hlt), if_neg hlt]) with ⟨h1, h2⟩ | ⟨h1, h2⟩
    · rw [h2, decide_eq_true h1]; rfl
    · rw [h2, decide_eq_false h1]; rfl
  · rw [if_pos (by rw [decide_eq_false (by omega)]; rfl), decide_eq_false (fun e => hlen (by rw [e]))]

theorem m42_eq (p q : List (List Int)) (hl : p.length ≤ big) (he : ∀ i, i < p.length → i < q.length → same14 p[i]! q[i]!) : m42 p q = some (decide (p = q)) := by
  unfold m42
  by_cases hlen : p.length = q.length
  · rw [if_neg (by rw [decide_eq_true (by omega)]; decide), Int.toNat_natCast]
    rcases eq_loop p q hlen hl m14 (fun i hi => he i hi (by omega)) (m42_l1 p q) (fun k i hi => by
      rw [m42_l1]
      by_cases hlt : i < p.length
      · rw [if_pos (by simpa using hlt), if_pos (by omega), if_pos (by omega), if_pos hlt, Int.toNat_natCast]
      · rw [if_neg (by simpa using hlt), if_neg hlt]) with ⟨h1, h2⟩ | ⟨h1, h2⟩
    · rw [h2, decide_eq_true h1]; rfl
    · rw [h2, decide_eq_false h1]; rfl
  · rw [if_pos (by rw [decide_eq_false (by omega)]; rfl), decide_eq_false (fun e => hlen (by rw [e]))]

theorem write_eq (x y : Write) : decide (x = y) = (decide (x.fAt = y.fAt) && decide (x.fData = y.fData)) := by
  cases x; cases y; simp [Write.mk.injEq]

theorem m44_eq (x y : Write) (h : same14 x.fData y.fData) : m44 x y = some (decide (x = y)) := by
  unfold m44
  rw [show m14 x.fData y.fData = _ from h, write_eq]
  by_cases h1 : x.fAt = y.fAt <;> simp [h1]

theorem m43_eq (p q : List Write) (hl : p.length ≤ big) (he : ∀ i, i < p.length → i < q.length → same14 p[i]!.fData q[i]!.fData) : m43 p q = some (decide (p = q)) := by
  unfold m43
  by_cases hlen : p.length = q.length
  · rw [if_neg (by rw [decide_eq_true (by omega)]; decide), Int.toNat_natCast]
    rcases eq_loop p q hlen hl m44 (fun i hi => m44_eq _ _ (he i hi (by omega))) (m43_l1 p q) (fun k i hi => by
      rw [m43_l1]
      by_cases hlt : i < p.length
      · rw [if_pos (by simpa using hlt), if_pos (by omega), if_pos (by omega), if_pos hlt, Int.toNat_natCast]
      · rw [if_neg (by simpa using hlt), if_neg hlt]) with ⟨h1, h2⟩ | ⟨h1, h2⟩
    · rw [h2, decide_eq_true h1]; rfl
    · rw [h2, decide_eq_false h1]; rfl
  · rw [if_pos (by rw [decide_eq_false (by omega)]; rfl), decide_eq_false (fun e => hlen (by rw [e]))]

theorem disk_eq (x y : Disk) : decide (x = y) = (decide (x.fLeft = y.fLeft) && ((x.fDown == y.fDown) && (decide (x.fDurable = y.fDurable) && decide (x.fPending = y.fPending)))) := by
  cases x; cases y
  simp only [Disk.mk.injEq]
  rw [Bool.eq_iff_iff]
  simp
  constructor
  · rintro ⟨h1, h2, h3, h4⟩; exact ⟨h3, h4, h1, h2⟩
  · rintro ⟨h3, h4, h1, h2⟩; exact ⟨h1, h2, h3, h4⟩

theorem m21_eq (x y : Disk) (h1 : x.fDurable.length ≤ big) (h2 : x.fPending.length ≤ big) (he1 : ∀ i, i < x.fDurable.length → i < y.fDurable.length → same14 x.fDurable[i]! y.fDurable[i]!) (he2 : ∀ i, i < x.fPending.length → i < y.fPending.length → same14 x.fPending[i]!.fData y.fPending[i]!.fData) : m21 x y = some (decide (x = y)) := by
  unfold m21
  rw [m42_eq _ _ h1 he1, m43_eq _ _ h2 he2, disk_eq]
  by_cases q1 : x.fLeft = y.fLeft
  · by_cases q2 : (x.fDown == y.fDown) = true
    · by_cases q3 : x.fDurable = y.fDurable
      · simp [q1, q2, q3]
      · simp [q1, q2, q3]
    · simp [q1, q2]
  · simp [q1]
theorem m21_self (x : Disk) (h1 : x.fDurable.length ≤ big) (h2 : x.fPending.length ≤ big) : m21 x x = some true := by
  rw [m21_eq x x h1 h2 (fun _ _ _ => same14_self _) (fun _ _ _ => same14_self _)]
  simp

theorem m46_eq (x y : Write) (h : x.fData.length ≤ big) : m46 x y = some (decide (x = y)) := by
  unfold m46
  rw [m47_eq _ _ h, write_eq]
  by_cases h1 : x.fAt = y.fAt <;> simp [h1]
theorem m42_1_eq (p q : List (List Int)) (hl : p.length ≤ big) (he : ∀ i, i < p.length → p[i]!.length ≤ big) : m42_1 p q = some (decide (p = q)) := by
  unfold m42_1
  by_cases hlen : p.length = q.length
  · rw [if_neg (by rw [decide_eq_true (by omega)]; decide), Int.toNat_natCast]
    rcases eq_loop p q hlen hl m47 (fun i hi => m47_eq _ _ (he i hi)) (m42_1_l1 p q) (fun k i hi => by
      rw [m42_1_l1]
      by_cases hlt : i < p.length
      · rw [if_pos (by simpa using hlt), if_pos (by omega), if_pos (by omega), if_pos hlt, Int.toNat_natCast]
      · rw [if_neg (by simpa using hlt), if_neg hlt]) with ⟨h1, h2⟩ | ⟨h1, h2⟩
    · rw [h2, decide_eq_true h1]; rfl
    · rw [h2, decide_eq_false h1]; rfl
  · rw [if_pos (by rw [decide_eq_false (by omega)]; rfl), decide_eq_false (fun e => hlen (by rw [e]))]
theorem m43_1_eq (p q : List Write) (hl : p.length ≤ big) (he : ∀ i, i < p.length → p[i]!.fData.length ≤ big) : m43_1 p q = some (decide (p = q)) := by
  unfold m43_1
  by_cases hlen : p.length = q.length
  · rw [if_neg (by rw [decide_eq_true (by omega)]; decide), Int.toNat_natCast]
    rcases eq_loop p q hlen hl m46 (fun i hi => m46_eq _ _ (he i hi)) (m43_1_l1 p q) (fun k i hi => by
      rw [m43_1_l1]
      by_cases hlt : i < p.length
      · rw [if_pos (by simpa using hlt), if_pos (by omega), if_pos (by omega), if_pos hlt, Int.toNat_natCast]
      · rw [if_neg (by simpa using hlt), if_neg hlt]) with ⟨h1, h2⟩ | ⟨h1, h2⟩
    · rw [h2, decide_eq_true h1]; rfl
    · rw [h2, decide_eq_false h1]; rfl
  · rw [if_pos (by rw [decide_eq_false (by omega)]; rfl), decide_eq_false (fun e => hlen (by rw [e]))]
theorem m29_eq (x y : Disk) (h1 : x.fDurable.length ≤ big) (h2 : x.fPending.length ≤ big) (he1 : ∀ i, i < x.fDurable.length → x.fDurable[i]!.length ≤ big) (he2 : ∀ i, i < x.fPending.length → x.fPending[i]!.fData.length ≤ big) : m29 x y = some (decide (x = y)) := by
  unfold m29
  rw [m42_1_eq _ _ h1 he1, m43_1_eq _ _ h2 he2, disk_eq]
  by_cases q1 : x.fLeft = y.fLeft
  · by_cases q2 : (x.fDown == y.fDown) = true
    · by_cases q3 : x.fDurable = y.fDurable
      · simp [q1, q2, q3]
      · simp [q1, q2, q3]
    · simp [q1, q2]
  · simp [q1]

/-! ### few -/
theorem m16_some (d : Disk) (h1 : d.fDurable.length ≤ big) (h2 : d.fPending.length ≤ big) : ∃ b, m16 d = some b ∧ (b = true → Small d) := by
  have s1 := srch d.fDurable.length h1 (fun i => decide (200 < d.fDurable[i]!.length)) (fun _ => false) (m16_l1 d) (fun k i hi => by
    rw [m16_l1]
    by_cases hlt : i < d.fDurable.length
    · rw [if_pos (by simpa using hlt), if_pos (by omega), if_pos hlt, Int.toNat_natCast]
      by_cases hx : 200 < d.fDurable[i]!.length
      · have hx' : (200 : Int) < (d.fDurable[i]!.length : Int) := by omega
        rw [if_pos (by rw [decide_eq_true hx']), if_pos (by rw [decide_eq_true hx])]
      · have hx' : ¬ ((200 : Int) < (d.fDurable[i]!.length : Int)) := by omega
        rw [if_neg (by rw [decide_eq_false hx']; decide), if_neg (by rw [decide_eq_false hx]; decide)]
    · simp [hlt])
  have s2 := srch d.fPending.length h2 (fun i => decide (200 < d.fPending[i]!.fData.length)) (fun _ => false) (m16_l2 d) (fun k i hi => by
    rw [m16_l2]
    by_cases hlt : i < d.fPending.length
    · rw [if_pos (by simpa using hlt), if_pos (by omega), if_pos hlt, Int.toNat_natCast]
      by_cases hx : 200 < d.fPending[i]!.fData.length
      · have hx' : (200 : Int) < (d.fPending[i]!.fData.length : Int) := by omega
        rw [if_pos (by rw [decide_eq_true hx']), if_pos (by rw [decide_eq_true hx])]
      · have hx' : ¬ ((200 : Int) < (d.fPending[i]!.fData.length : Int)) := by omega
        rw [if_neg (by rw [decide_eq_false hx']; decide), if_neg (by rw [decide_eq_false hx]; decide)]
    · simp [hlt])
  unfold m16
  rw [Int.toNat_natCast, Int.toNat_natCast]
  by_cases q1 : (20 : Int) < (d.fDurable.length : Int)
  · exact ⟨false, by simp [q1], fun h => by cases h⟩
  · by_cases q2 : (40 : Int) < (d.fPending.length : Int)
    · exact ⟨false, by simp [q1, q2], fun h => by cases h⟩
    · simp only [decide_eq_true_eq, q1, q2, if_false, Option.bind_some, decide_false, Bool.false_eq_true]
      rcases s1 with ⟨a1, a2⟩ | ⟨i, hi, a1, a2⟩
      · rw [a2]
        rcases s2 with ⟨b1, b2⟩ | ⟨j, hj, b1, b2⟩
        · rw [b2]
          refine ⟨true, rfl, fun _ => ⟨by omega, by omega, fun i hi => ?_, fun i hi => ?_⟩⟩
          · have := a1 i hi
            simp only [decide_eq_false_iff_not] at this
            omega
          · have := b1 i hi
            simp only [decide_eq_false_iff_not] at this
            omega
        · rw [b2]; exact ⟨false, rfl, fun h => by cases h⟩
      · rw [a2]; exact ⟨false, rfl, fun h => by cases h⟩

end Go.Proofs.Ytfipaakafcjjhaa
