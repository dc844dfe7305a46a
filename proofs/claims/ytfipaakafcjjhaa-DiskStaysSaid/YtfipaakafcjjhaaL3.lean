/- The laws of Disk, plain. -/
import Derived.Test.YtfipaakafcjjhaaL2
import Derived.Lib.Bytes
import Derived.Test.YtfipaakafcjjhaaOpD
set_option linter.unusedSectionVars false
set_option linter.unusedVariables false
set_option linter.unusedSimpArgs false
namespace Go.Proofs.Ytfipaakafcjjhaa
open Go Go.RowKit Go.Ab

theorem at_of_V {d : Disk} (h : V d = true) {i : Nat} (hi : i < d.fPending.length) : 0 ≤ d.fPending[i]!.fAt ∧ d.fPending[i]!.fAt < (d.fDurable.length : Int) := by
  unfold V at h
  simp only [Bool.and_eq_true, decide_eq_true_eq] at h
  have := all_get h.2 hi
  simp only [Bool.and_eq_true, decide_eq_true_eq] at this
  exact this.1

/-! ### DiskSyncs -/
theorem m22_l1_eq (x : Disk) (n : Int) (c : Bool) : ∀ (k : Nat) (l : List (List Int)) (i : Int), m22_l1 x n c k l i = m28_l1 x k l i
  | 0, _, _ => rfl
  | k + 1, l, i => by
    rw [m22_l1, m28_l1]
    split
    · split
      · unfold m45_1
        split
        · exact m22_l1_eq x n c k _ _
        · rfl
      · rfl
    · rfl

theorem m28_l1_some {d : Disk} (h : V d = true) : ∃ l, m28_l1 d (d.fPending.length + 1) d.fDurable 0 = some l ∧ l.length = d.fDurable.length := by
  have hs := small_of_V h
  exact foldl d.fPending.length (by have := hs.pe; omega) (fun i b => if 0 ≤ d.fPending[i]!.fAt ∧ d.fPending[i]!.fAt < (b.length : Int) then some (b.set (Int.toNat d.fPending[i]!.fAt) d.fPending[i]!.fData) else none) (m28_l1 d) d.fDurable (fun k b i hi => by
    rw [m28_l1]
    by_cases hlt : i < d.fPending.length
    · rw [if_pos (by simpa using hlt), if_pos (by omega), if_pos hlt, Int.toNat_natCast]
      split <;> rfl
    · rw [if_neg (by simpa using hlt), if_neg hlt]) (fun _ b => b.length = d.fDurable.length) rfl (fun i b hi hb => by
    have := at_of_V h hi
    exact ⟨_, if_pos (by rw [hb]; exact this), by rw [List.length_set]; exact hb⟩)

theorem pair_eq {d : Disk} {x y : Disk × Int} (h : x = y) (h1 : x.1.fDurable.length ≤ big) (h2 : x.1.fPending.length ≤ big) : (Option.bind (if (decide (x.2 = y.2)) = true then (m21 x.1 y.1).bind fun x5 => some x5 else some false) fun c1 => some c1) = some true := by
  subst h
  rw [m21_self _ h1 h2]
  simp

theorem sync_eq (d : Disk) (h1 : d.fDurable.length ≤ big) (h2 : d.fPending.length ≤ big) : ∃ x, m22 d = some x ∧ m28 d = some x ∧ x.1.fDurable.length ≤ big ∧ x.1.fPending.length ≤ big := by
  unfold m22 m28
  rw [m13_eq d h1 h2, m25_eq d h1 h2]
  by_cases hV : V d = true
  · rw [hV]
    have hs := small_of_V hV
    simp only [Option.bind_some, Bool.not_true, Bool.false_eq_true, if_false]
    rw [m40_1_eq hs, m30_1_eq hs]
    simp only [Option.bind_some]
    by_cases hd : d.fDown = true
    · refine ⟨(d, 17), ?_, ?_, h1, h2⟩
      · rw [if_pos hd]; rfl
      · rw [if_pos hd]
    · rw [if_neg hd, if_neg hd]
      unfold m41_1
      by_cases h0 : d.fLeft = 0
      · exact ⟨(⟨d.fDurable, d.fPending, d.fLeft, true⟩, 17), by simp [h0], by simp [h0], h1, h2⟩
      · obtain ⟨l, hl1, hl2⟩ := m28_l1_some hV
        have hd' : d.fDown = false := by simpa using hd
        by_cases hp : (0 : Int) < d.fLeft
        · refine ⟨(⟨l, [], w64 (d.fLeft - 1), d.fDown⟩, 0), ?_, ?_, by rw [hl2]; exact h1, by simp⟩
          · simp [h0, hp, m22_l1_eq, hl1]
          · simp [h0, hp, hl1]
        · refine ⟨(⟨l, [], d.fLeft, d.fDown⟩, 0), ?_, ?_, by rw [hl2]; exact h1, by simp⟩
          · simp [h0, hp, m22_l1_eq, hl1]
          · simp [h0, hp, hl1]
  · have hV : V d = false := by simpa using hV
    rw [hV]
    exact ⟨(⟨[], [], 0, false⟩, 1), rfl, rfl, by simp, by simp⟩

theorem law8 (d : Disk) (h1 : d.fDurable.length ≤ big) (h2 : d.fPending.length ≤ big) : m8 d = some true := by
  unfold m8
  rw [m11_eq]
  obtain ⟨b, e1, _⟩ := m16_some d h1 h2
  obtain ⟨x, q1, q2, q3, q4⟩ := sync_eq d h1 h2
  cases b with
  | false => simp [e1]
  | true => simp [e1, q1, q2, m21_self _ q3 q4]

/-! ### DiskCrashes -/
theorem m24_l1_eq (p1 : List Bool) (x : Disk) : ∀ (k : Nat) (l : List (List Int)) (i : Int), m24_l1 p1 x k l i = m26_l1 p1 x k l i
  | 0, _, _ => rfl
  | k + 1, l, i => by
    rw [m24_l1, m26_l1]
    split
    · congr 1
      · split
        · congr 1
          funext c1
          split
          · unfold m45_1
            split <;> rfl
          · rfl
        · rfl
      · funext l6
        exact m24_l1_eq p1 x k _ _
    · rfl

theorem m26_l1_some (p1 : List Bool) {d : Disk} (h : V d = true) : ∃ l, m26_l1 p1 d (d.fPending.length + 1) d.fDurable 0 = some l ∧ l.length = d.fDurable.length := by
  have hs := small_of_V h
  exact foldl d.fPending.length (by have := hs.pe; omega) (fun i b => if (decide (i < p1.length) && p1[i]!) = true then (if 0 ≤ d.fPending[i]!.fAt ∧ d.fPending[i]!.fAt < (b.length : Int) then some (b.set (Int.toNat d.fPending[i]!.fAt) d.fPending[i]!.fData) else none) else some b) (m26_l1 p1 d) d.fDurable (fun k b i hi => by
    rw [m26_l1]
    by_cases hlt : i < d.fPending.length
    · rw [if_pos (by simpa using hlt), if_pos (by omega), if_pos hlt, Int.toNat_natCast]
      by_cases hk : i < p1.length
      · rw [if_pos (by simpa using hk), if_pos (by omega), Option.bind_some]
        by_cases hp : p1[i]! = true
        · rw [if_pos hp, show (decide (i < p1.length) && p1[i]!) = true from by rw [hp]; simpa using hk, if_pos (rfl : true = true)]
        · rw [if_neg hp, if_neg (by simp only [Bool.and_eq_true]; exact fun e => hp e.2)]
      · rw [if_neg (by simpa using hk), Option.bind_some, if_neg (by decide), if_neg (by simp only [Bool.and_eq_true, decide_eq_true_eq]; exact fun e => hk e.1)]
    · rw [if_neg (by simpa using hlt), if_neg hlt]) (fun _ b => b.length = d.fDurable.length) rfl (fun i b hi hb => by
    have := at_of_V h hi
    split
    · exact ⟨_, if_pos (by rw [hb]; exact this), by rw [List.length_set]; exact hb⟩
    · exact ⟨_, rfl, hb⟩)

theorem crash_eq (d : Disk) (p : List Bool) (h1 : d.fDurable.length ≤ big) (h2 : d.fPending.length ≤ big) : ∃ x, m24 d p = some x ∧ m26 d p = some x ∧ x.1.fDurable.length ≤ big ∧ x.1.fPending.length ≤ big := by
  unfold m24 m26
  rw [m13_eq d h1 h2, m25_eq d h1 h2]
  by_cases hV : V d = true
  · rw [hV]
    have hs := small_of_V hV
    simp only [Option.bind_some, Bool.not_true, Bool.false_eq_true, if_false]
    rw [m40_1_eq hs, m30_1_eq hs]
    obtain ⟨l, hl1, hl2⟩ := m26_l1_some p hV
    refine ⟨(⟨l, [], -1, false⟩, 0), ?_, ?_, by rw [hl2]; exact h1, by simp⟩
    · simp [m24_l1_eq, hl1]
    · simp [hl1]
  · have hV : V d = false := by simpa using hV
    rw [hV]
    exact ⟨(⟨[], [], 0, false⟩, 1), rfl, rfl, by simp, by simp⟩

theorem arm_eq (d : Disk) (n : Int) (h1 : d.fDurable.length ≤ big) (h2 : d.fPending.length ≤ big) : ∃ x, m23 d n = some x ∧ m27 d n = some x ∧ x.1.fDurable.length ≤ big ∧ x.1.fPending.length ≤ big := by
  unfold m23 m27
  rw [m13_eq d h1 h2, m25_eq d h1 h2]
  by_cases hV : V d = true
  · rw [hV]
    have hs := small_of_V hV
    simp only [Option.bind_some, Bool.not_true, Bool.false_eq_true, if_false]
    rw [m40_eq hs, m30_eq hs]
    simp only [Option.bind_some]
    by_cases hd : d.fDown = true
    · rw [if_pos hd]; exact ⟨_, rfl, rfl, h1, h2⟩
    · rw [if_neg hd]; exact ⟨_, rfl, rfl, h1, h2⟩
  · have hV : V d = false := by simpa using hV
    rw [hV]
    exact ⟨(⟨[], [], 0, false⟩, 1), rfl, rfl, by simp, by simp⟩

theorem law7 (d : Disk) (p : List Bool) (n : Int) (h1 : d.fDurable.length ≤ big) (h2 : d.fPending.length ≤ big) : m7 d p n = some true := by
  unfold m7
  rw [m11_eq]
  obtain ⟨b, e1, _⟩ := m16_some d h1 h2
  obtain ⟨x, q1, q2, q3, q4⟩ := crash_eq d p h1 h2
  obtain ⟨y, r1, r2, r3, r4⟩ := arm_eq d n h1 h2
  cases b with
  | false => simp [e1]
  | true =>
    simp only [e1, q1, q2, r1, r2, Option.bind_some, Bool.not_true, Bool.false_eq_true, if_false, m21_self _ q3 q4, m21_self _ r3 r4]
    by_cases hl : (60 : Int) < (p.length : Int) <;> simp [hl]

/-! ### DiskWrites -/
theorem write_pair (d : Disk) (n : Int) (p : List Int) (h1 : d.fDurable.length ≤ big) (h2 : d.fPending.length ≤ big) : ∃ x, m19 d n p = some x ∧ m20 d n p = some x ∧ x.1.fDurable.length ≤ big ∧ x.1.fPending.length ≤ big := by
  unfold m19 m20
  rw [m13_eq d h1 h2, m25_eq d h1 h2]
  by_cases hV : V d = true
  · rw [hV]
    have hs := small_of_V hV
    simp only [Option.bind_some, Bool.not_true, Bool.false_eq_true, if_false]
    rw [m40_1_eq hs, m30_1_eq hs]
    simp only [Option.bind_some]
    by_cases c1 : n < 0
    · exact ⟨(d, 3), by simp [c1], by simp [c1], h1, h2⟩
    · by_cases c2 : (d.fDurable.length : Int) ≤ n
      · exact ⟨(d, 3), by simp [c1, c2], by simp [c1, c2], h1, h2⟩
      · by_cases c3 : (p.length : Int) = 96
        · by_cases hd : d.fDown = true
          · exact ⟨(d, 17), by simp [c1, c2, c3, hd], by simp [c1, c2, c3, hd], h1, h2⟩
          · have hd' : d.fDown = false := by simpa using hd
            by_cases c4 : (d.fPending.length : Int) = 8192
            · exact ⟨(d, 16), by simp [c1, c2, c3, hd', c4], by simp [c1, c2, c3, hd', c4], h1, h2⟩
            · unfold m41_1
              by_cases h0 : d.fLeft = 0
              · exact ⟨(⟨d.fDurable, d.fPending, d.fLeft, true⟩, 17), by simp [c1, c2, c3, hd', c4, h0], by simp [c1, c2, c3, hd', c4, h0], h1, h2⟩
              · have hp8 : d.fPending.length ≤ 8192 := by
                  unfold V at hV
                  simp only [Bool.and_eq_true, decide_eq_true_eq] at hV
                  exact hV.1.1.2
                have e39 : m39 p = some p := m39_eq (by omega)
                have e31 : m31 p = some p := m31_eq (by omega)
                have hl : (d.fPending ++ [(⟨n, p⟩ : Write)]).length ≤ 1073741824 := by rw [List.length_append]; simp; omega
                have hl' : (d.fPending ++ [(⟨n, p⟩ : Write)]).length ≤ big := by show _ ≤ 9223372036854775807; omega
                by_cases hp : (0 : Int) < d.fLeft
                · exact ⟨(⟨d.fDurable, d.fPending ++ [⟨n, p⟩], w64 (d.fLeft - 1), d.fDown⟩, 0), by simp only [c1, c2, c3, hd', c4, h0, hp, e39, decide_true, decide_false, Bool.not_true, Bool.false_eq_true, if_false, if_true, Option.bind_some, if_pos hl], by simp only [c1, c2, c3, hd', c4, h0, hp, e31, decide_true, decide_false, Bool.not_true, Bool.false_eq_true, if_false, if_true, Option.bind_some, if_pos hl], h1, hl'⟩
                · exact ⟨(⟨d.fDurable, d.fPending ++ [⟨n, p⟩], d.fLeft, d.fDown⟩, 0), by simp only [c1, c2, c3, hd', c4, h0, hp, e39, decide_true, decide_false, Bool.not_true, Bool.false_eq_true, if_false, if_true, Option.bind_some, if_pos hl], by simp only [c1, c2, c3, hd', c4, h0, hp, e31, decide_true, decide_false, Bool.not_true, Bool.false_eq_true, if_false, if_true, Option.bind_some, if_pos hl], h1, hl'⟩
        · exact ⟨(d, 2), by simp [c1, c2, c3], by simp [c1, c2, c3], h1, h2⟩
  · have hV : V d = false := by simpa using hV
    rw [hV]
    exact ⟨(⟨[], [], 0, false⟩, 1), rfl, rfl, by simp, by simp⟩

theorem law5 (d : Disk) (n : Int) (p : List Int) (h1 : d.fDurable.length ≤ big) (h2 : d.fPending.length ≤ big) : m5 d n p = some true := by
  unfold m5
  rw [m11_eq]
  obtain ⟨b, e1, _⟩ := m16_some d h1 h2
  obtain ⟨x, q1, q2, q3, q4⟩ := write_pair d n p h1 h2
  have e0 : (⟨d.fDurable, d.fPending, d.fLeft, d.fDown⟩ : Disk) = d := rfl
  rw [e0, e1, q1, q2]
  cases b with
  | false => simp
  | true =>
    by_cases hl : (200 : Int) < (p.length : Int) <;> simp [hl, m21_self _ q3 q4]

/-! ### DiskReads -/
theorem read_pair (d : Disk) (n : Int) (h1 : d.fDurable.length ≤ big) (h2 : d.fPending.length ≤ big) : ∃ x, m17 d n = some x ∧ m18 d n = some x := by
  unfold m17 m18
  rw [m13_eq d h1 h2, m25_eq d h1 h2]
  by_cases hV : V d = true
  · rw [hV]
    have hs := small_of_V hV
    simp only [Option.bind_some, Bool.not_true, Bool.false_eq_true, if_false]
    by_cases c1 : n < 0
    · exact ⟨([], 3), by simp [c1], by simp [c1]⟩
    · by_cases c2 : (d.fDurable.length : Int) ≤ n
      · exact ⟨([], 3), by simp [c1, c2], by simp [c1, c2]⟩
      · by_cases hd : d.fDown = true
        · exact ⟨([], 17), by simp [c1, c2, hd], by simp [c1, c2, hd]⟩
        · have hd' : d.fDown = false := by simpa using hd
          have hall : d.fPending.all (fun w => (m39 w.fData).isSome) = true := all_of _ _ fun i hi => by rw [m39_eq (hs.pb i hi)]; rfl
          have hin : 0 ≤ n ∧ n < (d.fDurable.length : Int) := by omega
          obtain ⟨l, hl1, hl2⟩ := foldl d.fPending.length h2 (fun i b => some (if d.fPending[i]!.fAt = n then d.fPending[i]!.fData else b)) (m18_l1 d n) d.fDurable[n.toNat]! (fun k b i hi => by
            rw [m18_l1]
            by_cases hlt : i < d.fPending.length
            · rw [if_pos (by simpa using hlt), if_pos (by omega), if_pos hlt, Int.toNat_natCast]
              by_cases hx : d.fPending[i]!.fAt = n
              · rw [if_pos (by simpa using hx), if_pos hx]
              · rw [if_neg (by simpa using hx), if_neg hx]
            · rw [if_neg (by simpa using hlt), if_neg hlt])
            (fun i b => b = match (d.fPending.take i).reverse.find? (fun w => decide (w.fAt = n)) with | some w => w.fData | none => d.fDurable[n.toNat]!) (by simp) (fun i b hi hb => by
            refine ⟨_, rfl, ?_⟩
            rw [take_get _ hi, List.reverse_append, List.reverse_singleton, List.singleton_append, List.find?_cons]
            by_cases hx : d.fPending[i]!.fAt = n
            · simp only [hx, if_true, decide_true]
            · simp only [hx, if_false, decide_false]
              exact hb)
          rw [List.take_of_length_le (Nat.le_refl _)] at hl2
          have hf : ∀ w ∈ d.fPending, w.fData.length ≤ 1073741824 := fun w hw => by
            obtain ⟨i, hi, rfl⟩ := List.getElem_of_mem hw
            have := hs.pb i hi
            rwa [getElem!_pos d.fPending i hi] at this
          have hdl : d.fDurable[n.toNat]!.length ≤ 1073741824 := hs.db _ (by omega)
          refine ⟨(l, 0), ?_, ?_⟩
          · simp only [c1, c2, hd', hall, decide_false, Bool.or_false, Bool.false_eq_true, if_false, if_true]
            rw [hl2]
            cases hfd : d.fPending.reverse.find? (fun w => decide (w.fAt = n)) with
            | none => simp only [m39_eq hdl, Option.bind_some]
            | some w => simp only [m39_eq (hf w (List.mem_reverse.1 (List.mem_of_find?_eq_some hfd))), Option.bind_some]
          · simp only [c1, c2, hd', decide_false, Bool.false_eq_true, if_false, Option.bind_some, if_pos hin, Int.toNat_natCast, hl1]
  · have hV : V d = false := by simpa using hV
    rw [hV]
    exact ⟨([], 1), rfl, rfl⟩

theorem law4 (d : Disk) (n : Int) (h1 : d.fDurable.length ≤ big) (h2 : d.fPending.length ≤ big) : m4 d n = some true := by
  unfold m4
  rw [m11_eq]
  obtain ⟨b, e1, _⟩ := m16_some d h1 h2
  obtain ⟨x, q1, q2⟩ := read_pair d n h1 h2
  rw [e1, q1, q2]
  cases b with
  | false => simp
  | true => simp [m14_self]

/-! ### DiskValid -/
theorem law9 (d c : Disk) (h1 : d.fDurable.length ≤ big) (h2 : d.fPending.length ≤ big) (h3 : c.fDurable.length ≤ big) (h4 : c.fPending.length ≤ big)
    (he1 : ∀ i, i < d.fDurable.length → i < c.fDurable.length → same14 d.fDurable[i]! c.fDurable[i]!) (he2 : ∀ i, i < d.fPending.length → i < c.fPending.length → same14 d.fPending[i]!.fData c.fPending[i]!.fData) : m9 d c = some true := by
  unfold m9
  rw [m11_eq]
  have e0 : (⟨d.fDurable, d.fPending, d.fLeft, d.fDown⟩ : Disk) = d := rfl
  have e1 : (⟨c.fDurable, c.fPending, c.fLeft, c.fDown⟩ : Disk) = c := rfl
  rw [e0, e1]
  obtain ⟨b1, q1, s1⟩ := m16_some d h1 h2
  obtain ⟨b2, q2, _⟩ := m16_some c h3 h4
  rw [q1, q2, m13_eq d h1 h2, m25_eq d h1 h2]
  cases b1 with
  | false => simp
  | true =>
    have hs := s1 rfl
    cases b2 with
    | false => simp
    | true =>
      have r1 := fun x => m29_eq d x h1 h2 (fun i hi => Nat.le_trans (hs.db i hi) (by decide)) (fun i hi => Nat.le_trans (hs.pb i hi) (by decide))
      rw [r1 c, m21_eq d c h1 h2 he1 he2, m30_eq hs]
      simp only [Option.bind_some, r1 d]
      simp

theorem bytes_inj {p q : List Int} (hp : ∀ a ∈ p, 0 ≤ a ∧ a < 256) (hq : ∀ a ∈ q, 0 ≤ a ∧ a < 256) (h : p.map (fun n => UInt8.ofNat n.toNat) = q.map (fun n => UInt8.ofNat n.toNat)) : p = q := by
  induction p generalizing q with
  | nil => cases q with
    | nil => rfl
    | cons b q => simp at h
  | cons a p ih =>
    cases q with
    | nil => simp at h
    | cons b q =>
      simp only [List.map_cons, List.cons.injEq] at h
      have ha := hp a List.mem_cons_self
      have hb := hq b List.mem_cons_self
      have e : a.toNat = b.toNat := by
        have := congrArg UInt8.toNat h.1
        simp only [UInt8.toNat_ofNat'] at this
        rw [Nat.mod_eq_of_lt (by omega), Nat.mod_eq_of_lt (by omega)] at this
        exact this
      rw [show a = b from by omega, ih (fun x hx => hp x (List.mem_cons_of_mem _ hx)) (fun x hx => hq x (List.mem_cons_of_mem _ hx)) h.2]

theorem same14_of {p q : List Int} (hp : ∀ a ∈ p, 0 ≤ a ∧ a < 256) (hq : ∀ a ∈ q, 0 ≤ a ∧ a < 256) : same14 p q := by
  unfold same14 m14
  congr 1
  rw [Bool.eq_iff_iff, beq_iff_eq, decide_eq_true_eq]
  constructor
  · intro h
    refine bytes_inj hp hq ?_
    have : ∀ x : List Int, (strOfNums x).toList = x.map (fun n => UInt8.ofNat n.toNat) := fun x => by
      rw [Go.Lib.strOfNums_toList]; rfl
    rw [this, this] at h
    exact h
  · rintro rfl; rfl
theorem byte_of {l : List Int} (h : okB l) : ∀ a ∈ l, 0 ≤ a ∧ a < 256 := fun a ha => by
  have := h.2 a ha
  simp [Lit.wf, IntKind.wrap] at this
  have h1 : IntKind.u8.min = 0 := by decide
  have h2 : IntKind.u8.max = 255 := by decide
  omega
theorem get_mem {α : Type} [Inhabited α] {l : List α} {i : Nat} (h : i < l.length) : l[i]! ∈ l := by
  rw [getElem!_pos l i h]; exact List.getElem_mem _
theorem same_du {d c : Disk} (h : okD d) (k : okD c) {i : Nat} (hi : i < d.fDurable.length) (hj : i < c.fDurable.length) : same14 d.fDurable[i]! c.fDurable[i]! :=
  same14_of (byte_of (h.1.2 _ (get_mem hi))) (byte_of (k.1.2 _ (get_mem hj)))
theorem same_pe {d c : Disk} (h : okD d) (k : okD c) {i : Nat} (hi : i < d.fPending.length) (hj : i < c.fPending.length) : same14 d.fPending[i]!.fData c.fPending[i]!.fData :=
  same14_of (byte_of (h.2.1.2 _ (get_mem hi)).2) (byte_of (k.2.1.2 _ (get_mem hj)).2)
end Go.Proofs.Ytfipaakafcjjhaa
