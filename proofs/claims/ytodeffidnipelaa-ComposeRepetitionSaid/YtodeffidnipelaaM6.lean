/- The worth of repeated runs. -/
import Derived.Test.YtodeffidnipelaaM5
namespace Go.Proofs.Ytodeffidnipelaa

theorem repGo_snoc (c : List (List Int)) : ∀ (k : Nat) (m : List (List Int)), repGo c (k + 1) m = if (repGo c k m).2 = 0 then (if (parR (repGo c k m).1 c).2 = 0 then ((parR (repGo c k m).1 c).1, 0) else ([], (parR (repGo c k m).1 c).2)) else repGo c k m
  | 0, m => by
    show (if (parR m c).2 = 0 then ((parR m c).1, 0) else ([], (parR m c).2)) = _
    rw [if_pos (show (repGo c 0 m).2 = 0 from rfl)]; rfl
  | k + 1, m => by
    have ih := repGo_snoc c k (parR m c).1
    have e : repGo c (k + 1 + 1) m = if (parR m c).2 = 0 then repGo c (k + 1) (parR m c).1 else ([], (parR m c).2) := rfl
    have e2 : repGo c (k + 1) m = if (parR m c).2 = 0 then repGo c k (parR m c).1 else ([], (parR m c).2) := rfl
    rw [e, e2]
    by_cases h : (parR m c).2 = 0
    · rw [if_pos h, if_pos h, ih]
    · rw [if_neg h, if_neg h, if_neg h]

/-- equal rows of c are equal rows of m -/
def EqRows (c m : List (List Int)) : Prop := ∀ x x', x < c.length → x' < c.length → c[x]! = c[x']! → m[x]! = m[x']!
theorem parT_row {m c : List (List Int)} (hl : m.length = c.length) {x : Nat} (hx : x < c.length) : (parT m c)[x]! = (List.range ((m[0]!).length * (c[0]!).length)).map fun y => ((m[x]!)[y / (c[0]!).length]!) * ((c[x]!)[y % (c[0]!).length]!) := by
  unfold parT
  rw [tab_row _ _ _ _ (by omega)]
theorem EqRows.par {c m : List (List Int)} (hl : m.length = c.length) (h : EqRows c m) : EqRows c (parT m c) := fun x x' hx hx' he => by
  rw [parT_row hl hx, parT_row hl hx', h x x' hx hx' he, he]

/-- what holds of a result of repeated runs -/
structure RepOk (c m : List (List Int)) : Prop where
  valid : validB m = true
  len : m.length = c.length
  eq : EqRows c m
theorem RepOk.par {c m : List (List Int)} (hc : validB c = true) (h : RepOk c m) (h0 : (parR m c).2 = 0) : (parR m c).1 = parT m c ∧ RepOk c (parT m c) := by
  obtain ⟨_, h1, h2, h3⟩ := parR_zero h.valid hc h0
  exact ⟨h3, chan_validB (par_chan (validB_chanT h.valid) (validB_chanT hc) h.len h1 h2), parT_len h.len, h.eq.par h.len⟩
theorem repGo_ok {c : List (List Int)} (hc : validB c = true) : ∀ (k : Nat) (m : List (List Int)), RepOk c m → (repGo c k m).2 = 0 → RepOk c (repGo c k m).1
  | 0, m, h, _ => h
  | k + 1, m, h, h0 => by
    have e : repGo c (k + 1) m = if (parR m c).2 = 0 then repGo c k (parR m c).1 else ([], (parR m c).2) := rfl
    rw [e] at h0 ⊢
    by_cases hp : (parR m c).2 = 0
    · rw [if_pos hp] at h0 ⊢
      obtain ⟨h1, h2⟩ := h.par hc hp
      rw [h1] at h0 ⊢
      exact repGo_ok hc k _ h2 h0
    · rw [if_neg hp] at h0; exact absurd h0 hp

section
variable {c : List (List Int)} {n : Int} (hc : validB c = true) (hn : 1 ≤ n) (hn2 : n ≤ 15) (h0 : (repR c n).2 = 0) (h1 : (repR c (n + 1)).2 = 0)
include hc hn hn2 h0 h1
theorem rep_two : RepOk c (repR c n).1 ∧ (parR (repR c n).1 c).2 = 0 ∧ (repR c (n + 1)).1 = parT (repR c n).1 c ∧ RepOk c (parT (repR c n).1 c) := by
  have e0 : repR c n = repGo c (n - 1).toNat c := repR_go hc (by omega) (by omega)
  have e1 : repR c (n + 1) = repGo c ((n - 1).toNat + 1) c := by rw [repR_go hc (by omega) (by omega), show (n + 1 - 1).toNat = (n - 1).toNat + 1 by omega]
  have ok0 : RepOk c (repR c n).1 := by
    rw [e0]; rw [e0] at h0
    exact repGo_ok hc _ _ ⟨hc, rfl, fun _ _ _ _ h => h⟩ h0
  rw [e1, repGo_snoc, ← e0, if_pos h0] at h1
  by_cases hp : (parR (repR c n).1 c).2 = 0
  · obtain ⟨h2, h3⟩ := ok0.par hc hp
    refine ⟨ok0, hp, ?_, h3⟩
    rw [e1, repGo_snoc, ← e0, if_pos h0, if_pos hp, h2]
  · rw [if_neg hp] at h1; exact absurd h1 hp
end

/-- the row x has not come before -/
def firstB (c : List (List Int)) (x : Nat) : Bool := !((c.take x).any fun l => decide (l = c[x]!))
def dcnt (c : List (List Int)) (k : Nat) : Int := sumTo k fun x => if firstB c x = true then 1 else 0
def certB (c : List (List Int)) (k : Nat) : Bool := (List.range k).all fun x => decide (maxL c[x]! (c[x]!).length = totG c)

theorem first_of (c : List (List Int)) : ∀ x, x < c.length → ∃ x', x' ≤ x ∧ firstB c x' = true ∧ c[x']! = c[x]! := fun x => by
  induction x using Nat.strongRecOn with
  | ind x ih =>
    intro hx
    by_cases hf : firstB c x = true
    · exact ⟨x, Nat.le_refl _, hf, rfl⟩
    · unfold firstB at hf
      simp only [Bool.not_eq_true, Bool.not_eq_false', List.any_eq_true] at hf
      obtain ⟨l, hl, he⟩ := hf
      obtain ⟨i, hi, rfl⟩ := List.getElem_of_mem hl
      rw [List.length_take] at hi
      rw [List.getElem_take] at he
      have he := of_decide_eq_true he
      obtain ⟨x', h1, h2, h3⟩ := ih i (by omega) (by omega)
      rw [getElem!_pos c i (by omega), he] at h3
      exact ⟨x', by omega, h2, h3⟩

section
variable {c q : List (List Int)} {R C : Nat} {T : Int}
theorem dcnt_bounds (c : List (List Int)) (k : Nat) : 0 ≤ dcnt c k ∧ dcnt c k ≤ k := by
  refine ⟨sumTo_nonneg fun x _ => by split <;> omega, ?_⟩
  unfold dcnt
  induction k with
  | zero => exact Int.le_refl _
  | succ k ih =>
    rw [sumTo_succ]
    have : (if firstB c k = true then (1 : Int) else 0) ≤ 1 := by split <;> omega
    omega
theorem dsum (hq : Chan q R C T) : sumTo C (fun y => sumTo R fun x => if firstB c x = true then (q[x]!)[y]! else 0) = dcnt c R * T := by
  rw [sumTo_comm]
  unfold dcnt
  rw [← sumTo_mulR]
  refine sumTo_congr fun x hx => ?_
  by_cases hf : firstB c x = true
  · rw [if_pos hf]
    have : sumTo C (fun j => if firstB c x = true then (q[x]!)[j]! else 0) = sumTo C (fun j => (q[x]!)[j]!) := sumTo_congr fun j _ => if_pos hf
    rw [this, hq.rowSum hx]; omega
  · rw [if_neg hf]
    have : sumTo C (fun j => if firstB c x = true then (q[x]!)[j]! else 0) = sumTo C (fun _ => 0) := sumTo_congr fun j _ => if_neg hf
    rw [this, sumTo_zero]; omega
theorem worth_le_different (hq : Chan q R C T) (hl : c.length = R) (he : EqRows c q) : worthM q ≤ dcnt c R * T := by
  rw [worthM_wor hq, ← dsum hq]
  refine sumTo_le fun y hy => ?_
  have h0 : ∀ x, x < R → 0 ≤ (if firstB c x = true then (q[x]!)[y]! else 0) := fun x hx => by
    split
    · exact (hq.entry x y hx hy).1
    · exact Int.le_refl _
  refine cmax_le (sumTo_nonneg h0) fun x hx => ?_
  obtain ⟨x', h1, h2, h3⟩ := first_of c x (by omega)
  have h4 := sumTo_entry (f := fun x => if firstB c x = true then (q[x]!)[y]! else 0) h0 (show x' < R by omega)
  rw [if_pos h2, he x' x (by omega) (by omega) h3] at h4
  exact h4
theorem sumTo_one {n : Nat} {f : Nat → Int} {B : Int} (h0 : 0 ≤ B) (hB : ∀ i, i < n → f i ≤ B) (hu : ∀ i j, i < n → j < n → f i ≠ 0 → f j ≠ 0 → i = j) : sumTo n f ≤ B := by
  induction n with
  | zero => exact h0
  | succ n ih =>
    rw [sumTo_succ]
    have ih := ih (fun i hi => hB i (by omega)) fun i j hi hj => hu i j (by omega) (by omega)
    by_cases hz : f n = 0
    · omega
    · have hz' : sumTo n f = 0 := by
        rw [← sumTo_zero n]
        refine sumTo_congr fun i hi => ?_
        by_cases hi0 : f i = 0
        · exact hi0
        · have := hu i n (by omega) (by omega) hi0 hz; omega
      have := hB n (by omega)
      omega
theorem different_le_worth (hq : Chan q R C T) (hl : c.length = R) (hu : ∀ x x' y, x < R → x' < R → y < C → (q[x]!)[y]! ≠ 0 → (q[x']!)[y]! ≠ 0 → c[x]! = c[x']!) : dcnt c R * T ≤ worthM q := by
  rw [worthM_wor hq, ← dsum hq]
  refine sumTo_le fun y hy => sumTo_one (cmax_nonneg _ _ _) (fun x hx => ?_) fun i j hi hj h1 h2 => ?_
  · split
    · exact cmax_ge (f := fun x y => (q[x]!)[y]!) hx
    · exact cmax_nonneg _ _ _
  · have hf : ∀ i, (if firstB c i = true then (q[i]!)[y]! else 0) ≠ 0 → firstB c i = true ∧ (q[i]!)[y]! ≠ 0 := fun i h => by
      by_cases hf : firstB c i = true
      · rw [if_pos hf] at h; exact ⟨hf, h⟩
      · rw [if_neg hf] at h; exact absurd rfl h
    obtain ⟨f1, z1⟩ := hf i h1
    obtain ⟨f2, z2⟩ := hf j h2
    have he := hu i j y hi hj hy z1 z2
    have key : ∀ i j, i < R → j < R → i < j → c[i]! = c[j]! → firstB c j = true → False := fun i j hi hj hij he hf => by
      unfold firstB at hf
      simp only [Bool.not_eq_true', List.any_eq_false] at hf
      have hm : c[i]! ∈ c.take j := by
        rw [getElem!_pos c i (by omega)]
        exact List.mem_iff_getElem.2 ⟨i, by rw [List.length_take]; omega, by rw [List.getElem_take]⟩
      exact hf _ hm (decide_eq_true he)
    rcases Nat.lt_trichotomy i j with h | h | h
    · exact (key i j hi hj h he f2).elim
    · exact h
    · exact (key j i hj hi h he.symm f1).elim
/-- the greatest element is an element -/
theorem maxL_at (l : List Int) : ∀ n, 0 < n → n ≤ l.length → ∃ i, i < n ∧ maxL l n = l[i]!
  | 1, _, _ => ⟨0, by omega, (maxL_one l).symm⟩
  | n + 2, _, h => by
    obtain ⟨i, hi, he⟩ := maxL_at l (n + 1) (by omega) (by omega)
    have e : maxL l (n + 2) = if maxL l (n + 1) < l[n + 1]! then l[n + 1]! else maxL l (n + 1) := rfl
    rw [e]
    split
    · exact ⟨n + 1, by omega, rfl⟩
    · exact ⟨i, by omega, he⟩
theorem row_certain (hc : Chan c R C T) {x y : Nat} (hx : x < R) (hy : y < C) (hm : maxL c[x]! (c[x]!).length = T) (h : (c[x]!)[y]! ≠ 0) : c[x]! = (List.range C).map fun j => if j = y then T else 0 := by
  have hw := hc.width x hx
  have c1 := hc.c1
  obtain ⟨i, hi, he⟩ := maxL_at c[x]! (c[x]!).length (by omega) (Nat.le_refl _)
  rw [hm] at he
  have e0 : ∀ j, j < C → 0 ≤ (c[x]!)[j]! := fun j hj => (hc.entry x j hx hj).1
  have hs := hc.rowSum hx
  -- all other entries are 0
  have hz : ∀ j, j < C → j ≠ i → (c[x]!)[j]! = 0 := fun j hj hji => by
    have h2 : ∀ n, n ≤ C → i < n → j < n → (c[x]!)[i]! + (c[x]!)[j]! ≤ sumTo n fun k => (c[x]!)[k]! := fun n => by
      induction n with
      | zero => intro _ h; omega
      | succ n ih =>
        intro hn hi' hj'
        rw [sumTo_succ]
        by_cases hin : i = n
        · subst hin
          have := sumTo_entry (f := fun k => (c[x]!)[k]!) (n := i) (fun k hk => e0 k (by omega)) (show j < i by omega)
          omega
        · by_cases hjn : j = n
          · subst hjn
            have := sumTo_entry (f := fun k => (c[x]!)[k]!) (n := j) (fun k hk => e0 k (by omega)) (show i < j by omega)
            omega
          · have := ih (by omega) (by omega) (by omega)
            have := e0 n (by omega)
            omega
    have := h2 C (Nat.le_refl _) (by omega) hj
    have := e0 j hj
    omega
  have hyi : y = i := by
    by_cases hyi : y = i
    · exact hyi
    · exact absurd (hz y hy hyi) h
  subst hyi
  apply List.ext_getElem (by rw [List.length_map, List.length_range, hw])
  intro j h1 h2
  rw [List.getElem_map, List.getElem_range, ← getElem!_pos _ j h1]
  by_cases hj : j = y
  · subst hj; rw [if_pos rfl, he]
  · rw [if_neg hj]; exact hz j (by omega) hj
theorem certain_all (hk : certB c R = true) : ∀ x, x < R → maxL c[x]! (c[x]!).length = totG c := fun x hx => by
  unfold certB at hk
  rw [List.all_eq_true] at hk
  exact of_decide_eq_true (hk x (List.mem_range.2 hx))
end

section
variable {c : List (List Int)} {n : Int} (hc : validB c = true) (hn : 1 ≤ n) (hn2 : n ≤ 15) (h0 : (repR c n).2 = 0) (h1 : (repR c (n + 1)).2 = 0)
include hc hn hn2 h0 h1
theorem rep_facts : validB (repR c n).1 = true ∧ validB (repR c (n + 1)).1 = true ∧ worthM (repR c n).1 * totG c ≤ worthM (repR c (n + 1)).1 ∧ worthM (repR c (n + 1)).1 ≤ dcnt c c.length * totG (repR c (n + 1)).1 ∧ (certB c c.length = true → worthM (repR c (n + 1)).1 = dcnt c c.length * totG (repR c (n + 1)).1) := by
  obtain ⟨ok0, hp, he, ok1⟩ := rep_two hc hn hn2 h0 h1
  rw [he]
  have cp := validB_chanT ok0.valid
  have cc := validB_chanT hc
  have cq := validB_chanT ok1.valid
  have hl := ok1.len
  have w1 := worth_le_different cq (by omega) ok1.eq
  rw [hl] at w1
  refine ⟨ok0.valid, ok1.valid, (par_worth cp cc ok0.len).2.1, w1, fun hk => ?_⟩
  have w2 : dcnt c (parT (repR c n).1 c).length * totG (parT (repR c n).1 c) ≤ worthM (parT (repR c n).1 c) := different_le_worth cq (by omega) fun x x' y hx hx' hy z1 z2 => by
    have hR : (parT (repR c n).1 c).length = c.length := hl
    rw [par_tab cp cc] at z1 z2
    have hcols : ((parT (repR c n).1 c)[0]!).length = ((repR c n).1[0]!).length * (c[0]!).length := by
      rw [par_tab cp cc, tab_width (by have := cp.r1; omega)]
    rw [hcols] at hy
    have hpl := ok0.len
    rw [tab_ent (by omega) hy] at z1 z2
    have c1 := cc.c1
    have hm : y % (c[0]!).length < (c[0]!).length := Nat.mod_lt _ (by omega)
    have k1 : (c[x]!)[y % (c[0]!).length]! ≠ 0 := fun h => z1 (by rw [h, Int.mul_zero])
    have k2 : (c[x']!)[y % (c[0]!).length]! ≠ 0 := fun h => z2 (by rw [h, Int.mul_zero])
    rw [row_certain cc (by omega) hm (certain_all hk x (by omega)) k1, row_certain cc (by omega) hm (certain_all hk x' (by omega)) k2]
  rw [hl] at w2
  exact Int.le_antisymm w1 w2
end
end Go.Proofs.Ytodeffidnipelaa
