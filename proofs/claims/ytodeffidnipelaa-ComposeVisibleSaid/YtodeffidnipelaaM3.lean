/- Hidden and Visible: what they return, and the worth of it. -/
import Derived.Test.YtodeffidnipelaaM2
namespace Go.Proofs.Ytodeffidnipelaa

def hidT (c d : List (List Int)) (i j : Int) : List (List Int) := tab c.length (c[0]!).length fun x y => (i * totG d) * ((c[x]!)[y]!) + (j * totG c) * ((d[x]!)[y]!)
def visT (c d : List (List Int)) (i j : Int) : List (List Int) := tab c.length ((c[0]!).length + (d[0]!).length) fun x y => if y < (c[0]!).length then (i * totG d) * ((c[x]!)[y]!) else (j * totG c) * ((d[x]!)[y - (c[0]!).length]!)

theorem weights_no {i j : Int} (h : i < 1 ∨ 100 < i ∨ j < 1 ∨ 100 < j) : ¬ weightsB i j = true := by
  unfold weightsB
  intro h'
  have := of_decide_eq_true h'
  omega
theorem weights_ok {i j : Int} (h : ¬ i < 1 ∧ ¬ 100 < i ∧ ¬ j < 1 ∧ ¬ 100 < j) : weightsB i j = true := by
  unfold weightsB
  exact decide_eq_true (by omega)

theorem pair_of {c d : List (List Int)} (h : ¬ lpairG c d = 0) : (pairG c d ≠ 0 ∧ lpairG c d = pairG c d) ∨ (pairG c d = 0 ∧ ¬ (((c.length : Nat) : Int) = ((d.length : Nat) : Int)) ∧ lpairG c d = 2) := by
  unfold lpairG at h ⊢
  by_cases hb : (validB c && validB d) = true
  · rw [if_pos hb] at h ⊢
    by_cases hl : c.length = d.length
    · rw [if_pos hl] at h; omega
    · simp only [Bool.and_eq_true] at hb
      rw [if_neg hl]
      exact .inr ⟨pairG_ok hb.1 hb.2, by omega, rfl⟩
  · have h1 : pairG c d = 1 := by unfold pairG; rw [if_neg hb]
    rw [if_neg hb, h1]
    exact .inl ⟨by omega, rfl⟩

section
variable {c d : List (List Int)} {i j : Int}
theorem hidR_bad (h : ¬ lpairG c d = 0) : hidR c d i j = ([], lpairG c d) := by
  unfold hidR
  rcases pair_of h with ⟨h1, h2⟩ | ⟨h1, h2, h3⟩
  · rw [if_neg h1, h2]
  · rw [if_pos h1, if_neg h2, h3]
theorem visR_bad (h : ¬ lpairG c d = 0) : visR c d i j = ([], lpairG c d) := by
  unfold visR
  rcases pair_of h with ⟨h1, h2⟩ | ⟨h1, h2, h3⟩
  · rw [if_neg h1, h2]
  · rw [if_pos h1, if_neg h2, h3]
variable (hc : validB c = true) (hd : validB d = true) (hl : c.length = d.length)
include hc hd hl
theorem hidR_col (h : ¬ (((c[0]!).length : Nat) : Int) = (((d[0]!).length : Nat) : Int)) : hidR c d i j = ([], 2) := by
  unfold hidR
  rw [if_pos (pairG_ok hc hd), if_pos (by omega), if_neg h]
theorem hidR_w (h : (((c[0]!).length : Nat) : Int) = (((d[0]!).length : Nat) : Int)) (hw : ¬ weightsB i j = true) : hidR c d i j = ([], 3) := by
  unfold hidR
  rw [if_pos (pairG_ok hc hd), if_pos (by omega), if_pos h, if_neg hw]
theorem hidR_lim (h : (((c[0]!).length : Nat) : Int) = (((d[0]!).length : Nat) : Int)) (hw : weightsB i j = true) (h2 : ¬ limG 1 (((i + j) * totG c) * totG d) = 0) : hidR c d i j = ([], limG 1 (((i + j) * totG c) * totG d)) := by
  have h3 := limG_one (t := ((i + j) * totG c) * totG d) (validB_chan hc).c2
  unfold hidR
  rw [if_pos (pairG_ok hc hd), if_pos (by omega), if_pos h, if_pos hw, h3, if_neg h2]
theorem hidR_ok (h : (((c[0]!).length : Nat) : Int) = (((d[0]!).length : Nat) : Int)) (hw : weightsB i j = true) (h2 : limG 1 (((i + j) * totG c) * totG d) = 0) : hidR c d i j = (hidT c d i j, 0) := by
  have h3 := limG_one (t := ((i + j) * totG c) * totG d) (validB_chan hc).c2
  unfold hidR
  rw [if_pos (pairG_ok hc hd), if_pos (by omega), if_pos h, if_pos hw, h3, if_pos h2]; rfl
theorem visR_w (hw : ¬ weightsB i j = true) : visR c d i j = ([], 3) := by
  unfold visR
  rw [if_pos (pairG_ok hc hd), if_pos (by omega), if_neg hw]
theorem visR_lim (hw : weightsB i j = true) (h2 : ¬ limG (((c[0]!).length + (d[0]!).length : Nat) : Int) (((i + j) * totG c) * totG d) = 0) : visR c d i j = ([], limG (((c[0]!).length + (d[0]!).length : Nat) : Int) (((i + j) * totG c) * totG d)) := by
  unfold visR
  rw [if_pos (pairG_ok hc hd), if_pos (by omega), if_pos hw, if_neg h2]
theorem visR_ok (hw : weightsB i j = true) (h2 : limG (((c[0]!).length + (d[0]!).length : Nat) : Int) (((i + j) * totG c) * totG d) = 0) : visR c d i j = (visT c d i j, 0) := by
  unfold visR
  rw [if_pos (pairG_ok hc hd), if_pos (by omega), if_pos hw, if_pos h2]
  unfold visT
  congr 1
  refine tab_congr fun x y _ _ => ?_
  by_cases hy : y < (c[0]!).length
  · rw [if_pos hy, if_pos hy, Int.mul_assoc, Int.mul_comm]
  · rw [if_neg hy, if_neg hy, Int.mul_assoc, Int.mul_comm]
end

section
variable {c d : List (List Int)} {R C R2 C2 : Nat} {T T2 i j : Int}
theorem weigh (i j T T2 : Int) : (i * T2) * T + (j * T) * T2 = ((i + j) * T) * T2 := by
  rw [Int.mul_right_comm i T2 T, ← Int.add_mul, ← Int.add_mul]
theorem weighs {T T2 i j : Int} (hT : 1 ≤ T) (hT2 : 1 ≤ T2) (hi : 1 ≤ i) (hj : 1 ≤ j) : 0 ≤ i * T2 ∧ 0 ≤ j * T ∧ 1 ≤ ((i + j) * T) * T2 := by
  have h1 : 1 * 1 ≤ (i + j) * T := Int.mul_le_mul (by omega) hT (by omega) (by omega)
  have h2 : 1 * 1 ≤ ((i + j) * T) * T2 := Int.mul_le_mul (by omega) hT2 (by omega) (by omega)
  exact ⟨Int.mul_nonneg (by omega) (by omega), Int.mul_nonneg (by omega) (by omega), by omega⟩
theorem hid_chan (hc : Chan c R C T) (hd : Chan d R2 C2 T2) (hR : R = R2) (hC : C = C2) (hi : 1 ≤ i) (hj : 1 ≤ j) (ht : ((i + j) * T) * T2 ≤ 1048576) : Chan (hidT c d i j) R C (((i + j) * T) * T2) ∧ worthM (hidT c d i j) ≤ (i * T2) * worthM c + (j * T) * worthM d := by
  subst hR hC
  have e : hidT c d i j = tab R C fun x y => (i * T2) * ((c[x]!)[y]!) + (j * T) * ((d[x]!)[y]!) := by unfold hidT; rw [hc.rows, hc.cols, hc.tot, hd.tot]
  have r1 := hc.r1
  obtain ⟨a0, b0, t1⟩ := weighs hc.t1 hd.t1 hi hj
  have f0 := fun x y hx hy => (hc.entry x y hx hy).1
  have g0 := fun x y hx hy => (hd.entry x y hx hy).1
  rw [e]
  refine ⟨chan_tab hc.r1 hc.r2 hc.c1 hc.c2 t1 ht (fun x y hx hy => Int.add_nonneg (Int.mul_nonneg a0 (f0 x y hx hy)) (Int.mul_nonneg b0 (g0 x y hx hy))) fun x hx => ?_, ?_⟩
  · rw [sumTo_add, sumTo_mulL, sumTo_mulL, hc.rowSum hx, hd.rowSum hx, weigh]
  · rw [worthM_tab (by omega), worthM_wor hc, worthM_wor hd, ← wor_mul a0 f0, ← wor_mul b0 g0]
    exact wor_add_le
theorem vis_chan (hc : Chan c R C T) (hd : Chan d R2 C2 T2) (hR : R = R2) (hi : 1 ≤ i) (hj : 1 ≤ j) (hw : C + C2 ≤ 256) (ht : ((i + j) * T) * T2 ≤ 1048576) : Chan (visT c d i j) R (C + C2) (((i + j) * T) * T2) ∧ worthM (visT c d i j) = (i * T2) * worthM c + (j * T) * worthM d := by
  subst hR
  have e : visT c d i j = tab R (C + C2) fun x y => if y < C then (i * T2) * ((c[x]!)[y]!) else (j * T) * ((d[x]!)[y - C]!) := by unfold visT; rw [hc.rows, hc.cols, hd.cols, hc.tot, hd.tot]
  have r1 := hc.r1
  have c1 := hc.c1
  obtain ⟨a0, b0, t1⟩ := weighs hc.t1 hd.t1 hi hj
  have f0 := fun x y hx hy => (hc.entry x y hx hy).1
  have g0 := fun x y hx hy => (hd.entry x y hx hy).1
  rw [e]
  refine ⟨chan_tab hc.r1 hc.r2 (by omega) hw t1 ht (fun x y hx hy => ?_) fun x hx => ?_, ?_⟩
  · by_cases h : y < C
    · rw [if_pos h]; exact Int.mul_nonneg a0 (f0 x y hx h)
    · rw [if_neg h]; exact Int.mul_nonneg b0 (g0 x (y - C) hx (by omega))
  · rw [sumTo_append, ← weigh]
    have e1 : sumTo C (fun y => if y < C then (i * T2) * ((c[x]!)[y]!) else (j * T) * ((d[x]!)[y - C]!)) = (i * T2) * T := by
      have h3 : sumTo C (fun y => if y < C then (i * T2) * ((c[x]!)[y]!) else (j * T) * ((d[x]!)[y - C]!)) = sumTo C fun y => (i * T2) * ((c[x]!)[y]!) := sumTo_congr fun y hy => if_pos hy
      rw [h3, sumTo_mulL, hc.rowSum hx]
    have e2 : sumTo C2 (fun y => if C + y < C then (i * T2) * ((c[x]!)[C + y]!) else (j * T) * ((d[x]!)[C + y - C]!)) = (j * T) * T2 := by
      have h3 : sumTo C2 (fun y => if C + y < C then (i * T2) * ((c[x]!)[C + y]!) else (j * T) * ((d[x]!)[C + y - C]!)) = sumTo C2 fun y => (j * T) * ((d[x]!)[y]!) := sumTo_congr fun y hy => by rw [if_neg (by omega), Nat.add_sub_cancel_left]
      rw [h3, sumTo_mulL, hd.rowSum hx]
    rw [e1, e2]
  · rw [worthM_tab (by omega), worthM_wor hc, worthM_wor hd, ← wor_mul a0 f0, ← wor_mul b0 g0]
    exact wor_append (f := fun x y => (i * T2) * ((c[x]!)[y]!)) (g := fun x y => (j * T) * ((d[x]!)[y]!))
end
section
variable {c d : List (List Int)} {i j : Int} (hc : validB c = true) (hd : validB d = true) (hl : c.length = d.length) (hi : 1 ≤ i) (hj : 1 ≤ j)
include hc hd hl hi hj
theorem hid_facts (h : (((c[0]!).length : Nat) : Int) = (((d[0]!).length : Nat) : Int)) (h2 : limG 1 (((i + j) * totG c) * totG d) = 0) : validB (hidT c d i j) = true ∧ worthM (hidT c d i j) ≤ (i * totG d) * worthM c + (j * totG c) * worthM d :=
  let ⟨h3, h4⟩ := hid_chan (validB_chanT hc) (validB_chanT hd) hl (by omega) hi hj (limG_zero h2).2
  ⟨chan_validB h3, h4⟩
theorem vis_facts (h2 : limG (((c[0]!).length + (d[0]!).length : Nat) : Int) (((i + j) * totG c) * totG d) = 0) : validB (visT c d i j) = true ∧ worthM (visT c d i j) = (i * totG d) * worthM c + (j * totG c) * worthM d :=
  let ⟨h3, h4⟩ := vis_chan (validB_chanT hc) (validB_chanT hd) hl hi hj (by have := (limG_zero h2).1; omega) (limG_zero h2).2
  ⟨chan_validB h3, h4⟩
end
end Go.Proofs.Ytodeffidnipelaa
