/- What the compositions are, and their worths. -/
import Derived.Test.YtodeffidnipelaaT10
import Derived.Test.YtodeffidnipelaaM1
namespace Go.Proofs.Ytodeffidnipelaa

theorem limG_zero {c t : Int} (h : limG c t = 0) : c ≤ 256 ∧ t ≤ 1048576 := by
  unfold limG at h
  by_cases hb : 256 < c ∨ 1048576 < t
  · rw [if_pos hb] at h; omega
  · omega

theorem worth_mul_bounds {m n : List (List Int)} (hm : validB m = true) (hn : validB n = true) : (0 ≤ worthM m ∧ worthM m ≤ 268435456) ∧ (0 ≤ worthM m * worthM n ∧ worthM m * worthM n ≤ 268435456 * 268435456) ∧ (0 ≤ worthM m * totG n ∧ worthM m * totG n ≤ 268435456 * 1048576) := by
  have h1 := (validB_chan hm).worth_bounds
  have h2 := (validB_chan hn).worth_bounds
  have h3 := totG_bounds hn
  exact ⟨h1, mul_bound h1 h2, mul_bound h1 ⟨h3.1, h3.2.1⟩⟩

section
variable {c d : List (List Int)} {R C : Nat} {T : Int} {R2 C2 : Nat} {T2 : Int}
theorem casc_chan (hc : Chan c R C T) (hd : Chan d R2 C2 T2) (hj : C = R2) (ht : T * T2 ≤ 1048576) : Chan (cascT c d) R C2 (T * T2) := by
  subst hj
  have e : cascT c d = tab R C2 (fun x y => sumTo C fun k => ((c[x]!)[k]!) * ((d[k]!)[y]!)) := by unfold cascT; rw [hc.rows, hd.cols, hd.rows]
  rw [e]
  have h1 : 1 * 1 ≤ T * T2 := Int.mul_le_mul hc.t1 hd.t1 (by omega) (by have := hc.t1; omega)
  refine chan_tab hc.r1 hc.r2 hd.c1 hd.c2 (by omega) ht (fun x y hx hy => sumTo_nonneg fun k hk => Int.mul_nonneg (hc.entry x k hx hk).1 (hd.entry k y hk hy).1) fun x hx => ?_
  rw [sumTo_comm]
  have h2 : sumTo C (fun k => sumTo C2 fun y => ((c[x]!)[k]!) * ((d[k]!)[y]!)) = sumTo C (fun k => ((c[x]!)[k]!) * T2) := sumTo_congr fun k hk => by rw [sumTo_mulL, hd.rowSum hk]
  rw [h2, sumTo_mulR, hc.rowSum hx]
theorem casc_worth (hc : Chan c R C T) (hd : Chan d R2 C2 T2) (hj : C = R2) : worthM (cascT c d) ≤ worthM c * T2 ∧ worthM (cascT c d) ≤ worthM d * T := by
  subst hj
  have e : cascT c d = tab R C2 (fun x y => sumTo C fun k => ((c[x]!)[k]!) * ((d[k]!)[y]!)) := by unfold cascT; rw [hc.rows, hd.cols, hd.rows]
  have r1 := hc.r1
  have c1 := hc.c1
  have t1 := hc.t1
  rw [e, worthM_tab (by omega), worthM_wor hc, worthM_wor hd]
  exact ⟨wor_casc_left (f := fun x y => (c[x]!)[y]!) (g := fun x y => (d[x]!)[y]!) (fun x y hx hy => (hc.entry x y hx hy).1) (fun x y hx hy => (hd.entry x y hx hy).1) (fun y hy => hd.rowSum hy),
    wor_casc_right (f := fun x y => (c[x]!)[y]!) (g := fun x y => (d[x]!)[y]!) (by omega) (fun x y hx hy => (hc.entry x y hx hy).1) (by omega) (fun y hy => hc.rowSum hy)⟩
theorem par_tab (hc : Chan c R C T) (hd : Chan d R2 C2 T2) : parT c d = tab R (C * C2) (fun x y => ((c[x]!)[y / C2]!) * ((d[x]!)[y % C2]!)) := by unfold parT; rw [hc.rows, hc.cols, hd.cols]
theorem par_chan (hc : Chan c R C T) (hd : Chan d R2 C2 T2) (hj : R = R2) (hw : C * C2 ≤ 256) (ht : T * T2 ≤ 1048576) : Chan (parT c d) R (C * C2) (T * T2) := by
  subst hj
  rw [par_tab hc hd]
  have h1 : 1 * 1 ≤ T * T2 := Int.mul_le_mul hc.t1 hd.t1 (by omega) (by have := hc.t1; omega)
  have c1 := hd.c1
  have h3 : 1 * 1 ≤ C * C2 := Nat.mul_le_mul hc.c1 hd.c1
  refine chan_tab hc.r1 hc.r2 (by omega) hw (by omega) ht (fun x y hx hy => ?_) fun x hx => ?_
  · exact Int.mul_nonneg (hc.entry x _ hx (Nat.div_lt_of_lt_mul (by rw [Nat.mul_comm]; exact hy))).1 (hd.entry x _ hx (Nat.mod_lt _ (by omega))).1
  · rw [sumTo_prod C C2 (fun i j => ((c[x]!)[i]!) * ((d[x]!)[j]!)) (by omega)]
    have h2 : sumTo C (fun i => sumTo C2 fun j => ((c[x]!)[i]!) * ((d[x]!)[j]!)) = sumTo C (fun k => ((c[x]!)[k]!) * T2) := sumTo_congr fun k hk => by rw [sumTo_mulL, hd.rowSum hx]
    rw [h2, sumTo_mulR, hc.rowSum hx]
theorem par_worth (hc : Chan c R C T) (hd : Chan d R2 C2 T2) (hj : R = R2) : worthM (parT c d) ≤ worthM c * worthM d ∧ worthM c * T2 ≤ worthM (parT c d) ∧ worthM d * T ≤ worthM (parT c d) := by
  subst hj
  have r1 := hc.r1
  have c1 := hd.c1
  rw [par_tab hc hd, worthM_tab (by omega), worthM_wor hc, worthM_wor hd]
  have f0 := fun x y hx hy => (hc.entry x y hx hy).1
  have g0 := fun x y hx hy => (hd.entry x y hx hy).1
  exact ⟨wor_par_le (f := fun x y => (c[x]!)[y]!) (g := fun x y => (d[x]!)[y]!) (by omega) f0 g0, wor_par_left (f := fun x y => (c[x]!)[y]!) (g := fun x y => (d[x]!)[y]!) (by omega) (by omega) f0 (fun x hx => hd.rowSum hx),
    wor_par_right (f := fun x y => (c[x]!)[y]!) (g := fun x y => (d[x]!)[y]!) (by omega) (by omega) g0 (fun x hx => hc.rowSum hx)⟩
end

section
variable {c d : List (List Int)} (hc : validB c = true) (hd : validB d = true)
include hc hd
theorem cascR_zero (h : (cascR c d).2 = 0) : (c[0]!).length = d.length ∧ totG c * totG d ≤ 1048576 ∧ (cascR c d).1 = cascT c d := by
  by_cases hl : (((c[0]!).length : Nat) : Int) = ((d.length : Nat) : Int)
  · by_cases h2 : limG 1 (totG c * totG d) = 0
    · exact ⟨by omega, (limG_zero h2).2, by rw [cascR_ok hc hd hl h2]⟩
    · rw [cascR_lim hc hd hl h2] at h; exact absurd h h2
  · rw [cascR_len hc hd hl] at h; cases h
theorem cascR_facts (h : (cascR c d).2 = 0) : validB (cascR c d).1 = true ∧ worthM (cascR c d).1 ≤ worthM c * totG d ∧ worthM (cascR c d).1 ≤ worthM d * totG c := by
  obtain ⟨h1, h2, h3⟩ := cascR_zero hc hd h
  rw [h3]
  exact ⟨chan_validB (casc_chan (validB_chanT hc) (validB_chanT hd) h1 h2), casc_worth (validB_chanT hc) (validB_chanT hd) h1⟩
theorem parR_zero (h : (parR c d).2 = 0) : c.length = d.length ∧ (c[0]!).length * (d[0]!).length ≤ 256 ∧ totG c * totG d ≤ 1048576 ∧ (parR c d).1 = parT c d := by
  by_cases hl : c.length = d.length
  · by_cases h2 : limG (((c[0]!).length * (d[0]!).length : Nat) : Int) (totG c * totG d) = 0
    · exact ⟨hl, by have := (limG_zero h2).1; omega, (limG_zero h2).2, by rw [parR_ok hc hd hl h2]⟩
    · rw [parR_lim hc hd hl h2] at h; exact absurd h h2
  · have h4 : lpairG c d = 2 := by unfold lpairG; rw [hc, hd, if_pos (show (true && true) = true from rfl), if_neg hl]
    rw [parR_bad (by omega), h4] at h; cases h
theorem parR_facts (h : (parR c d).2 = 0) : validB (parR c d).1 = true ∧ worthM (parR c d).1 ≤ worthM c * worthM d ∧ worthM c * totG d ≤ worthM (parR c d).1 ∧ worthM d * totG c ≤ worthM (parR c d).1 := by
  obtain ⟨h0, h1, h2, h3⟩ := parR_zero hc hd h
  rw [h3]
  exact ⟨chan_validB (par_chan (validB_chanT hc) (validB_chanT hd) h0 h1 h2), par_worth (validB_chanT hc) (validB_chanT hd) h0⟩
end
end Go.Proofs.Ytodeffidnipelaa
