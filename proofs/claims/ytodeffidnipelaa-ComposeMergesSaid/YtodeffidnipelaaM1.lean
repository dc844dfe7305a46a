/- Sums, greatest entries, channels as tables: plain words, no program. -/
import Derived.Test.YtodeffidnipelaaSpec
namespace Go.Proofs.Ytodeffidnipelaa

theorem sumTo_congr {n : Nat} {f g : Nat → Int} (h : ∀ i, i < n → f i = g i) : sumTo n f = sumTo n g := by
  induction n with
  | zero => rfl
  | succ n ih => rw [sumTo_succ, sumTo_succ, ih fun i hi => h i (by omega), h n (by omega)]
theorem sumTo_le {n : Nat} {f g : Nat → Int} (h : ∀ i, i < n → f i ≤ g i) : sumTo n f ≤ sumTo n g := by
  induction n with
  | zero => exact Int.le_refl _
  | succ n ih => rw [sumTo_succ, sumTo_succ]; have := ih fun i hi => h i (by omega); have := h n (by omega); omega
theorem sumTo_nonneg {n : Nat} {f : Nat → Int} (h : ∀ i, i < n → 0 ≤ f i) : 0 ≤ sumTo n f := by
  induction n with
  | zero => exact Int.le_refl _
  | succ n ih => rw [sumTo_succ]; have := ih fun i hi => h i (by omega); have := h n (by omega); omega
theorem sumTo_zero (n : Nat) : sumTo n (fun _ => 0) = 0 := by
  induction n with
  | zero => rfl
  | succ n ih => rw [sumTo_succ, ih]; rfl
theorem sumTo_add (n : Nat) (f g : Nat → Int) : sumTo n (fun i => f i + g i) = sumTo n f + sumTo n g := by
  induction n with
  | zero => rfl
  | succ n ih => simp only [sumTo_succ]; rw [ih]; omega
theorem sumTo_mulL (n : Nat) (a : Int) (f : Nat → Int) : sumTo n (fun i => a * f i) = a * sumTo n f := by
  induction n with
  | zero => simp [sumTo]
  | succ n ih => simp only [sumTo_succ]; rw [ih, Int.mul_add]
theorem sumTo_mulR (n : Nat) (a : Int) (f : Nat → Int) : sumTo n (fun i => f i * a) = sumTo n f * a := by
  induction n with
  | zero => simp [sumTo]
  | succ n ih => simp only [sumTo_succ]; rw [ih, Int.add_mul]
theorem sumTo_comm (n m : Nat) (f : Nat → Nat → Int) : sumTo n (fun i => sumTo m (fun j => f i j)) = sumTo m (fun j => sumTo n (fun i => f i j)) := by
  induction n with
  | zero => simp only [sumTo]; exact (sumTo_zero m).symm
  | succ n ih => simp only [sumTo_succ]; rw [ih, ← sumTo_add]
theorem sumTo_append (n m : Nat) (f : Nat → Int) : sumTo (n + m) f = sumTo n f + sumTo m (fun j => f (n + j)) := by
  induction m with
  | zero => simp [sumTo]
  | succ m ih => rw [← Nat.add_assoc, sumTo_succ, ih, sumTo_succ]; omega
theorem sumTo_prod (n k : Nat) (f : Nat → Nat → Int) (hk : 0 < k) : sumTo (n * k) (fun y => f (y / k) (y % k)) = sumTo n (fun i => sumTo k (fun j => f i j)) := by
  induction n with
  | zero => rw [Nat.zero_mul]; rfl
  | succ n ih =>
    rw [Nat.succ_mul, sumTo_append, ih, sumTo_succ]
    congr 1
    refine sumTo_congr fun j hj => ?_
    have h1 : (n * k + j) / k = n := by rw [Nat.mul_comm, Nat.mul_add_div hk, Nat.div_eq_of_lt hj]; rfl
    have h2 : (n * k + j) % k = j := by rw [Nat.mul_comm, Nat.mul_add_mod, Nat.mod_eq_of_lt hj]
    rw [h1, h2]

/-- the greatest entry of a column, of a table -/
def cmax (f : Nat → Nat → Int) (y : Nat) : Nat → Int
  | 0 => 0
  | x + 1 => if cmax f y x < f x y then f x y else cmax f y x
theorem cmax_nonneg (f : Nat → Nat → Int) (y : Nat) : ∀ R, 0 ≤ cmax f y R
  | 0 => Int.le_refl _
  | R + 1 => by unfold cmax; have := cmax_nonneg f y R; split <;> omega
theorem cmax_ge {f : Nat → Nat → Int} {y : Nat} : ∀ {R x : Nat}, x < R → f x y ≤ cmax f y R
  | R + 1, x, h => by
    unfold cmax
    by_cases he : x = R
    · subst he; split <;> omega
    · have := cmax_ge (f := f) (y := y) (R := R) (x := x) (by omega)
      split <;> omega
theorem cmax_le {f : Nat → Nat → Int} {y : Nat} {B : Int} (h0 : 0 ≤ B) : ∀ {R : Nat}, (∀ x, x < R → f x y ≤ B) → cmax f y R ≤ B
  | 0, _ => h0
  | R + 1, h => by
    unfold cmax
    have := cmax_le (f := f) (y := y) h0 (R := R) fun x hx => h x (by omega)
    have := h R (by omega)
    split <;> omega
theorem cmax_at {f : Nat → Nat → Int} {y : Nat} : ∀ {R : Nat}, (∀ x, x < R → 0 ≤ f x y) → 0 < R → ∃ x, x < R ∧ cmax f y R = f x y
  | 1, h, _ => ⟨0, by omega, by
    have := h 0 (by omega)
    show (if (0 : Int) < f 0 y then f 0 y else 0) = f 0 y
    by_cases h0 : 0 < f 0 y
    · rw [if_pos h0]
    · rw [if_neg h0]; omega⟩
  | R + 2, h, _ => by
    obtain ⟨x, hx, he⟩ := cmax_at (f := f) (y := y) (R := R + 1) (fun x hx => h x (by omega)) (by omega)
    unfold cmax
    split
    · exact ⟨R + 1, by omega, rfl⟩
    · exact ⟨x, by omega, he⟩
theorem cmax_congr {f g : Nat → Nat → Int} {y y' : Nat} : ∀ {R : Nat}, (∀ x, x < R → f x y = g x y') → cmax f y R = cmax g y' R
  | 0, _ => rfl
  | R + 1, h => by unfold cmax; rw [cmax_congr (R := R) fun x hx => h x (by omega), h R (by omega)]
theorem cmax_mul {f : Nat → Nat → Int} {y : Nat} {a : Int} (ha : 0 ≤ a) (R : Nat) (h : ∀ x, x < R → 0 ≤ f x y) : cmax (fun x y => a * f x y) y R = a * cmax f y R := by
  apply Int.le_antisymm
  · exact cmax_le (Int.mul_nonneg ha (cmax_nonneg _ _ _)) fun x hx => Int.mul_le_mul_of_nonneg_left (cmax_ge hx) ha
  · cases R with
    | zero => simp [cmax]
    | succ R =>
      obtain ⟨x, hx, he⟩ := cmax_at (f := f) (y := y) h (by omega)
      rw [he]
      exact cmax_ge (f := fun x y => a * f x y) hx

theorem colMax_cmax (m : List (List Int)) (y : Nat) : ∀ R, colMax m y R = cmax (fun x y => (m[x]!)[y]!) y R
  | 0 => rfl
  | R + 1 => by unfold colMax cmax; rw [colMax_cmax m y R]

/-- the sum of the greatest entries of the columns, of a table -/
def wor (R C : Nat) (f : Nat → Nat → Int) : Int := sumTo C fun y => cmax f y R
theorem worthM_wor {m : List (List Int)} {R C : Nat} {T : Int} (h : Chan m R C T) : worthM m = wor R C (fun x y => (m[x]!)[y]!) := by
  unfold worthM wor
  rw [h.width 0 (by have := h.r1; omega), h.rows]
  exact sumTo_congr fun y _ => colMax_cmax m y R
theorem wor_nonneg (R C : Nat) (f : Nat → Nat → Int) : 0 ≤ wor R C f := sumTo_nonneg fun _ _ => cmax_nonneg _ _ _

theorem tab_ent {R C : Nat} {f : Nat → Nat → Int} {x y : Nat} (hx : x < R) (hy : y < C) : ((tab R C f)[x]!)[y]! = f x y := by
  rw [tab_row _ _ _ _ hx, getElem!_pos _ y (by simpa using hy)]; simp
theorem tab_width {R C : Nat} {f : Nat → Nat → Int} {x : Nat} (hx : x < R) : ((tab R C f)[x]!).length = C := by rw [tab_row _ _ _ _ hx]; simp
theorem tab_congr {R C : Nat} {f g : Nat → Nat → Int} (h : ∀ x y, x < R → y < C → f x y = g x y) : tab R C f = tab R C g := by
  unfold tab
  exact List.map_congr_left fun x hx => List.map_congr_left fun y hy => h x y (List.mem_range.1 hx) (List.mem_range.1 hy)
theorem worthM_tab {R C : Nat} {f : Nat → Nat → Int} (hR : 0 < R) : worthM (tab R C f) = wor R C f := by
  unfold worthM wor
  rw [tab_width hR, tab_length]
  refine sumTo_congr fun y hy => ?_
  rw [colMax_cmax]
  exact cmax_congr fun x hx => tab_ent hx hy

/-- the sum of a row as sumGo computes it -/
theorem sumGo_ok : ∀ (l : List Int) (s : Int), 0 ≤ s → (∀ n ∈ l, 0 ≤ n) → s + sumTo l.length (fun i => l[i]!) ≤ 1048576 → sumGo s l = s + sumTo l.length (fun i => l[i]!)
  | [], s, _, _, _ => by simp [sumGo, sumTo]
  | n :: l, s, h0, h, hs => by
    have e : sumTo (n :: l).length (fun i => (n :: l)[i]!) = n + sumTo l.length (fun i => l[i]!) := by
      rw [List.length_cons, Nat.add_comm, sumTo_append]
      have e1 : sumTo 1 (fun i => (n :: l)[i]!) = n := by simp [sumTo]
      rw [e1]
      congr 1
      exact sumTo_congr fun i _ => by rw [Nat.add_comm]; simp
    rw [e] at hs ⊢
    have hn := h n (List.mem_cons_self ..)
    have hl : 0 ≤ sumTo l.length (fun i => l[i]!) := sumTo_nonneg fun i hi => by
      rw [getElem!_pos l i hi]; exact h _ (List.mem_cons_of_mem _ (List.getElem_mem hi))
    unfold sumGo
    rw [if_neg (by omega), sumGo_ok l (s + n) (by omega) (fun x hx => h x (List.mem_cons_of_mem _ hx)) (by omega)]
    omega
theorem sumGo_val : ∀ (l : List Int) (s : Int), 0 ≤ s → 0 ≤ sumGo s l → sumGo s l = s + sumTo l.length (fun i => l[i]!)
  | [], s, _, _ => by simp [sumGo, sumTo]
  | n :: l, s, h0, h => by
    have e : sumTo (n :: l).length (fun i => (n :: l)[i]!) = n + sumTo l.length (fun i => l[i]!) := by
      rw [List.length_cons, Nat.add_comm, sumTo_append]
      have e1 : sumTo 1 (fun i => (n :: l)[i]!) = n := by simp [sumTo]
      rw [e1]
      congr 1
      exact sumTo_congr fun i _ => by rw [Nat.add_comm]; simp
    rw [e]
    unfold sumGo at h ⊢
    by_cases hc : n < 0 ∨ n > 1048576 - s
    · rw [if_pos hc] at h; omega
    · rw [if_neg hc] at h ⊢
      rw [sumGo_val l (s + n) (by omega) h]; omega
theorem Chan.rowSum {m : List (List Int)} {R C : Nat} {T : Int} (h : Chan m R C T) {x : Nat} (hx : x < R) : sumTo C (fun y => (m[x]!)[y]!) = T := by
  have h1 := sumGo_val m[x]! 0 (by omega) (by rw [h.sum x hx]; have := h.t1; omega)
  rw [h.sum x hx, h.width x hx] at h1
  omega
theorem sumTo_entry {n : Nat} {f : Nat → Int} (h : ∀ i, i < n → 0 ≤ f i) {j : Nat} (hj : j < n) : f j ≤ sumTo n f := by
  induction n with
  | zero => omega
  | succ n ih =>
    rw [sumTo_succ]
    have h1 := sumTo_nonneg (n := n) (f := f) fun i hi => h i (by omega)
    have h2 := h n (by omega)
    by_cases he : j = n
    · subst he; omega
    · have := ih (fun i hi => h i (by omega)) (by omega); omega
/-- A table is a channel. -/
theorem chan_tab {R C : Nat} {T : Int} {f : Nat → Nat → Int} (r1 : 1 ≤ R) (r2 : R ≤ 256) (c1 : 1 ≤ C) (c2 : C ≤ 256) (t1 : 1 ≤ T) (t2 : T ≤ 1048576) (h0 : ∀ x y, x < R → y < C → 0 ≤ f x y) (hs : ∀ x, x < R → sumTo C (f x) = T) : Chan (tab R C f) R C T := by
  have key : ∀ x, x < R → sumTo C (fun y => ((tab R C f)[x]!)[y]!) = T := fun x hx => by rw [← hs x hx]; exact sumTo_congr fun y hy => tab_ent hx hy
  refine ⟨tab_length _ _ _, r1, r2, c1, c2, t1, t2, fun x hx => tab_width hx, fun x hx => ?_, fun x y hx hy => ?_⟩
  · have h1 := sumGo_ok (tab R C f)[x]! 0 (by omega) (fun n hn => by
      rw [tab_row _ _ _ _ hx] at hn
      obtain ⟨y, hy, rfl⟩ := List.mem_map.1 hn
      exact h0 x y hx (List.mem_range.1 hy)) (by rw [tab_width hx, key x hx]; omega)
    rw [h1, tab_width hx, key x hx]; omega
  · rw [tab_ent hx hy]
    refine ⟨h0 x y hx hy, ?_⟩
    have := sumTo_entry (f := f x) (fun i hi => h0 x i hx hi) hy
    rw [hs x hx] at this
    omega
theorem Chan.tabEq {m : List (List Int)} {R C : Nat} {T : Int} (h : Chan m R C T) : m = tab R C (fun x y => (m[x]!)[y]!) := by
  apply List.ext_getElem (by rw [tab_length, h.rows])
  intro x hx hx'
  have hxR : x < R := by have := h.rows; omega
  have h1 : (tab R C (fun x y => (m[x]!)[y]!))[x] = (List.range C).map fun y => (m[x]!)[y]! := by
    have := tab_row R C (fun x y => (m[x]!)[y]!) x hxR
    rwa [getElem!_pos _ x hx'] at this
  rw [h1]
  have hw := h.width x hxR
  rw [getElem!_pos m x hx] at hw ⊢
  apply List.ext_getElem (by simp [hw])
  intro y hy hy'
  rw [List.getElem_map, List.getElem_range, getElem!_pos _ y hy]
theorem Chan.cols {m : List (List Int)} {R C : Nat} {T : Int} (h : Chan m R C T) : (m[0]!).length = C := h.width 0 (by have := h.r1; omega)
theorem Chan.tot {m : List (List Int)} {R C : Nat} {T : Int} (h : Chan m R C T) : totG m = T := by
  unfold totG
  rw [if_pos (chan_validB h), h.sum 0 (by have := h.r1; omega)]
theorem Chan.worth_bounds {m : List (List Int)} {R C : Nat} {T : Int} (h : Chan m R C T) : 0 ≤ worthM m ∧ worthM m ≤ 268435456 := by
  rw [worthM_wor h]
  refine ⟨wor_nonneg _ _ _, ?_⟩
  have h1 : wor R C (fun x y => (m[x]!)[y]!) ≤ sumTo C fun _ => 1048576 * 1 := sumTo_le fun y hy => cmax_le (by omega) fun x hx => (h.entry x y hx hy).2
  have h2 : ∀ n : Nat, sumTo n (fun _ => 1048576 * 1) = 1048576 * (n : Int) := fun n => by
    induction n with
    | zero => rfl
    | succ n ih => rw [sumTo_succ, ih]; omega
  rw [h2] at h1
  have := h.c2
  omega

/-! ### What the compositions do to the worth -/
section
variable {R C S : Nat} {f g : Nat → Nat → Int} {T U : Int}

theorem wor_casc_left (_ : ∀ x y, x < R → y < C → 0 ≤ f x y) (hg : ∀ y z, y < C → z < S → 0 ≤ g y z) (hs : ∀ y, y < C → sumTo S (g y) = U) : wor R S (fun x z => sumTo C fun y => f x y * g y z) ≤ wor R C f * U := by
  unfold wor
  have h1 : sumTo S (fun z => cmax (fun x z => sumTo C fun y => f x y * g y z) z R) ≤ sumTo S (fun z => sumTo C fun y => cmax f y R * g y z) := sumTo_le fun z hz =>
    cmax_le (sumTo_nonneg fun y hy => Int.mul_nonneg (cmax_nonneg _ _ _) (hg y z hy hz)) fun x hx => sumTo_le fun y hy => Int.mul_le_mul_of_nonneg_right (cmax_ge hx) (hg y z hy hz)
  refine Int.le_trans h1 ?_
  rw [sumTo_comm]
  have h2 : sumTo C (fun y => sumTo S fun z => cmax f y R * g y z) = sumTo C (fun y => cmax f y R * U) := sumTo_congr fun y hy => by rw [sumTo_mulL, hs y hy]
  rw [h2, sumTo_mulR]
  exact Int.le_refl _
theorem wor_casc_right (_ : 0 < C) (hf : ∀ x y, x < R → y < C → 0 ≤ f x y) (hT : 0 ≤ T) (hs : ∀ x, x < R → sumTo C (f x) = T) : wor R S (fun x z => sumTo C fun y => f x y * g y z) ≤ wor C S g * T := by
  unfold wor
  rw [← sumTo_mulR]
  refine sumTo_le fun z hz => cmax_le (Int.mul_nonneg (cmax_nonneg _ _ _) hT) fun x hx => ?_
  have h1 : sumTo C (fun y => f x y * g y z) ≤ sumTo C (fun y => f x y * cmax g z C) := sumTo_le fun y hy => Int.mul_le_mul_of_nonneg_left (cmax_ge hy) (hf x y hx hy)
  rw [sumTo_mulR, hs x hx] at h1
  rw [Int.mul_comm]
  exact h1
theorem wor_par_le (hS : 0 < S) (_ : ∀ x y, x < R → y < C → 0 ≤ f x y) (hg : ∀ x z, x < R → z < S → 0 ≤ g x z) : wor R (C * S) (fun x y => f x (y / S) * g x (y % S)) ≤ wor R C f * wor R S g := by
  unfold wor
  have h1 : sumTo (C * S) (fun y => cmax (fun x y => f x (y / S) * g x (y % S)) y R) ≤ sumTo (C * S) (fun y => cmax f (y / S) R * cmax g (y % S) R) := sumTo_le fun y hy => by
    have hr : y % S < S := Nat.mod_lt _ hS
    refine cmax_le (Int.mul_nonneg (cmax_nonneg _ _ _) (cmax_nonneg _ _ _)) fun x hx => ?_
    exact Int.le_trans (Int.mul_le_mul_of_nonneg_right (cmax_ge hx) (hg x _ hx hr)) (Int.mul_le_mul_of_nonneg_left (cmax_ge hx) (cmax_nonneg _ _ _))
  refine Int.le_trans h1 ?_
  rw [sumTo_prod C S (fun y z => cmax f y R * cmax g z R) hS, ← sumTo_mulR]
  exact sumTo_le fun y hy => by rw [sumTo_mulL]; exact Int.le_refl _
theorem wor_par_left (hR : 0 < R) (hS : 0 < S) (hf : ∀ x y, x < R → y < C → 0 ≤ f x y) (hs : ∀ x, x < R → sumTo S (g x) = U) : wor R C f * U ≤ wor R (C * S) (fun x y => f x (y / S) * g x (y % S)) := by
  unfold wor
  have e : sumTo (C * S) (fun y => cmax (fun x y => f x (y / S) * g x (y % S)) y R) = sumTo (C * S) (fun y => cmax (fun x _ => f x (y / S) * g x (y % S)) 0 R) := sumTo_congr fun y _ => cmax_congr fun _ _ => rfl
  rw [e, sumTo_prod C S (fun y z => cmax (fun x _ => f x y * g x z) 0 R) hS, ← sumTo_mulR]
  refine sumTo_le fun y hy => ?_
  obtain ⟨x, hx, he⟩ := cmax_at (f := f) (y := y) (fun x hx => hf x y hx hy) hR
  rw [he, ← hs x hx, ← sumTo_mulL]
  exact sumTo_le fun z _ => cmax_ge (f := fun x _ => f x y * g x z) (y := 0) hx
theorem wor_par_right (hR : 0 < R) (hS : 0 < S) (hg : ∀ x z, x < R → z < S → 0 ≤ g x z) (hs : ∀ x, x < R → sumTo C (f x) = T) : wor R S g * T ≤ wor R (C * S) (fun x y => f x (y / S) * g x (y % S)) := by
  unfold wor
  have e : sumTo (C * S) (fun y => cmax (fun x y => f x (y / S) * g x (y % S)) y R) = sumTo (C * S) (fun y => cmax (fun x _ => f x (y / S) * g x (y % S)) 0 R) := sumTo_congr fun y _ => cmax_congr fun _ _ => rfl
  rw [e, sumTo_prod C S (fun y z => cmax (fun x _ => f x y * g x z) 0 R) hS, sumTo_comm, ← sumTo_mulR]
  refine sumTo_le fun z hz => ?_
  obtain ⟨x, hx, he⟩ := cmax_at (f := g) (y := z) (fun x hx => hg x z hx hz) hR
  rw [he, ← hs x hx, ← sumTo_mulL]
  refine sumTo_le fun y _ => ?_
  rw [Int.mul_comm]
  exact cmax_ge (f := fun x _ => f x y * g x z) (y := 0) hx
theorem wor_add_le : wor R C (fun x y => f x y + g x y) ≤ wor R C f + wor R C g := by
  unfold wor
  rw [← sumTo_add]
  exact sumTo_le fun y _ => cmax_le (by have := cmax_nonneg f y R; have := cmax_nonneg g y R; omega) fun x hx => by have := cmax_ge (f := f) (y := y) hx; have := cmax_ge (f := g) (y := y) hx; omega
theorem wor_mul {a : Int} (ha : 0 ≤ a) (hf : ∀ x y, x < R → y < C → 0 ≤ f x y) : wor R C (fun x y => a * f x y) = a * wor R C f := by
  unfold wor
  rw [← sumTo_mulL]
  exact sumTo_congr fun y hy => cmax_mul ha R fun x hx => hf x y hx hy
theorem wor_append : wor R (C + S) (fun x y => if y < C then f x y else g x (y - C)) = wor R C f + wor R S g := by
  unfold wor
  rw [sumTo_append]
  congr 1
  · exact sumTo_congr fun y hy => cmax_congr fun x _ => if_pos hy
  · exact sumTo_congr fun y hy => cmax_congr fun x _ => by
      show (if C + y < C then f x (C + y) else g x (C + y - C)) = g x y
      rw [if_neg (by omega), Nat.add_sub_cancel_left]
end
end Go.Proofs.Ytodeffidnipelaa
