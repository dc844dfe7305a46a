/- What the functions compute, in plain words of lists and integers. -/
import Derived.Test.YtodeffidnipelaaEvRows
namespace Go.Proofs.Ytodeffidnipelaa

/-- the row sum as channel.sum computes it: -1 where it gives up -/
def sumGo : Int → List Int → Int
  | t, [] => t
  | t, n :: l => if n < 0 ∨ n > 1048576 - t then -1 else sumGo (t + n) l

theorem sumGo_step (s : Int) (l : List Int) (k : Nat) (h : k < l.length) : sumGo s (l.drop k) = if l[k]! < 0 ∨ l[k]! > 1048576 - s then -1 else sumGo (s + l[k]!) (l.drop (k + 1)) := by
  rw [getElem!_pos l k h, List.drop_eq_getElem_cons h]; rfl
theorem sumGo_next (s : Int) (l : List Int) (k : Nat) (h : k < l.length) (h1 : ¬ l[k]! < 0) (h2 : ¬ 1048576 - s < l[k]!) : sumGo s (l.drop k) = sumGo (s + l[k]!) (l.drop (k + 1)) := by
  rw [sumGo_step s l k h, if_neg (by omega)]
theorem sumGo_stop (s : Int) (l : List Int) (k : Nat) (h : k < l.length) (h1 : l[k]! < 0 ∨ 1048576 - s < l[k]!) : sumGo s (l.drop k) = -1 := by
  rw [sumGo_step s l k h, if_pos (by omega)]
theorem sumGo_end (s : Int) (l : List Int) (k : Nat) (h : l.length ≤ k) : sumGo s (l.drop k) = s := by
  rw [List.drop_eq_nil_of_le h]; rfl

/-- the place of the first element that fits, as slices.IndexFunc returns it -/
def fidx {α : Type} (g : α → Bool) : Nat → List α → Int
  | _, [] => -1
  | i, x :: l => if g x then (i : Int) else fidx g (i + 1) l

section
variable {α : Type} [Inhabited α]
theorem fidx_step (g : α → Bool) (l : List α) (k : Nat) (h : k < l.length) : fidx g k (l.drop k) = if g l[k]! then (k : Int) else fidx g (k + 1) (l.drop (k + 1)) := by
  rw [getElem!_pos l k h, List.drop_eq_getElem_cons h]; rfl
theorem fidx_yes (g : α → Bool) (l : List α) (k : Nat) (h : k < l.length) (hg : g l[k]! = true) : fidx g k (l.drop k) = (k : Int) := by rw [fidx_step g l k h, if_pos hg]
theorem fidx_no (g : α → Bool) (l : List α) (k : Nat) (h : k < l.length) (hg : g l[k]! = false) : fidx g k (l.drop k) = fidx g (k + 1) (l.drop (k + 1)) := by rw [fidx_step g l k h, if_neg (by rw [hg]; exact Bool.false_ne_true)]
end
theorem fidx_end {α : Type} (g : α → Bool) (l : List α) (k : Nat) (h : l.length ≤ k) : fidx g k (l.drop k) = -1 := by rw [List.drop_eq_nil_of_le h]; rfl
theorem fidx_any {α : Type} (g : α → Bool) : ∀ (l : List α) (i : Nat), decide (0 ≤ fidx g i l) = l.any g
  | [], _ => rfl
  | x :: l, i => by
    unfold fidx
    by_cases h : g x = true
    · simp [h]
    · simp [h, fidx_any g l (i + 1)]

/-- a row that does not fit the width and the total -/
def vb1 (W T : Int) (l : List Int) : Bool := !decide ((l.length : Int) = W) || !decide (sumGo 0 l = T)

/-- the matrix is a channel, as channel.Valid tests it -/
def validB (m : List (List Int)) : Bool :=
  if m.length < 1 ∨ 256 < m.length then false else if (m[0]!).length < 1 ∨ 256 < (m[0]!).length ∨ sumGo 0 m[0]! < 1 then false else !(m.any (vb1 (m[0]!).length (sumGo 0 m[0]!)))

/-- the code of a result that would be too wide or too great -/
def limG (c t : Int) : Int := if 256 < c ∨ 1048576 < t then 4 else 0

def weightsB (i j : Int) : Bool := decide (1 ≤ i ∧ 1 ≤ j ∧ i ≤ 100 ∧ j ≤ 100)

def totG (m : List (List Int)) : Int := if validB m then sumGo 0 m[0]! else 0

def pairG (c d : List (List Int)) : Int := if validB c && validB d then 0 else 1

theorem limG_pos {c t : Int} (h : 256 < c ∨ 1048576 < t) : limG c t = 4 := if_pos h
theorem limG_neg {c t : Int} (h1 : ¬ 256 < c) (h2 : ¬ 1048576 < t) : limG c t = 0 := if_neg (by omega)

def smallB (m : List (List Int)) (n : Int) : Bool := decide ((m.length : Int) ≤ n) && m.all fun r => decide ((r.length : Int) ≤ n)

theorem all_take_step {α : Type} [Inhabited α] (p : α → Bool) (l : List α) (k : Nat) (h : k < l.length) (h1 : (l.take k).all p = true) (h2 : p l[k]! = true) : (l.take (k + 1)).all p = true := by
  rw [List.take_succ_eq_append_getElem h, List.all_append, h1, ← getElem!_pos l k h]
  simpa using h2
theorem all_take_end {α : Type} (p : α → Bool) (l : List α) (k : Nat) (h : l.length ≤ k) (h1 : (l.take k).all p = true) : l.all p = true := by rwa [List.take_of_length_le h] at h1
theorem all_stop {α : Type} [Inhabited α] (p : α → Bool) (l : List α) (k : Nat) (h : k < l.length) (h2 : p l[k]! = false) : l.all p = false := by
  rw [getElem!_pos l k h] at h2
  rw [List.all_eq_false]
  exact ⟨_, List.getElem_mem h, by rw [h2]; exact Bool.false_ne_true⟩

theorem smallB_len {m : List (List Int)} {n : Int} (h : n < (m.length : Int)) : smallB m n = false := by
  unfold smallB
  rw [decide_eq_false (by omega), Bool.false_and]
theorem smallB_no {m : List (List Int)} {n : Int} (k : Nat) (hk : k < m.length) (h : n < ((m[k]!).length : Int)) : smallB m n = false := by
  unfold smallB
  rw [all_stop _ m k hk (decide_eq_false (by omega)), Bool.and_false]
theorem smallB_yes {m : List (List Int)} {n : Int} (h : ¬ n < (m.length : Int)) (h2 : m.all (fun r => decide ((r.length : Int) ≤ n)) = true) : smallB m n = true := by
  unfold smallB
  rw [decide_eq_true (by omega), h2, Bool.and_self]

theorem vb1_true {W T : Int} {l : List Int} (h : (l.length : Int) ≠ W ∨ sumGo 0 l ≠ T) : vb1 W T l = true := by
  unfold vb1
  rcases h with h | h
  · rw [decide_eq_false h]; rfl
  · rw [decide_eq_false h]; simp
theorem vb1_false {W T : Int} {l : List Int} (h1 : (l.length : Int) = W) (h2 : sumGo 0 l = T) : vb1 W T l = false := by
  unfold vb1
  rw [decide_eq_true h1, decide_eq_true h2]; rfl

theorem validB_dim {m : List (List Int)} (h : m.length < 1 ∨ 256 < m.length ∨ (m[0]!).length < 1 ∨ 256 < (m[0]!).length ∨ sumGo 0 m[0]! < 1) : validB m = false := by
  unfold validB
  split
  · rfl
  · rw [if_pos (by omega)]
theorem validB_bad {m : List (List Int)} (k : Nat) (hk : k < m.length) (h : (m[k]!).length ≠ (m[0]!).length ∨ sumGo 0 m[k]! ≠ sumGo 0 m[0]!) : validB m = false := by
  unfold validB
  split
  · rfl
  · split
    · rfl
    · rw [Bool.not_eq_false', List.any_eq_true]
      exact ⟨m[k], List.getElem_mem hk, by rw [← getElem!_pos m k hk]; exact vb1_true (by omega)⟩
theorem validB_good {m : List (List Int)} (h1 : 1 ≤ m.length) (h2 : m.length ≤ 256) (h3 : 1 ≤ (m[0]!).length) (h4 : (m[0]!).length ≤ 256) (h5 : 1 ≤ sumGo 0 m[0]!)
    (h : ∀ i, i < m.length → (m[i]!).length = (m[0]!).length ∧ sumGo 0 m[i]! = sumGo 0 m[0]!) : validB m = true := by
  unfold validB
  rw [if_neg (by omega), if_neg (by omega), Bool.not_eq_true', List.any_eq_false]
  intro r hr
  obtain ⟨i, hi, rfl⟩ := List.getElem_of_mem hr
  have := h i hi
  rw [getElem!_pos m i hi] at this
  rw [vb1_false (by omega) this.2]
  exact Bool.false_ne_true

/-- the first k rows fit, as the model's valid has seen it -/
def VInv (m : List (List Int)) (k : Nat) (F : Int) : Prop := (k = 0 → F = 0) ∧ (0 < k → F = sumGo 0 m[0]! ∧ 1 ≤ F) ∧ ∀ i, i < k → (m[i]!).length = (m[0]!).length ∧ sumGo 0 m[i]! = F
theorem VInv_start (m : List (List Int)) : VInv m 0 0 := ⟨fun _ => rfl, fun h => by omega, fun i h => by omega⟩
theorem VInv_next {m : List (List Int)} {k : Nat} {F F' s : Int} (h : VInv m k F) (hl : (m[k]!).length = (m[0]!).length) (hs : sumGo 0 m[k]! = s) (h1 : 1 ≤ s) (hc : (k = 0 ∧ F' = s) ∨ (k ≠ 0 ∧ F' = F ∧ s = F)) : VInv m (k + 1) F' := by
  refine ⟨fun h => by omega, fun _ => ?_, fun i hi => ?_⟩
  · rcases hc with ⟨rfl, rfl⟩ | ⟨h0, rfl, h2⟩
    · exact ⟨hs.symm, h1⟩
    · exact h.2.1 (by omega)
  · rcases hc with ⟨rfl, rfl⟩ | ⟨h0, rfl, h2⟩
    · obtain rfl : i = 0 := by omega
      exact ⟨rfl, hs⟩
    · by_cases he : i = k
      · subst he; exact ⟨hl, by rw [hs, h2]⟩
      · exact h.2.2 i (by omega)
theorem VInv_end {m : List (List Int)} {k : Nat} {F : Int} (h : VInv m k F) (hk : k = m.length) (h1 : 1 ≤ m.length) (h2 : m.length ≤ 256) (h3 : 1 ≤ (m[0]!).length) (h4 : (m[0]!).length ≤ 256) : validB m = true := by
  obtain ⟨h6, h7⟩ := h.2.1 (by omega)
  exact validB_good h1 h2 h3 h4 (by omega) fun i hi => ⟨(h.2.2 i (by omega)).1, by rw [(h.2.2 i (by omega)).2, h6]⟩
theorem VInv_bad {m : List (List Int)} {k : Nat} {F s : Int} (h : VInv m k F) (hk : k < m.length) (hs : sumGo 0 m[k]! = s) (hc : s < 1 ∨ (k ≠ 0 ∧ s ≠ F)) : validB m = false := by
  by_cases h0 : k = 0
  · subst h0
    exact validB_dim (by omega)
  · obtain ⟨h6, h7⟩ := h.2.1 (by omega)
    exact validB_bad k hk (by omega)

/-- the entries of a row that has a sum -/
theorem sumGo_bounds : ∀ (l : List Int) (s : Int), 0 ≤ s → s ≤ 1048576 → 0 ≤ sumGo s l → (∀ n ∈ l, 0 ≤ n ∧ n ≤ 1048576) ∧ s ≤ sumGo s l ∧ sumGo s l ≤ 1048576
  | [], s, h0, h1, _ => ⟨(fun n h => by cases h), by simp [sumGo], by simpa [sumGo] using h1⟩
  | n :: l, s, h0, h1, h => by
    unfold sumGo at h ⊢
    by_cases hc : n < 0 ∨ n > 1048576 - s
    · rw [if_pos hc] at h; omega
    · rw [if_neg hc] at h ⊢
      obtain ⟨h2, h3, h4⟩ := sumGo_bounds l (s + n) (by omega) (by omega) h
      exact ⟨fun x hx => by
        rcases List.mem_cons.1 hx with rfl | hx
        · omega
        · exact h2 x hx, by omega, h4⟩

/-- what a channel is like -/
structure Chan (m : List (List Int)) (R C : Nat) (T : Int) : Prop where
  rows : m.length = R
  r1 : 1 ≤ R
  r2 : R ≤ 256
  c1 : 1 ≤ C
  c2 : C ≤ 256
  t1 : 1 ≤ T
  t2 : T ≤ 1048576
  width : ∀ x, x < R → (m[x]!).length = C
  sum : ∀ x, x < R → sumGo 0 m[x]! = T
  entry : ∀ x y, x < R → y < C → 0 ≤ (m[x]!)[y]! ∧ (m[x]!)[y]! ≤ 1048576

theorem validB_chan {m : List (List Int)} (h : validB m = true) : Chan m m.length (m[0]!).length (sumGo 0 m[0]!) := by
  unfold validB at h
  split at h
  · cases h
  · rename_i h1
    split at h
    · cases h
    · rename_i h2
      rw [Bool.not_eq_true', List.any_eq_false] at h
      have key : ∀ x, x < m.length → (m[x]!).length = (m[0]!).length ∧ sumGo 0 m[x]! = sumGo 0 m[0]! := fun x hx => by
        have h3 := h m[x] (List.getElem_mem hx)
        rw [← getElem!_pos m x hx] at h3
        by_cases h4 : (m[x]!).length = (m[0]!).length ∧ sumGo 0 m[x]! = sumGo 0 m[0]!
        · exact h4
        · exact absurd (vb1_true (by omega)) h3
      have hb := sumGo_bounds m[0]! 0 (by omega) (by omega) (by omega)
      refine ⟨rfl, by omega, by omega, by omega, by omega, by omega, by omega, fun x hx => (key x hx).1, fun x hx => (key x hx).2, fun x y hx hy => ?_⟩
      have hbx := sumGo_bounds m[x]! 0 (by omega) (by omega) (by have := (key x hx).2; omega)
      have hy' : y < (m[x]!).length := by rw [(key x hx).1]; exact hy
      rw [getElem!_pos _ y hy']
      exact hbx.1 _ (List.getElem_mem hy')

theorem chan_validB {m : List (List Int)} {R C : Nat} {T : Int} (h : Chan m R C T) : validB m = true := by
  have h1 := h.rows
  have h2 := h.width 0 (by have := h.r1; omega)
  have h3 := h.sum 0 (by have := h.r1; omega)
  have := h.r1; have := h.r2; have := h.c1; have := h.c2; have := h.t1
  exact validB_good (by omega) (by omega) (by omega) (by omega) (by omega) fun i hi => ⟨by rw [h.width i (by omega), h2], by rw [h.sum i (by omega), h3]⟩

def ent (m : List (List Int)) (x y : Nat) : Int := (m[x]!)[y]!

def tab (r c : Nat) (f : Nat → Nat → Int) : List (List Int) := (List.range r).map fun x => (List.range c).map fun y => f x y

theorem tab_succ (r c : Nat) (f : Nat → Nat → Int) : tab (r + 1) c f = tab r c f ++ [(List.range c).map fun y => f r y] := by
  unfold tab; rw [List.range_succ, List.map_append]; rfl
theorem tab_length (r c : Nat) (f : Nat → Nat → Int) : (tab r c f).length = r := by unfold tab; simp
theorem tab_row (r c : Nat) (f : Nat → Nat → Int) (x : Nat) (h : x < r) : (tab r c f)[x]! = (List.range c).map fun y => f x y := by
  rw [getElem!_pos _ x (by rw [tab_length]; exact h)]; simp [tab]

def sumTo : Nat → (Nat → Int) → Int
  | 0, _ => 0
  | n + 1, f => sumTo n f + f n

theorem sumTo_succ (n : Nat) (f : Nat → Int) : sumTo (n + 1) f = sumTo n f + f n := rfl

/-- the greatest entry of a column of the first rows -/
def colMax (m : List (List Int)) (y : Nat) : Nat → Int
  | 0 => 0
  | x + 1 => if colMax m y x < (m[x]!)[y]! then (m[x]!)[y]! else colMax m y x

/-- the sum of the greatest entries of the columns -/
def worthM (m : List (List Int)) : Int := sumTo (m[0]!).length fun y => colMax m y m.length

/-- the greatest element -/
def maxL (l : List Int) : Nat → Int
  | 0 => l[0]!
  | n + 1 => if maxL l n < l[n]! then l[n]! else maxL l n

/-- the sum of a row, without a bound -/
def rowSum (l : List Int) : Int := sumTo l.length fun i => l[i]!

def lpairG (c d : List (List Int)) : Int := if validB c && validB d then if c.length = d.length then 0 else 2 else 1

end Go.Proofs.Ytodeffidnipelaa
