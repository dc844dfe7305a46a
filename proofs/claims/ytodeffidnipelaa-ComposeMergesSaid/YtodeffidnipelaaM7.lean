/- Merge: what it returns, and that it is a cascade. -/
import Derived.Test.YtodeffidnipelaaM2
import Derived.Test.YtodeffidnipelaaEvMat
namespace Go.Proofs.Ytodeffidnipelaa
open Go.RowKit Go.Ev

/-- the first j columns of row x, added to their places: what stands at z -/
def mrow (c : List (List Int)) (t : List Int) (x j z : Nat) : Int := sumTo j fun y => if t[y]! = (z : Int) then (c[x]!)[y]! else 0
def mergeT (c : List (List Int)) (t : List Int) : List (List Int) := tab c.length (c[0]!).length fun x z => mrow c t x (c[0]!).length z
def outB (k : Int) (t : List Int) : Bool := t.any fun n => decide (n < 0 ∨ k ≤ n)
def mergeR (c : List (List Int)) (t : List Int) : List (List Int) × Int :=
  if validB c = true then if t.length = (c[0]!).length then if outB ((c[0]!).length : Nat) t = true then ([], 3) else (mergeT c t, 0) else ([], 2) else ([], 1)

section
variable {c : List (List Int)} {t : List Int} {R C : Nat} {T : Int} {x j : Nat}
theorem mergeR_bad (h : validB c = false) : mergeR c t = ([], 1) := by unfold mergeR; rw [if_neg (by rw [h]; exact Bool.false_ne_true)]
theorem mergeR_len (h : validB c = true) (hl : ¬ t.length = (c[0]!).length) : mergeR c t = ([], 2) := by unfold mergeR; rw [if_pos h, if_neg hl]
theorem mergeR_out (h : validB c = true) (hl : t.length = (c[0]!).length) (ho : outB ((c[0]!).length : Nat) t = true) : mergeR c t = ([], 3) := by unfold mergeR; rw [if_pos h, if_pos hl, if_pos ho]
theorem mergeR_ok (h : validB c = true) (hl : t.length = (c[0]!).length) (ho : outB ((c[0]!).length : Nat) t = false) : mergeR c t = (mergeT c t, 0) := by unfold mergeR; rw [if_pos h, if_pos hl, if_neg (by rw [ho]; exact Bool.false_ne_true)]
theorem outB_no {k : Int} (h : outB k t = false) : ∀ y, y < t.length → 0 ≤ t[y]! ∧ t[y]! < k := fun y hy => by
  unfold outB at h
  rw [List.any_eq_false] at h
  have := h t[y]! (by rw [getElem!_pos t y hy]; exact List.getElem_mem hy)
  have h2 : ¬ (t[y]! < 0 ∨ k ≤ t[y]!) := fun hc => this (decide_eq_true hc)
  omega
theorem mrow_bounds (hc : Chan c R C T) (hx : x < R) (hj : j ≤ C) (z : Nat) : 0 ≤ mrow c t x j z ∧ mrow c t x j z ≤ 1048576 := by
  have h0 : ∀ y, y < C → 0 ≤ (c[x]!)[y]! := fun y hy => (hc.entry x y hx hy).1
  refine ⟨sumTo_nonneg fun y hy => by split <;> first | exact h0 y (by omega) | exact Int.le_refl _, ?_⟩
  have h1 : mrow c t x j z ≤ sumTo j fun y => (c[x]!)[y]! := sumTo_le fun y hy => by
    have := h0 y (by omega)
    split <;> omega
  have h2 : (sumTo j fun y => (c[x]!)[y]!) ≤ sumTo C fun y => (c[x]!)[y]! := by
    obtain ⟨d, rfl⟩ := Nat.le.dest hj
    rw [sumTo_append]
    have := sumTo_nonneg (n := d) (f := fun i => (c[x]!)[j + i]!) fun i hi => h0 _ (by omega)
    omega
  rw [hc.rowSum hx] at h2
  have := hc.t2
  omega
theorem mrow_zero (z : Nat) : mrow c t x 0 z = 0 := rfl
theorem mrow_start {cur : Array Value} {f : Nat → Int} (h : ∀ z, z < C → cur[z]? = some (.int .i64 (f z))) (hf : ∀ z, z < C → f z = 0) : ∀ z, z < C → cur[z]? = some (.int .i64 (mrow c t x 0 z)) := fun z hz => by
  rw [h z hz, hf z hz]; rfl
theorem mrow_next {cur : Array Value} (h : ∀ z, z < C → cur[z]? = some (.int .i64 (mrow c t x j z))) (hs : cur.size = C) (h0 : 0 ≤ t[j]! ∧ t[j]! < (C : Int)) :
    ∀ z, z < C → (cur.setIfInBounds (0 + (t[j]!).toNat) (.int .i64 (mrow c t x j (t[j]!).toNat + (c[x]!)[j]!)))[z]? = some (.int .i64 (mrow c t x (j + 1) z)) := fun z hz => by
  rw [Nat.zero_add]
  have e : mrow c t x (j + 1) z = mrow c t x j z + (if t[j]! = (z : Int) then (c[x]!)[j]! else 0) := rfl
  by_cases hzt : z = (t[j]!).toNat
  · subst hzt
    rw [e, if_pos (by omega), Array.getElem?_setIfInBounds_self_of_lt (by omega)]
  · rw [e, if_neg (by omega), Array.getElem?_setIfInBounds_ne (by omega), h z hz, Int.add_zero]
theorem mergeT_tab (hc : Chan c R C T) : mergeT c t = tab R C fun x z => mrow c t x C z := by unfold mergeT; rw [hc.rows, hc.cols]

/-- the deterministic channel of a list of places -/
def detT (t : List Int) : List (List Int) := tab t.length t.length fun x y => if t[x]! = ((y : Nat) : Int) then 1 else 0
theorem sum_at {n : Nat} {v a : Int} (h0 : 0 ≤ v) (h1 : v < n) : (sumTo n fun z => if v = ((z : Nat) : Int) then a else 0) = a := by
  induction n with
  | zero => omega
  | succ n ih =>
    rw [sumTo_succ]
    by_cases hv : v = (n : Int)
    · rw [if_pos hv]
      have : (sumTo n fun z => if v = ((z : Nat) : Int) then a else 0) = sumTo n fun _ => 0 := sumTo_congr fun z hz => if_neg (by omega)
      rw [this, sumTo_zero]; omega
    · rw [if_neg hv, ih (by omega)]; omega
theorem det_chan (h1 : 1 ≤ t.length) (h2 : t.length ≤ 256) (h : ∀ y, y < t.length → 0 ≤ t[y]! ∧ t[y]! < (t.length : Int)) : Chan (detT t) t.length t.length 1 :=
  chan_tab h1 h2 h1 h2 (by omega) (by omega) (fun x y _ _ => by split <;> omega) fun x hx => sum_at (h x hx).1 (h x hx).2
theorem merge_casc (hc : Chan c R C T) (hl : t.length = C) : mergeT c t = cascT c (detT t) := by
  rw [mergeT_tab hc]
  have hd0 : ((detT t)[0]!).length = C := by
    have := hc.c1
    unfold detT; rw [tab_width (by omega), hl]
  have hd1 : (detT t).length = C := by unfold detT; rw [tab_length, hl]
  unfold cascT
  rw [hc.rows, hd0, hd1]
  refine tab_congr fun x z _ hz => sumTo_congr fun y hy => ?_
  have : ((detT t)[y]!)[z]! = if t[y]! = ((z : Nat) : Int) then 1 else 0 := by unfold detT; exact tab_ent (by omega) (by omega)
  rw [this]
  split
  · rw [Int.mul_one]
  · rw [Int.mul_zero]
end

theorem merge_facts {c : List (List Int)} {t : List Int} (hc : validB c = true) (hl : t.length = (c[0]!).length) (ho : outB ((c[0]!).length : Nat) t = false) :
    validB (detT t) = true ∧ cascR c (detT t) = (cascT c (detT t), 0) ∧ mergeT c t = cascT c (detT t) ∧ validB (mergeT c t) = true ∧ worthM (mergeT c t) ≤ worthM c := by
  have cc := validB_chanT hc
  have h1 := cc.c1
  have h2 := cc.c2
  have hb := outB_no ho
  rw [← hl] at hb
  have cd : Chan (detT t) t.length t.length 1 := det_chan (by omega) (by omega) hb
  have vd := chan_validB cd
  have ht := cc.t2
  have e := merge_casc cc hl
  have hz : limG 1 (totG c * totG (detT t)) = 0 := by
    rw [cd.tot, Int.mul_one]
    exact limG_neg (by omega) (by omega)
  have hlen : (((c[0]!).length : Nat) : Int) = (((detT t).length : Nat) : Int) := by rw [cd.rows]; omega
  have hw := casc_worth cc cd (by omega)
  rw [e]
  exact ⟨vd, cascR_ok hc vd hlen hz, rfl, chan_validB (casc_chan cc cd (by omega) (by omega)), by have := hw.1; omega⟩

/-- the matrix that was written into, as data -/
theorem OMat.rows {T e lo hi R C : Nat} {w : World} {G : Nat → Nat} {f : Nat → Nat → Int} {curo : Array Value} {go capo L : Nat} (hB : Blk w go curo e) (hst : OStat lo hi R C curo G) (h : OMat T w R C G f R) (hlo : L ≤ lo) (hgo : L ≤ go) (hR : R ≤ 9223372036854775807) (hC : C ≤ 9223372036854775807) :
    RRows L w.heap.size w (.slice (some ⟨go, 0, none⟩) R capo) (tab R C f) := by
  refine ⟨some ⟨go, 0, none⟩, capo, by rw [tab_length], by rw [tab_length]; exact hR, fun i hi => ?_⟩
  rw [tab_length] at hi
  obtain ⟨h1, h2, h3⟩ := hst.1 i hi
  obtain ⟨cur, h4, h5, h6⟩ := h i hi (by omega)
  refine ⟨go, 0, _, rfl, hgo, hB.lt, hB.cell (by rw [Nat.zero_add]; exact h3), ?_⟩
  rw [tab_row _ _ _ _ hi]
  refine ⟨some ⟨G i, 0, none⟩, C, by simp, by simpa using hC, fun j hj => ?_⟩
  have hj' : j < C := by simpa using hj
  refine ⟨G i, 0, _, rfl, by omega, h4.lt, h4.cell (by rw [Nat.zero_add]; exact h6 j hj'), ?_⟩
  show _ = _
  rw [get_range_map _ _ _ hj']
end Go.Proofs.Ytodeffidnipelaa
