/- Merged: Qz, Iy1, Iy2, Opd, Qc. -/
import Derived.Test.YtnfljbehcffmcaaGreatM5AbstractExact
import Derived.Test.YtnfljbehcffmcaaGreatM2AbstractExact
import Derived.Deep.Slices
import Derived.Lib.SmallJoins
set_option linter.unusedSectionVars false
set_option linter.unusedVariables false
set_option linter.unusedSimpArgs false
noncomputable section
namespace Go.Proofs.YtnfljbehcffmcaaGreat
open Go Go.Iv
open Go.IntKind (i64)
def boxV (inp : Inputs) : List Num := (inp.fSecret ++ inp.fRandom).map sg
structure Fit1 (f : Flat) (inp : Inputs) : Prop where
  c : chk f = 0
  ok : ChkOk f
  n : nSs f.fBody + nTs (f.fHatches.map (·.fTerm)) ≤ 80
  h : f.fHatches.length ≤ 10
  v : f.fVars.length ≤ 10
  st : StartOk f.fVars inp
theorem Fit1.len {f : Flat} {inp : Inputs} (h : Fit1 f inp) : inp.fSecret.length ≤ 10 ∧ inp.fPublic.length ≤ 10 ∧ inp.fRandom.length ≤ 10 := by
 have := h.st.s
 have := h.st.p
 have := h.st.r
 have := h.v
 have := cnt_le f.fVars 1 f.fVars.length
 have := cnt_le f.fVars 2 f.fVars.length
 have := cnt_le f.fVars 3 f.fVars.length
 omega
theorem inval_T {f : Flat} {inp : Inputs} (h : Fit1 f inp) {i : Nat} (hi : i < f.fVars.length) : InT (inval f.fVars inp i) := by
 have h1 := h.st.b i hi
 have h2 := h.ok.vars _ (get_memL hi)
 unfold InT; omega
theorem kind_at {f : Flat} {inp : Inputs} (h : Fit1 f inp) (k : Int) (l : List Int) (hk : (k = 1 ∧ l = inp.fSecret) ∨ (k = 2 ∧ l = inp.fPublic) ∨ (k = 3 ∧ l = inp.fRandom)) {j : Nat} (hj : j < l.length) :
    (f.fVars.filter (kd k)).length = l.length ∧ (f.fVars.filter (kd k))[j]!.fLow ≤ l[j]! ∧ l[j]! ≤ (f.fVars.filter (kd k))[j]!.fHigh ∧ InT l[j]! := by
  have hl : l.length = cnt f.fVars k f.fVars.length := by
    rcases hk with ⟨rfl, rfl⟩ | ⟨rfl, rfl⟩ | ⟨rfl, rfl⟩
    · exact h.st.s
    · exact h.st.p
    · exact h.st.r
  obtain ⟨i, h1, h2, h3, h4⟩ := filt_at f.fVars k f.fVars.length (Nat.le_refl _) j (by omega)
  rw [List.take_length] at h4
  have hb := h.st.b i h1
  have hT := inval_T h h1
  have ev : inval f.fVars inp i = l[j]! := by
    unfold inval
    rw [h2]
    rcases hk with ⟨rfl, rfl⟩ | ⟨rfl, rfl⟩ | ⟨rfl, rfl⟩
    · rw [if_pos rfl, h3]
    · rw [if_neg (by decide), if_pos rfl, h3]
    · rw [if_neg (by decide), if_neg (by decide), if_pos rfl, h3]
  rw [ev] at hb hT
  rw [h4]
  exact ⟨by rw [← cnt_len, hl], hb.1, hb.2, hT⟩
theorem filt_succ {vars : List GVar} {i : Nat} (h : i < vars.length) (k : Int) : (vars.take (i + 1)).filter (kd k) = (vars.take i).filter (kd k) ++ (if vars[i]!.fKind = k then [vars[i]!] else []) := by
  rw [take_succL h, List.filter_append]
  by_cases hk : vars[i]!.fKind = k
  · rw [if_pos hk]; simp only [List.filter_cons, List.filter_nil, kd, hk, decide_true, if_true]
  · rw [if_neg hk]; simp only [List.filter_cons, List.filter_nil, kd, hk, decide_false, Bool.false_eq_true, if_false]
theorem filt_len {vars : List GVar} (k : Int) (i : Nat) : ((vars.take i).filter (kd k)).length ≤ i := cnt_le vars k i
theorem a79_0_eq (f : Flat) (hl : f.fVars.length ≤ 1000000) (v : View) (box : List Num) : a79_0 ⟨box, [], f.fVars, (f.fVars.length : Int), 0, f, v⟩ = some ⟨box, f.fVars.filter (kd 2), f.fVars, (f.fVars.length : Int), (f.fVars.length : Int), f, v⟩ := by
  obtain ⟨b, e1, hI⟩ := loopI (rnd := n79_0) f.fVars.length (fun i (b : List GVar) => ⟨box, b, f.fVars, (f.fVars.length : Int), (i : Int), f, v⟩) (fun i b => b = (f.fVars.take i).filter (kd 2)) (fun i b hi hb => by
    have hw := w1L hi hl
    have i1 : (i : Int) < (f.fVars.length : Int) := by omega
    have i2 : (0 : Int) ≤ (i : Int) := by omega
    have hlen : b.length ≤ i := by rw [hb]; exact filt_len 2 i
    have hl2 : ∀ x : GVar, (b ++ [x]).length ≤ 1073741824 := fun x => by simp; omega
    refine ⟨_, ?_, rfl⟩
    rw [filt_succ hi, ← hb]
    unfold n79_0
    by_cases hk : f.fVars[i]!.fKind = 2
    · simp only [Int.toNat_natCast, i1, i2, hk, hl2, hw, decide_true, cond_true, and_self, if_true]
    · simp only [Int.toNat_natCast, i1, i2, hk, hw, decide_true, decide_false, cond_true, cond_false, and_self, if_true, if_false, List.append_nil]) (fun b _ => by unfold n79_0; simp) (b := []) (by simp)
  rw [List.take_length] at hI
  rw [← hI]
  exact e1
theorem a79_2_eq (f : Flat) (hl : f.fVars.length ≤ 1000000) (v : View) (box : List Num) (t8 acc : List GVar) (ha : acc.length ≤ 1000000) (k : Int) (ks : List Int) (n j : Int) :
    a79_2 ⟨box, t8, acc, k, ks, n, j, f.fVars, (f.fVars.length : Int), 0, f, v⟩ = some ⟨box, t8, acc ++ f.fVars.filter (kd k), k, ks, n, j, f.fVars, (f.fVars.length : Int), (f.fVars.length : Int), f, v⟩ := by
  obtain ⟨b, e1, hI⟩ := loopI (rnd := n79_2) f.fVars.length (fun i (b : List GVar) => ⟨box, t8, acc ++ b, k, ks, n, j, f.fVars, (f.fVars.length : Int), (i : Int), f, v⟩) (fun i b => b = (f.fVars.take i).filter (kd k)) (fun i b hi hb => by
    have hw := w1L hi hl
    have i1 : (i : Int) < (f.fVars.length : Int) := by omega
    have i2 : (0 : Int) ≤ (i : Int) := by omega
    have hlen : b.length ≤ i := by rw [hb]; exact filt_len k i
    have hl2 : ∀ x : GVar, (acc ++ (b ++ [x])).length ≤ 1073741824 := fun x => by simp; omega
    refine ⟨_, ?_, rfl⟩
    rw [filt_succ hi, ← hb]
    unfold n79_2
    by_cases hk : f.fVars[i]!.fKind = k
    · simp only [Int.toNat_natCast, i1, i2, hk, hl2, hw, decide_true, cond_true, and_self, if_true, List.append_assoc]
    · simp only [Int.toNat_natCast, i1, i2, hk, hw, decide_true, decide_false, cond_true, cond_false, and_self, if_true, if_false, List.append_nil]) (fun b _ => by unfold n79_2; simp) (b := []) (by simp)
  rw [List.take_length] at hI
  have e1' : a79_2 ⟨box, t8, acc, k, ks, n, j, f.fVars, (f.fVars.length : Int), 0, f, v⟩ = some ⟨box, t8, acc ++ b, k, ks, n, j, f.fVars, (f.fVars.length : Int), (f.fVars.length : Int), f, v⟩ := by
    have := e1
    rw [List.append_nil] at this
    exact this
  rw [← hI]
  exact e1'
theorem a79_1_eq (f : Flat) (hl : f.fVars.length ≤ 1000) (v : View) (box : List Num) (t8 : List GVar) :
    a79_1 ⟨box, t8, [], [1, 3], 2, 0, f, v⟩ = some ⟨box, t8, f.fVars.filter (kd 1) ++ f.fVars.filter (kd 3), [1, 3], 2, 2, f, v⟩ := by
  have h1 : (f.fVars.filter (kd 1)).length ≤ 1000 := Nat.le_trans (List.length_filter_le _ _) hl
  have e1 := a79_2_eq f (by omega) v box t8 [] (by simp) 1 [1, 3] 2 0
  have e2 := a79_2_eq f (by omega) v box t8 (f.fVars.filter (kd 1)) (by omega) 3 [1, 3] 2 1
  rw [List.nil_append] at e1
  have w1 : i64.wrap ((0 : Int) + 1) = 1 := by decide
  have w2 : i64.wrap ((1 : Int) + 1) = 2 := by decide
  unfold a79_1
  rw [advG_step (p' := ⟨box, t8, f.fVars.filter (kd 1), [1, 3], 2, 1, f, v⟩)]
  · rw [advG_step (p' := ⟨box, t8, f.fVars.filter (kd 1) ++ f.fVars.filter (kd 3), [1, 3], 2, 2, f, v⟩)]
    · exact advG_stop (fun r => by unfold n79_1; simp)
    · unfold n79_1
      dsimp only
      rw [decide_eq_true (by decide), cond_true, if_pos (by decide), if_pos (by decide)]
      rw [show ([1, 3] : List Int)[Int.toNat 1]! = 3 from rfl, e2]
      dsimp only
      rw [decide_eq_false (by omega), cond_false, w2]
  · unfold n79_1
    dsimp only
    rw [decide_eq_true (by decide), cond_true, if_pos (by decide), if_pos (by decide)]
    rw [show ([1, 3] : List Int)[Int.toNat 0]! = 1 from rfl, e1]
    dsimp only
    rw [decide_eq_false (by omega), cond_false, w1]
theorem a79_3_eq {f : Flat} {inp : Inputs} (h : Fit1 f inp) (tm : Bool) (box : List Num) (t9 : List GVar) :
  a79_3 ⟨box, t9, f.fVars.filter (kd 2), ((f.fVars.filter (kd 2)).length : Int), 0, ⟨inp.fPublic, tm⟩⟩ = some ⟨box, t9, f.fVars.filter (kd 2), ((f.fVars.filter (kd 2)).length : Int), ((f.fVars.filter (kd 2)).length : Int), ⟨inp.fPublic, tm⟩⟩ := by
 have hl := h.len.2.1
 have hc : (f.fVars.filter (kd 2)).length = inp.fPublic.length := by rw [← cnt_len, h.st.p]
 have K := fun (j : Nat) (hj : j < inp.fPublic.length) => kind_at h 2 inp.fPublic (.inr (.inl ⟨rfl, rfl⟩)) hj
 generalize f.fVars.filter (kd 2) = L at hc K
 obtain ⟨b, e1, _⟩ := loopI (rnd := n79_3) L.length (fun i (_ : Unit) => ⟨box, t9, L, (L.length : Int), (i : Int), ⟨inp.fPublic, tm⟩⟩) (fun _ _ => True) (fun i b hi _ => by
  have hw := w1L hi (by omega)
  have i1 : (i : Int) < (L.length : Int) := by omega
  have i2 : (0 : Int) ≤ (i : Int) := by omega
  have i3 : (i : Int) < (inp.fPublic.length : Int) := by omega
  obtain ⟨_, q1, q2, _⟩ := K i (by omega)
  refine ⟨(), ?_, trivial⟩
  unfold n79_3
  simp only [Int.toNat_natCast, i1, i2, i3, hi, hw, decide_true, cond_true, and_self, if_true, show ¬ inp.fPublic[i]! < L[i]!.fLow by omega, show ¬ L[i]!.fHigh < inp.fPublic[i]! by omega, decide_false, cond_false]) (fun b _ => by unfold n79_3; simp) (b := ()) trivial
 exact e1
theorem box_at {f : Flat} {inp : Inputs} (h : Fit1 f inp) {j : Nat} (hj : j < (boxV inp).length) : ∃ x : Int, (boxV inp)[j]! = sg x ∧ InT x ∧ (f.fVars.filter (kd 1) ++ f.fVars.filter (kd 3))[j]!.fLow ≤ x ∧ x ≤ (f.fVars.filter (kd 1) ++ f.fVars.filter (kd 3))[j]!.fHigh := by
  have hc1 : (f.fVars.filter (kd 1)).length = inp.fSecret.length := by rw [← cnt_len, h.st.s]
  have hc3 : (f.fVars.filter (kd 3)).length = inp.fRandom.length := by rw [← cnt_len, h.st.r]
  have hlen : (boxV inp).length = inp.fSecret.length + inp.fRandom.length := by simp [boxV]
  have hx : (boxV inp)[j]! = sg (inp.fSecret ++ inp.fRandom)[j]! := map_sg (by simp; omega)
  refine ⟨_, hx, ?_⟩
  by_cases hjs : j < inp.fSecret.length
  · obtain ⟨_, q1, q2, q3⟩ := kind_at h 1 inp.fSecret (.inl ⟨rfl, rfl⟩) hjs
    have e1 : (inp.fSecret ++ inp.fRandom)[j]! = inp.fSecret[j]! := by
      rw [getElem!_pos _ j (by simp; omega), getElem!_pos _ j hjs, List.getElem_append_left hjs]
    have e2 : (f.fVars.filter (kd 1) ++ f.fVars.filter (kd 3))[j]! = (f.fVars.filter (kd 1))[j]! := by
      rw [getElem!_pos _ j (by rw [List.length_append]; omega), getElem!_pos _ j (by omega), List.getElem_append_left (by omega)]
    rw [e1, e2]
    exact ⟨q3, q1, q2⟩
  · have hjr : j - inp.fSecret.length < inp.fRandom.length := by omega
    obtain ⟨_, q1, q2, q3⟩ := kind_at h 3 inp.fRandom (.inr (.inr ⟨rfl, rfl⟩)) hjr
    have e1 : (inp.fSecret ++ inp.fRandom)[j]! = inp.fRandom[j - inp.fSecret.length]! := by
      rw [getElem!_pos _ j (by simp; omega), getElem!_pos inp.fRandom (j - inp.fSecret.length) hjr, List.getElem_append_right (by omega)]
    have e2 : (f.fVars.filter (kd 1) ++ f.fVars.filter (kd 3))[j]! = (f.fVars.filter (kd 3))[j - inp.fSecret.length]! := by
      rw [getElem!_pos _ j (by rw [List.length_append]; omega), getElem!_pos (f.fVars.filter (kd 3)) (j - inp.fSecret.length) (by omega), List.getElem_append_right (by omega)]
      congr 1
      omega
    rw [e1, e2]
    exact ⟨q3, q1, q2⟩
theorem a79_4_eq {f : Flat} {inp : Inputs} (h : Fit1 f inp) :
  a79_4 ⟨boxV inp, f.fVars.filter (kd 1) ++ f.fVars.filter (kd 3), ((f.fVars.filter (kd 1) ++ f.fVars.filter (kd 3)).length : Int), 0⟩ = some ⟨boxV inp, f.fVars.filter (kd 1) ++ f.fVars.filter (kd 3), ((f.fVars.filter (kd 1) ++ f.fVars.filter (kd 3)).length : Int), ((f.fVars.filter (kd 1) ++ f.fVars.filter (kd 3)).length : Int)⟩ := by
 have hl := h.len
 have hc1 : (f.fVars.filter (kd 1)).length = inp.fSecret.length := by rw [← cnt_len, h.st.s]
 have hc3 : (f.fVars.filter (kd 3)).length = inp.fRandom.length := by rw [← cnt_len, h.st.r]
 have hb : (boxV inp).length = (f.fVars.filter (kd 1) ++ f.fVars.filter (kd 3)).length := by rw [List.length_append, hc1, hc3]; simp [boxV]
 have hL : (f.fVars.filter (kd 1) ++ f.fVars.filter (kd 3)).length ≤ 100 := by rw [List.length_append]; omega
 have K := fun (j : Nat) (hj : j < (boxV inp).length) => box_at h hj
 generalize f.fVars.filter (kd 1) ++ f.fVars.filter (kd 3) = L at hb hL K
 generalize boxV inp = B at hb K
 obtain ⟨b, e1, _⟩ := loopI (rnd := n79_4) L.length (fun i (_ : Unit) => ⟨B, L, (L.length : Int), (i : Int)⟩) (fun _ _ => True) (fun i b hi _ => by
  have hw := w1L hi (by omega)
  have i1 : (i : Int) < (L.length : Int) := by omega
  have i2 : (0 : Int) ≤ (i : Int) := by omega
  have i3 : (i : Int) < (B.length : Int) := by omega
  obtain ⟨x, hx, hT, q1, q2⟩ := K i (by omega)
  refine ⟨(), ?_, trivial⟩
  unfold n79_4
  simp only [Int.toNat_natCast, i1, i2, i3, hi, hw, decide_true, cond_true, and_self, if_true, hx, m144_sg hT.m, m91_sg hT.m, show ¬ x < L[i]!.fLow by omega, show ¬ L[i]!.fHigh < x by omega, decide_false, cond_false, Int.reduceEq]) (fun b _ => by unfold n79_4; simp) (b := ()) trivial
 exact e1
theorem m79_eq {f : Flat} {inp : Inputs} (h : Fit1 f inp) (tm : Bool) : m79 f ⟨inp.fPublic, tm⟩ (boxV inp) = some 0 := by
 have hv := h.v
 have hc1 : (f.fVars.filter (kd 1)).length = inp.fSecret.length := by rw [← cnt_len, h.st.s]
 have hc2 : (f.fVars.filter (kd 2)).length = inp.fPublic.length := by rw [← cnt_len, h.st.p]
 have hc3 : (f.fVars.filter (kd 3)).length = inp.fRandom.length := by rw [← cnt_len, h.st.r]
 have hb : (boxV inp).length = (f.fVars.filter (kd 1) ++ f.fVars.filter (kd 3)).length := by rw [List.length_append, hc1, hc3]; simp [boxV]
 unfold m79
 rw [m136_eq f (by have := h.n; omega) (by have := h.h; omega) (by omega), h.c]
 simp only [decide_true, cond_true, cond_false]
 rw [a79_0_eq f (by omega)]
 dsimp only
 rw [decide_eq_false (by omega), cond_false]
 rw [a79_1_eq f (by omega)]
 dsimp only
 rw [decide_eq_false (by omega), cond_false, decide_eq_true (show (inp.fPublic.length : Int) = ((f.fVars.filter (kd 2)).length : Int) by omega), cond_true, cond_false, a79_3_eq h tm]
 dsimp only
 rw [decide_eq_false (by omega), cond_false, decide_eq_true (show ((boxV inp).length : Int) = ((f.fVars.filter (kd 1) ++ f.fVars.filter (kd 3)).length : Int) by omega), cond_true, cond_false, a79_4_eq h]
 dsimp only
 rw [decide_eq_false (by omega), cond_false]
abbrev A0 : Abstract := ⟨⟨0, 0, 0⟩, [], ⟨0, 0, 0⟩, []⟩
theorem a20_0_eq {f : Flat} (hl : f.fVars.length ≤ 1000) (box : List Num) (v : View) (g : GState2) : a20_0 ⟨box, 0, 0, 0, f.fVars, (f.fVars.length : Int), 0, f, v, A0, ⟨[], g.fCount, [], g.fTime⟩⟩ =
    some ⟨box, 0, 0, (cnt f.fVars 1 f.fVars.length : Int), f.fVars, (f.fVars.length : Int), (f.fVars.length : Int), f, v, A0, ⟨[], g.fCount, [], g.fTime⟩⟩ := by
  obtain ⟨b, e1, _⟩ := loopI (rnd := n20_0) f.fVars.length (fun i (_ : Unit) => ⟨box, 0, 0, (cnt f.fVars 1 i : Int), f.fVars, (f.fVars.length : Int), (i : Int), f, v, A0, ⟨[], g.fCount, [], g.fTime⟩⟩) (fun _ _ => True) (fun i b hi _ => by
    have hw := w1L hi (by omega)
    have i1 : (i : Int) < (f.fVars.length : Int) := by omega
    have i2 : (0 : Int) ≤ (i : Int) := by omega
    have c1 := cnt_succ hi 1
    have l1 := cnt_le f.fVars 1 i
    have w1 : i64.wrap ((cnt f.fVars 1 i : Int) + 1) = ((cnt f.fVars 1 i + 1 : Nat) : Int) := by rw [wrap_id (by omega) (by omega)]; omega
    refine ⟨(), ?_, trivial⟩
    unfold n20_0
    rw [c1]
    by_cases hk : f.fVars[i]!.fKind = 1
    · simp only [Int.toNat_natCast, i1, i2, hk, hw, w1, decide_true, cond_true, and_self, if_true]
    · simp only [Int.toNat_natCast, i1, i2, hk, hw, decide_true, decide_false, cond_true, cond_false, and_self, if_true, if_false, Nat.add_zero]) (fun b _ => by unfold n20_0; simp) (b := ()) trivial
  exact e1
theorem box_s {inp : Inputs} {j : Nat} (h : j < inp.fSecret.length) : (boxV inp)[j]! = sg inp.fSecret[j]! := by
 unfold boxV
 rw [map_sg (by simp; omega), getElem!_pos _ j (by simp; omega), getElem!_pos inp.fSecret j h, List.getElem_append_left h]
theorem box_r {inp : Inputs} {j : Nat} (h : j < inp.fRandom.length) : (boxV inp)[inp.fSecret.length + j]! = sg inp.fRandom[j]! := by
 unfold boxV
 rw [map_sg (by simp; omega), getElem!_pos _ _ (by simp; omega), getElem!_pos inp.fRandom j h, List.getElem_append_right (by omega)]
 congr 2
 omega
theorem a20_1_eq {f : Flat} {inp : Inputs} (h : Fit1 f inp) (tm : Bool) (g : GState2) : a20_1 ⟨boxV inp, 0, 0, (cnt f.fVars 1 f.fVars.length : Int), f.fVars, (f.fVars.length : Int), 0, f, ⟨inp.fPublic, tm⟩, A0, ⟨[], g.fCount, [], g.fTime⟩⟩ =
    some ⟨boxV inp, (cnt f.fVars 1 f.fVars.length : Int), (cnt f.fVars 2 f.fVars.length : Int), ((cnt f.fVars 1 f.fVars.length + cnt f.fVars 3 f.fVars.length : Nat) : Int), f.fVars, (f.fVars.length : Int), (f.fVars.length : Int), f, ⟨inp.fPublic, tm⟩, A0, ⟨(invals f.fVars inp).map sg, g.fCount, [], g.fTime⟩⟩ := by
  have hlv := h.v
  obtain ⟨b, e1, hI⟩ := loopI (rnd := n20_1) f.fVars.length (fun i (b : List Int) => ⟨boxV inp, (cnt f.fVars 1 i : Int), (cnt f.fVars 2 i : Int), ((cnt f.fVars 1 f.fVars.length + cnt f.fVars 3 i : Nat) : Int), f.fVars, (f.fVars.length : Int), (i : Int), f, ⟨inp.fPublic, tm⟩, A0, ⟨b.map sg, g.fCount, [], g.fTime⟩⟩) (fun i b => b = (List.range i).map (inval f.fVars inp)) (fun i b hi hb => by
    have hw := w1L hi (by omega)
    have i1 : (i : Int) < (f.fVars.length : Int) := by omega
    have i2 : (0 : Int) ≤ (i : Int) := by omega
    have c1 := cnt_succ hi 1
    have c2 := cnt_succ hi 2
    have c3 := cnt_succ hi 3
    have m1 := cnt_mono (vars := f.fVars) (k := 1) (show i + 1 ≤ f.fVars.length by omega) (Nat.le_refl _)
    have m2 := cnt_mono (vars := f.fVars) (k := 2) (show i + 1 ≤ f.fVars.length by omega) (Nat.le_refl _)
    have m3 := cnt_mono (vars := f.fVars) (k := 3) (show i + 1 ≤ f.fVars.length by omega) (Nat.le_refl _)
    have l1 := cnt_le f.fVars 1 f.fVars.length
    have l2 := cnt_le f.fVars 2 f.fVars.length
    have l3 := cnt_le f.fVars 3 f.fVars.length
    have s1 := h.st.s
    have s2 := h.st.p
    have s3 := h.st.r
    have hbl : b.length = i := by rw [hb]; simp
    have hl2 : ∀ x : Num, (b.map sg ++ [x]).length ≤ 1073741824 := fun x => by simp; omega
    have hl3 : ∀ x : Int, ((b ++ [x]).map sg).length ≤ 1073741824 := fun x => by simp; omega
    have hmap : ∀ x : Int, b.map sg ++ [sg x] = (b ++ [x]).map sg := fun x => by simp
    refine ⟨b ++ [inval f.fVars inp i], ?_, by rw [range_snoc, hb]⟩
    have hbx : (boxV inp).length = inp.fSecret.length + inp.fRandom.length := by simp [boxV]
    unfold n20_1
    dsimp only
    rw [c1, c2, c3]
    by_cases k1 : f.fVars[i]!.fKind = 1
    · have ev : inval f.fVars inp i = inp.fSecret[cnt f.fVars 1 i]! := by unfold inval; rw [if_pos k1]
      rw [k1] at c1 c2 c3 ⊢
      simp only [Int.reduceEq, if_true, if_false, Nat.add_zero] at c1 c2 c3 ⊢
      have w1 : i64.wrap ((cnt f.fVars 1 i : Int) + 1) = ((cnt f.fVars 1 i + 1 : Nat) : Int) := by rw [wrap_id (by omega) (by omega)]; omega
      have j1 : (cnt f.fVars 1 i : Int) < ((boxV inp).length : Int) := by omega
      have j2 : (0 : Int) ≤ (cnt f.fVars 1 i : Int) := by omega
      have jb := box_s (inp := inp) (j := cnt f.fVars 1 i) (by omega)
      simp only [Int.toNat_natCast, i1, i2, j1, j2, decide_true, cond_true, and_self, if_true, k1, jb, hl3, hw, w1, hmap, ← ev]
    by_cases k2 : f.fVars[i]!.fKind = 2
    · have ev : inval f.fVars inp i = inp.fPublic[cnt f.fVars 2 i]! := by unfold inval; rw [if_neg k1, if_pos k2]
      rw [k2] at c1 c2 c3 ⊢
      simp only [Int.reduceEq, if_true, if_false, Nat.add_zero] at c1 c2 c3 ⊢
      have w1 : i64.wrap ((cnt f.fVars 2 i : Int) + 1) = ((cnt f.fVars 2 i + 1 : Nat) : Int) := by rw [wrap_id (by omega) (by omega)]; omega
      have j1 : (cnt f.fVars 2 i : Int) < (inp.fPublic.length : Int) := by omega
      have j2 : (0 : Int) ≤ (cnt f.fVars 2 i : Int) := by omega
      simp only [Int.toNat_natCast, i1, i2, j1, j2, k2, Int.reduceEq, decide_true, decide_false, cond_true, cond_false, and_self, if_true, hl3, hw, w1, m80_eq, hmap, ← ev]
    by_cases k3 : f.fVars[i]!.fKind = 3
    · have ev : inval f.fVars inp i = inp.fRandom[cnt f.fVars 3 i]! := by unfold inval; rw [if_neg k1, if_neg k2, if_pos k3]
      rw [k3] at c1 c2 c3 ⊢
      simp only [Int.reduceEq, if_true, if_false, Nat.add_zero] at c1 c2 c3 ⊢
      have w1 : i64.wrap (((cnt f.fVars 1 f.fVars.length + cnt f.fVars 3 i : Nat) : Int) + 1) = ((cnt f.fVars 1 f.fVars.length + (cnt f.fVars 3 i + 1) : Nat) : Int) := by rw [wrap_id (by omega) (by omega)]; omega
      have j1 : ((cnt f.fVars 1 f.fVars.length + cnt f.fVars 3 i : Nat) : Int) < ((boxV inp).length : Int) := by omega
      have j2 : (0 : Int) ≤ ((cnt f.fVars 1 f.fVars.length + cnt f.fVars 3 i : Nat) : Int) := by omega
      have jb := box_r (inp := inp) (j := cnt f.fVars 3 i) (by omega)
      rw [s1] at jb
      simp only [Int.toNat_natCast, i1, i2, j1, j2, k3, Int.reduceEq, decide_true, decide_false, cond_true, cond_false, and_self, if_true, jb, hl3, hw, w1, hmap, ← ev]
    · have ev : inval f.fVars inp i = f.fVars[i]!.fInit := by unfold inval; rw [if_neg k1, if_neg k2, if_neg k3]
      rw [if_neg k1, if_neg k2, if_neg k3]
      simp only [Int.toNat_natCast, i1, i2, k1, k2, k3, decide_true, decide_false, cond_true, cond_false, and_self, if_true, hl3, hw, m80_eq, hmap, ← ev, Nat.add_zero]) (fun b _ => by unfold n20_1; simp) (b := []) (by simp)
  have hI' : b = invals f.fVars inp := hI
  rw [← hI']
  exact e1
theorem a20_2_eq {f : Flat} {inp : Inputs} (h : Fit1 f inp) (v : View) : a20_2 ⟨f.fHatches, (f.fHatches.length : Int), 0, f, v, A0, ⟨(invals f.fVars inp).map sg, sg 0, [], sg 0⟩, ⟨f, []⟩⟩ =
  some ⟨f.fHatches, (f.fHatches.length : Int), (f.fHatches.length : Int), f, v, A0, ⟨(invals f.fVars inp).map sg, sg 0, [], sg 0⟩, ⟨f, (hatV f (invals f.fVars inp)).map sg⟩⟩ := by
 have hlh := h.h
 have hV := invals_in h.st
 obtain ⟨b, e1, hI⟩ := loopI (rnd := n20_2) f.fHatches.length (fun i (b : List Int) => ⟨f.fHatches, (f.fHatches.length : Int), (i : Int), f, v, A0, ⟨(invals f.fVars inp).map sg, sg 0, [], sg 0⟩, ⟨f, b.map sg⟩⟩) (fun i b => b = (f.fHatches.take i).map fun h => heldI (valT (invals f.fVars inp) h.fTerm) h.fLow h.fHigh) (fun i b hi hb => by
  have hw := w1L hi (by omega)
  have i1 : (i : Int) < (f.fHatches.length : Int) := by omega
  have i2 : (0 : Int) ≤ (i : Int) := by omega
  obtain ⟨q1, q2⟩ := h.ok.hat i hi
  have ev := m82_eq h.ok.vars hV true (st := ⟨(invals f.fVars inp).map sg, sg 0, [], sg 0⟩) rfl f.fHatches[i]!.fTerm q2
  obtain ⟨_, b1, b2⟩ := r181_eq h.ok.vars hV true f.fHatches[i]!.fTerm q2
  have hcl := m81_sg (x := valT (invals f.fVars inp) f.fHatches[i]!.fTerm) (lo := f.fHatches[i]!.fLow) (hi := f.fHatches[i]!.fHigh) (by unfold InM; omega) (by unfold InM; omega) (by unfold InM; omega) q1.2.1
  have hbl : b.length ≤ 1000 := by rw [hb]; simp; omega
  have hl2 : ∀ x : Num, (b.map sg ++ [x]).length ≤ 1073741824 := fun x => by simp; omega
  refine ⟨b ++ [heldI (valT (invals f.fVars inp) f.fHatches[i]!.fTerm) f.fHatches[i]!.fLow f.fHatches[i]!.fHigh], ?_, by rw [take_succL hi, List.map_append, hb]; rfl⟩
  unfold n20_2
  simp only [Int.toNat_natCast, i1, i2, decide_true, cond_true, and_self, if_true, GTerm.eta, ev, hcl, hl2, hw, List.map_append, List.map_cons, List.map_nil]) (fun b _ => by unfold n20_2; simp) (b := []) (by simp)
 rw [List.take_length] at hI
 have hI' : b = hatV f (invals f.fVars inp) := hI
 rw [← hI']
 exact e1
theorem hat_T {f : Flat} {inp : Inputs} (h : Fit1 f inp) : ∀ x ∈ hatV f (invals f.fVars inp), InT x := fun x hx => by
 unfold hatV at hx
 obtain ⟨hh, h1, rfl⟩ := List.mem_map.1 hx
 obtain ⟨i, hi, e⟩ := List.mem_iff_getElem.1 h1
 obtain ⟨q1, _⟩ := h.ok.hat i hi
 rw [getElem!_pos f.fHatches i hi, e] at q1
 have := heldI_in (n := valT (invals f.fVars inp) hh.fTerm) q1.2.1
 unfold InT; omega
def seenT (tm : Bool) (t : Int) : Int := if tm = true then t else 0
def absR (tm : Bool) (s : CS) : Abstract := ⟨sg s.outs.length, s.outs.map sg, sg (seenT tm s.time), s.vals.map sg⟩
theorem m20_eq {f : Flat} {inp : Inputs} (h : Fit1 f inp) (tm : Bool) : m20 f ⟨inp.fPublic, tm⟩ (boxV inp) = some (absR tm (endC f inp), 0) := by
 have hv := h.v
 have hh := h.h
 have e0 := a20_0_eq (f := f) (by omega) (boxV inp) ⟨inp.fPublic, tm⟩ ⟨[], sg 0, [], sg 0⟩
 have e1 := a20_1_eq h tm ⟨[], sg 0, [], sg 0⟩
 have e2 := a20_2_eq h ⟨inp.fPublic, tm⟩
 have e3 : r83 ⟨f, (hatV f (invals f.fVars inp)).map sg⟩ f.fBody (absS ⟨invals f.fVars inp, [], 0⟩) = some (absS (endC f inp)) :=
  lim_eq (2 * SizeOf.sizeOf f.fBody + 1) fun n hn => (m83_eq (r := ⟨f, (hatV f (invals f.fVars inp)).map sg⟩) h.ok.vars (by show f.fVars.length ≤ 1000000; omega) (hs := hatV f (invals f.fVars inp)) (by simp [hatV]) rfl (hat_T h) n).1 true f.fBody _ (by omega) (by have := h.n; omega) (bud0 h.ok h.st)
 unfold m20
 rw [m79_eq h tm]
 simp only [decide_true, cond_true, cond_false, m80_eq]
 dsimp only [A0] at e0 e1 e2
 rw [e0]
 dsimp only
 rw [decide_eq_false (by omega), cond_false, e1]
 dsimp only
 rw [decide_eq_false (by omega), cond_false, e2]
 dsimp only
 rw [decide_eq_false (by omega), cond_false]
 rw [show GState2.mk ((invals f.fVars inp).map sg) (sg 0) [] (sg 0) = absS ⟨invals f.fVars inp, [], 0⟩ from rfl, e3]
 dsimp only
 cases tm <;> rfl
theorem end_bd {f : Flat} {inp : Inputs} (h : Fit1 f inp) : (0 ≤ (endC f inp).time ∧ (endC f inp).time ≤ 134217728) ∧ ((endC f inp).outs.length : Int) ≤ 8 ∧ VIn f.fVars (endC f inp).vals := by
 have hb := (bud0 h.ok h.st).run (hs := hatV f (invals f.fVars inp)) h.ok.vars
 have e : uSs [] = (0, 0, 0) := by rw [uSs]
 have ht := hb.t
 have ho := hb.o
 have h0 := hb.t0
 have hv := hb.vals
 rw [e] at ht ho
 dsimp only at ht ho
 exact ⟨⟨h0, by show (runC _ _ _ _).time ≤ _; omega⟩, by show ((runC _ _ _ _).outs.length : Int) ≤ _; omega, hv⟩
theorem seen_M {tm : Bool} {t : Int} (h : 0 ≤ t ∧ t ≤ 134217728) : InM (seenT tm t) := by unfold seenT InM; split <;> omega
theorem m26_eq {f : Flat} {inp : Inputs} (h : Fit1 f inp) (ho : ∀ x ∈ (endC f inp).outs, InM x) (tm : Bool) : m26 f ⟨inp.fPublic, tm⟩ (boxV inp) = some (⟨(endC f inp).outs, seenT tm (endC f inp).time⟩, true, 0) := by
 obtain ⟨b1, b2, _⟩ := end_bd h
 have e20 := m20_eq h tm
 generalize endC f inp = s at *
 have hM := seen_M (tm := tm) b1
 obtain ⟨b, e1, hI⟩ := loopI (rnd := n26_0) s.outs.length (fun i (b : List Int) => ⟨true, s.outs.map sg, (s.outs.length : Int), (i : Int), ⟨[], 0⟩, ⟨b, seenT tm s.time⟩⟩) (fun i b => b = s.outs.take i) (fun i b hi hb => by
  have hw := w1L hi (by omega)
  have i1 : (i : Int) < (s.outs.length : Int) := by omega
  have i2 : (0 : Int) ≤ (i : Int) := by omega
  have hm := map_sg hi
  have h1 := m91_sg (ho _ (get_memL hi))
  have hbl : b.length ≤ 1000 := by rw [hb]; simp; omega
  have hl2 : ∀ x : Int, (b ++ [x]).length ≤ 1073741824 := fun x => by simp; omega
  refine ⟨b ++ [s.outs[i]!], ?_, by rw [take_succL hi, hb]⟩
  unfold n26_0
  simp only [Int.toNat_natCast, List.length_map, i1, i2, decide_true, cond_true, and_self, if_true, hm, h1, hl2, hw]) (fun b _ => by unfold n26_0; simp) (b := []) (by simp)
 rw [List.take_length] at hI
 have e1' : a26_0 ⟨true, s.outs.map sg, (s.outs.length : Int), 0, ⟨[], 0⟩, ⟨[], seenT tm s.time⟩⟩ = some ⟨true, s.outs.map sg, (s.outs.length : Int), (s.outs.length : Int), ⟨[], 0⟩, ⟨b, seenT tm s.time⟩⟩ := e1
 unfold m26
 rw [e20]
 simp only [decide_true, cond_true, cond_false, absR, m91_sg (x := (s.outs.length : Int)) (by unfold InM; omega), m91_sg hM, List.length_map, e1', Int.lt_irrefl, decide_false, hI]
theorem m93_one : m93 1 1 = some 1 := by unfold m93; decide
theorem m25_eq {f : Flat} {inp : Inputs} (h : Fit1 f inp) (ho : ∀ x ∈ (endC f inp).outs, InM x) (tm : Bool) : m25 f ⟨inp.fPublic, tm⟩ (boxV inp) = some (1, 0) := by
  obtain ⟨b1, b2, _⟩ := end_bd h
  have e20 := m20_eq h tm
  have K := fun (j : Nat) (hj : j < (boxV inp).length) => box_at h hj
  have hlen := h.len
  have hbl : (boxV inp).length ≤ 100 := by simp [boxV]; omega
  generalize endC f inp = s at *
  generalize hB : boxV inp = B at *
  have hM := seen_M (tm := tm) b1
  have hL : InM (s.outs.length : Int) := by unfold InM; omega
  have wl : i64.wrap ((s.outs.length : Int) + 1) = ((s.outs.length + 1 : Nat) : Int) := by rw [wrap_id (by omega) (by omega)]; omega
  obtain ⟨b, e1, hI⟩ := loopI (rnd := n25_0) (s.outs.length + 1) (fun i (b : Int) => ⟨B, b, 1, ((s.outs.length + 1 : Nat) : Int), (i : Int), absR tm s⟩) (fun i b => b = if i ≤ s.outs.length then 0 else 1) (fun i b hi hb => by
    have hw : i64.wrap ((i : Int) + 1) = ((i + 1 : Nat) : Int) := by rw [wrap_id (by omega) (by omega)]; omega
    have i1 : (i : Int) < ((s.outs.length + 1 : Nat) : Int) := by omega
    have i2 : (0 : Int) ≤ (i : Int) := by omega
    rw [if_pos (by omega)] at hb
    subst hb
    have hlm : ((absR tm s).fSlots.length : Int) = (s.outs.length : Int) := by simp [absR]
    by_cases hc : i = s.outs.length
    · refine ⟨1, ?_, by rw [if_neg (by omega)]⟩
      have e92 : m92 (absR tm s).fCount (i : Int) = some true := by show m92 (sg _) _ = _; rw [m92_sg hL, decide_eq_true (by omega)]
      unfold n25_0
      simp only [i1, decide_true, cond_true, e92, hlm, show ¬ (i : Int) < (s.outs.length : Int) by omega, decide_false, cond_false, hw]
      rfl
    · refine ⟨0, ?_, by rw [if_pos (by omega)]⟩
      have e92 : m92 (absR tm s).fCount (i : Int) = some false := by show m92 (sg _) _ = _; rw [m92_sg hL, decide_eq_false (by omega)]
      have hi' : i < s.outs.length := by omega
      have hm : (absR tm s).fSlots[i]! = sg s.outs[i]! := map_sg hi'
      have h1 := m91_sg (ho _ (get_memL hi'))
      unfold n25_0
      simp only [Int.toNat_natCast, i1, i2, decide_true, cond_true, cond_false, e92, hlm, show (i : Int) < (s.outs.length : Int) by omega, and_self, if_true, hm, h1, m93_one, hw]) (fun b _ => by unfold n25_0; simp) (b := 0) (by simp)
  rw [if_neg (by omega)] at hI
  subst hI
  have e1' : a25_0 ⟨B, 0, 1, ((s.outs.length + 1 : Nat) : Int), 0, absR tm s⟩ = some ⟨B, 1, 1, ((s.outs.length + 1 : Nat) : Int), ((s.outs.length + 1 : Nat) : Int), absR tm s⟩ := e1
  obtain ⟨_, e2, _⟩ := loopI (rnd := n25_1) B.length (fun i (_ : Unit) => ⟨1, 1, B, (B.length : Int), (i : Int)⟩) (fun _ _ => True) (fun i b hi _ => by
    have hw := w1L hi (by omega)
    have i1 : (i : Int) < (B.length : Int) := by omega
    have i2 : (0 : Int) ≤ (i : Int) := by omega
    obtain ⟨x, hx, hT, _, _⟩ := K i hi
    refine ⟨(), ?_, trivial⟩
    unfold n25_1
    simp only [Int.toNat_natCast, i1, i2, decide_true, cond_true, and_self, if_true, hx, m91_sg hT.m, m93_one, hw]) (fun b _ => by unfold n25_1; simp) (b := ()) trivial
  have e2' : a25_1 ⟨1, 1, B, (B.length : Int), 0⟩ = some ⟨1, 1, B, (B.length : Int), (B.length : Int)⟩ := e2
  have h91 : m91 (absR tm s).fTime = some 1 := m91_sg hM
  have hlm : ((absR tm s).fSlots.length : Int) = (s.outs.length : Int) := by simp [absR]
  unfold m25
  rw [e20]
  simp only [decide_true, cond_true, cond_false, h91, hlm, wl, e1', Int.lt_irrefl, decide_false, e2', if_false]
theorem a5_0_eq (tm : Bool) (l : List Int) (hl : l.length ≤ 1000) (f : Flat) (inp : Inputs) (g : GState) : a5_0 ⟨tm, [], l, (l.length : Int), 0, f, inp, g⟩ = some ⟨tm, l.map sg, l, (l.length : Int), (l.length : Int), f, inp, g⟩ := by
 obtain ⟨b, e1, hI⟩ := loopI (rnd := n5_0) l.length (fun i (b : List Num) => ⟨tm, b, l, (l.length : Int), (i : Int), f, inp, g⟩) (fun i b => b = (l.take i).map sg) (fun i b hi hb => by
  have hw := w1L hi (by omega)
  have i1 : (i : Int) < (l.length : Int) := by omega
  have i2 : (0 : Int) ≤ (i : Int) := by omega
  have hbl : b.length ≤ 1000 := by rw [hb]; simp; omega
  have hl2 : ∀ x : Num, (b ++ [x]).length ≤ 1073741824 := fun x => by simp; omega
  refine ⟨b ++ [sg l[i]!], ?_, by rw [take_succL hi, List.map_append, hb]; rfl⟩
  unfold n5_0
  simp only [Int.toNat_natCast, i1, i2, hi, decide_true, cond_true, and_self, if_true, show ∀ x, m36 x = sg x from fun _ => rfl, hl2, hw]) (fun b _ => by unfold n5_0; simp) (b := []) (by simp)
 rw [List.take_length] at hI
 rw [← hI]
 exact e1
theorem a5_1_eq (tm : Bool) (l : List Int) (hl : l.length ≤ 1000) (g : GState) (o : Observation) (a : Abstract) (ha : a.fFinal = l.map sg) : a5_1 ⟨tm, l, (l.length : Int), 0, g, o, a⟩ = some ⟨tm, l, (l.length : Int), (l.length : Int), g, o, a⟩ := by
 obtain ⟨b, e1, hI⟩ := loopI (rnd := n5_1) l.length (fun i (_ : Unit) => ⟨tm, l, (l.length : Int), (i : Int), g, o, a⟩) (fun i b => True) (fun i b hi hb => by
  have hw := w1L hi (by omega)
  have i1 : (i : Int) < (l.length : Int) := by omega
  have i2 : (0 : Int) ≤ (i : Int) := by omega
  refine ⟨(), ?_, trivial⟩
  unfold n5_1
  simp only [Int.toNat_natCast, i1, i2, decide_true, cond_true, and_self, if_true, ha, List.length_map, map_sg hi, show ∀ x, m36 x = sg x from fun _ => rfl, cond_false, hw]) (fun b _ => by unfold n5_1; simp) (b := ()) trivial
 exact e1
theorem m98_same (l : List Int) (hl : l.length ≤ 1000) : m98 l l = some true := by
 obtain ⟨b, e1, hI⟩ := loopI (rnd := n98_0) l.length (fun i (_ : Unit) => ⟨l, l, (i : Int)⟩) (fun i b => True) (fun i b hi hb => by
  have hw := w1L hi (by omega)
  have i1 : (i : Int) < (l.length : Int) := by omega
  have i2 : (0 : Int) ≤ (i : Int) := by omega
  refine ⟨(), ?_, trivial⟩
  unfold n98_0
  simp only [Int.toNat_natCast, i1, i2, decide_true, cond_true, cond_false, and_self, if_true, hw]) (fun b _ => by unfold n98_0; simp) (b := ()) trivial
 have e1' : a98_0 ⟨l, l, 0⟩ = some ⟨l, l, (l.length : Int)⟩ := e1
 unfold m98
 simp only [decide_true, cond_true, cond_false, e1', Int.lt_irrefl, decide_false]
theorem rnd_outs {f : Flat} (hv : VarsOk f.fVars) {hs : List Int} {x : GStep} (hB : ∀ s : CS, Bud f false x.fThen s → (∀ y ∈ s.outs, InT y) → ∀ y ∈ (runC f hs x.fThen s).outs, InT y) : ∀ (k : Nat) (s : CS), BudL f x k s → (∀ y ∈ s.outs, InT y) → ∀ y ∈ (rndC (runC f hs x.fThen) x.fTerm x.fCost k s).outs, InT y
  | 0, s, _, ho => by rw [rndC]; exact ho
  | k + 1, s, hb, ho => by
    rw [rndC]
    split
    · exact ho
    · exact rnd_outs hv hB k _ (hb.next hv hs) (hB _ hb.body ho)
theorem outs_T {f : Flat} (hv : VarsOk f.fVars) {hs : List Int} : ∀ {n : Nat} {top : Bool} {l : List GStep} {s : CS}, SizeOf.sizeOf l < n → Bud f top l s → (∀ x ∈ s.outs, InT x) → ∀ x ∈ (runC f hs l s).outs, InT x
  | 0, _, _, _, h, _, _ => by omega
  | n + 1, _, [], _, _, _, ho => by rw [runC_nil]; exact ho
  | n + 1, top, x :: l, s, hn, h, ho => by
    have hsz := sizeOf_then (List.mem_cons_self (a := x) (l := l))
    have ht := size_tail x l
    rw [runC_cons]
    refine outs_T hv (n := n) (by omega) (h.next hv) ?_
    have hT : InT (valT s.vals x.fTerm) := by
      obtain ⟨_, h1, h2⟩ := r181_eq hv h.vals false x.fTerm h.ok.term
      exact ⟨h1, h2⟩
    unfold stepO
    by_cases d4 : x.fDo = 4
    · rw [if_pos d4]
      exact rnd_outs hv (fun s hb ho => outs_T hv (hs := hs) (n := n) (by omega) hb ho) _ s (h.loop d4) ho
    rw [if_neg d4]
    by_cases d0 : x.fDo = 0
    · rw [if_pos d0]; exact ho
    rw [if_neg d0]
    by_cases d1 : x.fDo = 1
    · rw [if_pos d1]
      intro y hy
      rcases List.mem_append.1 hy with hy | hy
      · exact ho y hy
      · rw [List.mem_singleton.1 hy]; exact hT
    rw [if_neg d1]
    by_cases d5 : x.fDo = 5
    · rw [if_pos d5]; exact ho
    rw [if_neg d5]
    by_cases d3 : x.fDo = 3
    · rw [if_pos d3]
      obtain ⟨b1, b2⟩ := h.sub d3
      split
      · exact outs_T hv (n := n) (by omega) b1 ho
      · exact outs_T hv (n := n) (by omega) b2 ho
    rw [if_neg d3]
    split
    · exact ho
    · exact ho
theorem end_outs {f : Flat} {inp : Inputs} (h : Fit1 f inp) : ∀ x ∈ (endC f inp).outs, InM x := fun x hx =>
 (outs_T h.ok.vars (n := SizeOf.sizeOf f.fBody + 1) (Nat.lt_succ_self _) (bud0 h.ok h.st) (fun y hy => by cases hy) x hx).m
theorem m5_eq (f : Flat) (inp : Inputs) (tm : Bool) : m5 f inp tm = some true := by
  unfold m5
  rw [show m18 = true from rfl]
  simp only [cond_true, cond_false]
  obtain ⟨r, e24, hr⟩ := m24_eq f 4096 4096 256
  rw [e24]
  dsimp only
  cases r with
  | false => rfl
  | true =>
    obtain ⟨hfew, hc⟩ := hr rfl
    obtain ⟨hn, hh, hv⟩ := few_nodes hfew
    obtain ⟨p, e28, hp⟩ := m28_eq hc hn hh hv inp
    rw [e28]
    simp only [cond_true, cond_false]
    by_cases h0 : p.2 = 0
    · obtain ⟨q1, q2⟩ := hp h0
      have hF : Fit1 f inp := ⟨hc, chk_ok hc, hn, hh, hv, q2⟩
      have hl := hF.len
      have ho := end_outs hF
      obtain ⟨b1, b2, b3⟩ := end_bd hF
      have e35 : m35 inp.fSecret = some inp.fSecret := by unfold m35; rw [if_pos (by omega)]
      have e50 := a5_0_eq tm (inp.fSecret ++ inp.fRandom) (by simp; omega) f inp p.1
      have e26 := m26_eq hF ho tm
      have e20 := m20_eq hF tm
      have e25 := m25_eq hF ho tm
      have hvl := b3.1
      rw [q1] at *
      simp only [h0, decide_true, cond_true, cond_false, e35]
      rw [if_pos (by simp; omega), e50]
      dsimp only
      rw [decide_eq_false (by omega), cond_false]
      rw [show (inp.fSecret ++ inp.fRandom).map sg = boxV inp from rfl, e26]
      dsimp only
      rw [e20]
      dsimp only
      rw [e25]
      have hz : i64.wrap (i64.wrap ((0 : Int) + 0) + 0) = 0 := by decide
      have e51 := a5_1_eq tm (endC f inp).vals (by omega) (encG (endC f inp)) ⟨(endC f inp).outs, seenT tm (endC f inp).time⟩ (absR tm (endC f inp)) rfl
      have e98 := m98_same (endC f inp).outs (by omega)
      have hlf : ((absR tm (endC f inp)).fFinal.length : Int) = ((endC f inp).vals.length : Int) := by simp [absR]
      simp only [hz, decide_true, cond_true, cond_false, hlf, encG] at e51 ⊢
      rw [e51]
      simp only [Int.lt_irrefl, decide_false, cond_false]
      have e31 : m31 ⟨(endC f inp).outs, seenT tm (endC f inp).time⟩ (m29 ⟨(endC f inp).outs, (endC f inp).time⟩ tm) = some true := by
        unfold m31 m29 seenT
        cases tm <;> simp [e98]
      rw [e31]
    · simp only [h0, decide_false, cond_true, cond_false]
end Go.Proofs.YtnfljbehcffmcaaGreat
end
noncomputable section
namespace Go.Iv
variable [U : Uni]
open Go Go.RowKit Go.Deep Go.ChangeShapes Go.WideShapes Go.Joins
theorem fn_law {P : Program} {f : FuncId} {args : List AV} (h : Iv.Fn P f args [] (fun a s => a = .b true ∧ s = [])) {A : Nat → Prop} {w : World} {vs : List Value} (hr : RelL A w args vs) :
  Calls P f vs.toArray w fun e w' => ∃ v, e = .returned v ∧ v = .bool true ∧ Below w.heap.size w w' :=
 (h w A vs hr ⟨fun r hr => by simp at hr, fun b hb => by simp [blks] at hb⟩ (by simp [blks])).mono fun e w' ⟨v, av, σ', h1, ⟨h2, h3⟩, h4, h5⟩ => by
  subst h2
  exact ⟨v, h1, h5.litEq, h4.kp.below⟩
abbrev anyB : Nat → Prop := fun _ => True
def Opn {α : Type} {H : Type} (enc : TypeId × Value → H) (P : Program) (w : World) (t : TypeId) (c : α → List AV) (ok : α → Prop) : Prop :=
 ∀ (base : Nat) (fuel : Nat) (cs : List Value) (x : DataW H × List MemPlace), DataW.trod enc P w base (fun _ => true) true fuel t cs = some x → ∃ a, ok a ∧ RelL anyB w (c a) cs
section
variable {α : Type} {H : Type} {enc : TypeId × Value → H} {P : Program} {w : World} {t e : TypeId}
theorem Opn.int {k : IntKind} (ht : P.underlying t = some (.int k)) : Opn enc P w t (cN k) (fun n => (Lit.int k n).wf = true) := fun base fuel cs x h => by
 obtain ⟨n, rfl, _, hw⟩ := DataW.trod_int ht h
 exact ⟨n, hw, RelL.cons (.lit _) RelL.nil⟩
theorem Opn.bool (ht : P.underlying t = some .bool) : Opn enc P w t cB (fun _ => True) := fun base fuel cs x h => by
 obtain ⟨b, rfl, _⟩ := DataW.trod_bool ht h
 exact ⟨b, trivial, RelL.cons (.lit _) RelL.nil⟩
theorem Opn.slice {ok : U.Dat e → Prop} {sz : Nat} (ht : P.underlying t = some (.slice e)) (hc : P.cellsOf e = sz + 1) (hs : U.sz e = sz + 1) (he : Opn enc P w e (U.cells e) ok) :
    Opn enc P w t (fun l : List (U.Dat e) => [.sl e l]) (fun l => l.length ≤ 9223372036854775807 ∧ ∀ a ∈ l, ok a) := fun base fuel cs x h => by
  rcases open_slice ht h with ⟨rfl, _⟩ | ⟨a, len, cp, m, n, D, Pl, hcs, hb, hl, hm, hmm, _, hx⟩
  · refine ⟨[], ⟨by simp, by simp⟩, RelL.cons ?_ RelL.nil⟩
    exact .sl e ([] : List (U.Dat e)) none 0 (fun _ _ => default) (by simp) (by simp) (fun i hi => by simp at hi) (fun i hi => by simp at hi) (fun i j a hi => by simp at hi)
  · subst hcs
    have hmm : m = cp := by rw [hmm]; rfl
    rw [hc] at hx
    have hmx : cp ≤ 9223372036854775807 := by unfold maxLen at hm; omega
    obtain ⟨CS, hCS⟩ := choose_lt (α := List Value × U.Dat e) (p := fun i y => w.cells? base (a.add (i * (sz + 1))) (sz + 1) = some y.1 ∧ ok y.2 ∧ RelL anyB w (U.cells e y.2) y.1) (n := len) (fun i hi => by
      obtain ⟨cs', h1, h2⟩ := hx i (by omega)
      obtain ⟨y, h3, h4⟩ := he _ _ _ _ h2
      exact ⟨(cs', y), h1, h3, h4⟩)
    obtain ⟨l, hld⟩ : ∃ l : List (U.Dat e), l = (List.range len).map fun i => (CS i).2 := ⟨_, rfl⟩
    have hln : l.length = len := by rw [hld]; simp
    have hget : ∀ i, i < len → l[i]! = (CS i).2 := fun i hi => by
      rw [getElem!_pos l i (by omega)]; simp [hld]
    refine ⟨l, ⟨by omega, fun y hy => ?_⟩, RelL.cons ?_ RelL.nil⟩
    · rw [hld, List.mem_map] at hy
      obtain ⟨i, hi, rfl⟩ := hy
      exact (hCS i (by simpa using hi)).2.1
    · rw [← hln]
      refine .sl e l (some a) cp (fun i j => (CS i).1[j]!) (by omega) (by omega) (fun i hi => ?_) (fun i hi => ?_) (fun i j av hi hj => ?_)
      · rw [hln] at hi
        obtain ⟨h1, _, h3⟩ := hCS i hi
        obtain ⟨_, h5, _⟩ := World.cells?_some h1
        rw [hget i hi, ← h3.1, h5, hs]
      · rw [hln] at hi
        obtain ⟨h1, _, h3⟩ := hCS i hi
        obtain ⟨_, h5, h6⟩ := World.cells?_some h1
        have hj : ∀ j, j < sz + 1 → w.cell? ((a.add (i * (sz + 1))).add j) = some (CS i).1[j]! := fun j hj => by
          rw [h6 j hj, getElem!_pos _ j (by omega), List.getElem?_eq_getElem (by omega)]
        obtain ⟨b, off, spot⟩ := a
        have hs : spot = none := by
          obtain ⟨g1, _, _⟩ := hCS 0 (by omega)
          obtain ⟨_, g5, g6⟩ := World.cells?_some g1
          have := World.cell?_spot (v := (CS 0).1[0]!) (w := w) (a := ((⟨b, off, spot⟩ : Addr).add (0 * (sz + 1))).add 0) (by rw [g6 0 (by omega), getElem!_pos _ 0 (by omega), List.getElem?_eq_getElem (by omega)])
          simpa [Addr.add] using this
        subst hs
        have hj' : ∀ j, j < sz + 1 → w.cell? ⟨b, off + i * (sz + 1) + j, none⟩ = some (CS i).1[j]! := fun j hlt => by
          have := hj j hlt
          have ap : ∀ o i : Nat, (⟨b, o, none⟩ : Addr).add i = ⟨b, o + i, none⟩ := fun o i => by
            unfold Addr.add
            split
            · rename_i h0; simp only [h0, Nat.add_zero]
            · rfl
          rw [ap, ap] at this
          exact this
        exact ⟨b, off, rfl, World.block_lt_of_cell? w _ (hj' 0 (by omega)), trivial, by rw [hs]; exact hj'⟩
      · rw [hln] at hi
        rw [hget i hi] at hj
        obtain ⟨h1, _, h3⟩ := hCS i hi
        obtain ⟨v, q1, q2⟩ := h3.get hj
        show Rel anyB w av (CS i).1[j]!
        obtain ⟨q3, q4⟩ := List.getElem?_eq_some_iff.1 q1
        rw [getElem!_pos _ j q3, q4]
        exact q2
theorem Opn.one {c : α → AV} {ok : α → Prop} {v : Value} {d : DataW H} {p : List MemPlace} (he : Opn enc P w t (fun a => [c a]) ok) (hv : v.cells = #[v]) (h : DataW.Trod enc P w 0 (fun _ => true) true t v d p) : ∃ a, ok a ∧ Rel anyB w (c a) v := by
 obtain ⟨fuel, hf⟩ := h
 rw [hv] at hf
 obtain ⟨a, h1, h2⟩ := he _ _ _ _ hf
 exact ⟨a, h1, h2.2 0 _ _ rfl rfl⟩
theorem Opn.agg {c : α → List AV} {ok : α → Prop} {v : Value} {cs : Array Value} {d : DataW H} {p : List MemPlace} (he : Opn enc P w t c ok) (hv : v = .agg cs) (h : DataW.Trod enc P w 0 (fun _ => true) true t v d p) : ∃ a, ok a ∧ Rel anyB w (.agg (c a)) v := by
 obtain ⟨fuel, hf⟩ := h
 subst hv
 obtain ⟨l⟩ := cs
 obtain ⟨a, h1, h2⟩ := he _ _ _ _ hf
 exact ⟨a, h1, Rel.aggL h2⟩
end
theorem FnY.law [L : UniL] {P : Program} {f : FuncId} {args : List AV} {x : Out} (h : FnY P f args [] 0 x) (hx : x = ⟨.b true, [], 0⟩) (ha : args.all (cloB 2) = true) : Iv.Fn P f args [] (fun a s => a = .b true ∧ s = []) := by
 subst hx
 have h1 := h ⟨fun _ => undef, fun _ => 0⟩
 have : args.map (AVq.sub ⟨fun _ => undef, fun _ => 0⟩) = args.map id := List.map_congr_left fun c hcm => cloB_sub 2 (List.all_eq_true.1 ha c hcm)
 rw [this, List.map_id] at h1
 exact h1.mono fun a s ⟨ρ', _, e1, e2⟩ => ⟨by rw [e1]; exact cloB_sub 2 rfl, List.Perm.eq_nil e2⟩
theorem relSplit {A : Nat → Prop} {w : World} {xs bs : List AV} {us : List Value} {n : Nat} (h : RelL A w xs (us.take n)) (h' : RelL A w bs (us.drop n)) : RelL A w (xs ++ bs) us := by
 have := h.app h'
 rwa [List.take_append_drop] at this
def OpnB (B : Nat) {α : Type} {H : Type} (enc : TypeId × Value → H) (P : Program) (w : World) (t : TypeId) (c : α → List AV) (ok : α → Prop) : Prop :=
 ∀ (base : Nat) (fuel : Nat), fuel < B → ∀ (cs : List Value) (x : DataW H × List MemPlace), DataW.trod enc P w base (fun _ => true) true fuel t cs = some x → ∃ a, ok a ∧ RelL anyB w (c a) cs
section
variable {α : Type} {H : Type} {enc : TypeId × Value → H} {P : Program} {w : World} {t e : TypeId}
theorem Opn.ofB {c : α → List AV} {ok : α → Prop} (h : ∀ B, OpnB B enc P w t c ok) : Opn enc P w t c ok := fun base fuel cs x hx => h (fuel + 1) base fuel (Nat.lt_succ_self _) cs x hx
theorem Opn.str (ht : P.underlying t = some .string) : Opn enc P w t (fun s => [.s s]) (fun _ => True) := fun base fuel cs x h => by
 obtain ⟨b, rfl, _⟩ := DataW.trod_string ht h
 exact ⟨b, trivial, RelL.cons (.lit _) RelL.nil⟩
theorem Opn.any {c : α → List AV} {ok : α → Prop} (h : Opn enc P w t c ok) : Opn enc P w t c (fun _ => True) := fun base fuel cs x hx => by
 obtain ⟨a, _, r⟩ := h base fuel cs x hx
 exact ⟨a, trivial, r⟩
theorem OpnB.slice {B : Nat} {ok : U.Dat e → Prop} {sz : Nat} (ht : P.underlying t = some (.slice e)) (hc : P.cellsOf e = sz + 1) (hs : U.sz e = sz + 1) (he : OpnB B enc P w e (U.cells e) ok) :
    OpnB B enc P w t (fun l : List (U.Dat e) => [.sl e l]) (fun l => l.length ≤ 9223372036854775807 ∧ ∀ a ∈ l, ok a) := fun base fuel hB cs x h => by
  rcases DataW.trod_slice ht h with ⟨rfl, _⟩ | ⟨a, len, cp, elems, rest, n, hfu, hcs, _, hb, hl, hm, hlen, hx, _, _⟩
  · refine ⟨[], ⟨by simp, by simp⟩, RelL.cons ?_ RelL.nil⟩
    exact .sl e ([] : List (U.Dat e)) none 0 (fun _ _ => default) (by simp) (by simp) (fun i hi => by simp at hi) (fun i hi => by simp at hi) (fun i j a hi => by simp at hi)
  · subst hcs
    rw [hc] at hx
    have hmx : cp ≤ 9223372036854775807 := by unfold maxLen at hm; omega
    obtain ⟨CS, hCS⟩ := choose_lt (α := List Value × U.Dat e) (p := fun i y => w.cells? base (a.add (i * (sz + 1))) (sz + 1) = some y.1 ∧ ok y.2 ∧ RelL anyB w (U.cells e y.2) y.1) (n := len) (fun i hi => by
      have hk := hx i hi
      rw [List.getElem?_eq_getElem (show i < elems.length by omega)] at hk
      obtain ⟨cs', h1, h2⟩ := Option.bind_eq_some_iff.1 hk
      obtain ⟨y, h3, h4⟩ := he _ n (by omega) _ _ h2
      exact ⟨(cs', y), h1, h3, h4⟩)
    obtain ⟨l, hld⟩ : ∃ l : List (U.Dat e), l = (List.range len).map fun i => (CS i).2 := ⟨_, rfl⟩
    have hln : l.length = len := by rw [hld]; simp
    have hget : ∀ i, i < len → l[i]! = (CS i).2 := fun i hi => by
      rw [getElem!_pos l i (by omega)]; simp [hld]
    refine ⟨l, ⟨by omega, fun y hy => ?_⟩, RelL.cons ?_ RelL.nil⟩
    · rw [hld, List.mem_map] at hy
      obtain ⟨i, hi, rfl⟩ := hy
      exact (hCS i (by simpa using hi)).2.1
    · rw [← hln]
      refine .sl e l (some a) cp (fun i j => (CS i).1[j]!) (by omega) (by omega) (fun i hi => ?_) (fun i hi => ?_) (fun i j av hi hj => ?_)
      · rw [hln] at hi
        obtain ⟨h1, _, h3⟩ := hCS i hi
        obtain ⟨_, h5, _⟩ := World.cells?_some h1
        rw [hget i hi, ← h3.1, h5, hs]
      · rw [hln] at hi
        obtain ⟨h1, _, h3⟩ := hCS i hi
        obtain ⟨_, h5, h6⟩ := World.cells?_some h1
        have hj : ∀ j, j < sz + 1 → w.cell? ((a.add (i * (sz + 1))).add j) = some (CS i).1[j]! := fun j hj => by
          rw [h6 j hj, getElem!_pos _ j (by omega), List.getElem?_eq_getElem (by omega)]
        obtain ⟨b, off, spot⟩ := a
        have hs : spot = none := by
          obtain ⟨g1, _, _⟩ := hCS 0 (by omega)
          obtain ⟨_, g5, g6⟩ := World.cells?_some g1
          have := World.cell?_spot (v := (CS 0).1[0]!) (w := w) (a := ((⟨b, off, spot⟩ : Addr).add (0 * (sz + 1))).add 0) (by rw [g6 0 (by omega), getElem!_pos _ 0 (by omega), List.getElem?_eq_getElem (by omega)])
          simpa [Addr.add] using this
        subst hs
        have hj' : ∀ j, j < sz + 1 → w.cell? ⟨b, off + i * (sz + 1) + j, none⟩ = some (CS i).1[j]! := fun j hlt => by
          have := hj j hlt
          have ap : ∀ o i : Nat, (⟨b, o, none⟩ : Addr).add i = ⟨b, o + i, none⟩ := fun o i => by
            unfold Addr.add
            split
            · rename_i h0; simp only [h0, Nat.add_zero]
            · rfl
          rw [ap, ap] at this
          exact this
        exact ⟨b, off, rfl, World.block_lt_of_cell? w _ (hj' 0 (by omega)), trivial, by rw [hs]; exact hj'⟩
      · rw [hln] at hi
        rw [hget i hi] at hj
        obtain ⟨h1, _, h3⟩ := hCS i hi
        obtain ⟨v, q1, q2⟩ := h3.get hj
        show Rel anyB w av (CS i).1[j]!
        obtain ⟨q3, q4⟩ := List.getElem?_eq_some_iff.1 q1
        rw [getElem!_pos _ j q3, q4]
        exact q2
end
end Go.Iv
end
noncomputable section
set_option maxRecDepth 100000
namespace Go.Proofs.YtnfljbehcffmcaaGreat
open Go Go.Iv Go.RowKit Go.Deep Go.ChangeShapes Go.WideShapes Go.Joins
section
variable {H : Type} {enc : TypeId × Value → H} {w : World}
theorem og9 : Opn enc Tryz.prog w 9 (fun s => [.s s]) (fun _ => True) := Opn.str Tryz.underlying9
theorem og129 : Opn enc Tryz.prog w 129 (cN .i64) (fun _ => True) := (Opn.int Tryz.underlying129).any
theorem og3 : Opn enc Tryz.prog w 3 (cN .i64) (fun _ => True) := (Opn.int Tryz.underlying3).any
theorem og131 : Opn enc Tryz.prog w 131 (uni.cells 131) (fun _ => True) := fun base fuel cs x h => by
 obtain ⟨xs, n, hfu, rfl, hl, hlen, hf⟩ := DataW.trod_struct Tryz.underlying131 h
 rw [show Tryz.prog.cellsOf 131 = 5 from by kernel_rfl] at hl
 have hlen : xs.length = 5 := hlen
 have f0 : DataW.trod enc Tryz.prog w base (fun _ => true) true n 9 ((cs.drop 0).take (Tryz.prog.cellsOf 9)) = xs[0]? := hf 0 _ rfl
 rw [show Tryz.prog.cellsOf 9 = 1 from by kernel_rfl, List.getElem?_eq_getElem (show 0 < xs.length by omega)] at f0
 obtain ⟨a0, _, r0⟩ := og9 _ _ _ _ f0
 have f1 : DataW.trod enc Tryz.prog w base (fun _ => true) true n 129 ((cs.drop 1).take (Tryz.prog.cellsOf 129)) = xs[1]? := hf 1 _ rfl
 rw [show Tryz.prog.cellsOf 129 = 1 from by kernel_rfl, List.getElem?_eq_getElem (show 1 < xs.length by omega)] at f1
 obtain ⟨a1, _, r1⟩ := og129 _ _ _ _ f1
 have f2 : DataW.trod enc Tryz.prog w base (fun _ => true) true n 3 ((cs.drop 2).take (Tryz.prog.cellsOf 3)) = xs[2]? := hf 2 _ rfl
 rw [show Tryz.prog.cellsOf 3 = 1 from by kernel_rfl, List.getElem?_eq_getElem (show 2 < xs.length by omega)] at f2
 obtain ⟨a2, _, r2⟩ := og3 _ _ _ _ f2
 have f3 : DataW.trod enc Tryz.prog w base (fun _ => true) true n 3 ((cs.drop 3).take (Tryz.prog.cellsOf 3)) = xs[3]? := hf 3 _ rfl
 rw [show Tryz.prog.cellsOf 3 = 1 from by kernel_rfl, List.getElem?_eq_getElem (show 3 < xs.length by omega)] at f3
 obtain ⟨a3, _, r3⟩ := og3 _ _ _ _ f3
 have f4 : DataW.trod enc Tryz.prog w base (fun _ => true) true n 3 ((cs.drop 4).take (Tryz.prog.cellsOf 3)) = xs[4]? := hf 4 _ rfl
 rw [show Tryz.prog.cellsOf 3 = 1 from by kernel_rfl, List.getElem?_eq_getElem (show 4 < xs.length by omega)] at f4
 obtain ⟨a4, _, r4⟩ := og3 _ _ _ _ f4
 have e : RelL anyB w [] (cs.drop 5) := by rw [List.drop_of_length_le (by omega)]; exact RelL.nil
 have s4 := relSplit (us := cs.drop 4) r4 (by rw [List.drop_drop]; exact e)
 have s3 := relSplit (us := cs.drop 3) r3 (by rw [List.drop_drop]; exact s4)
 have s2 := relSplit (us := cs.drop 2) r2 (by rw [List.drop_drop]; exact s3)
 have s1 := relSplit (us := cs.drop 1) r1 (by rw [List.drop_drop]; exact s2)
 have s0 := relSplit (us := cs.drop 0) r0 (by rw [List.drop_drop]; exact s1)
 exact ⟨(⟨a0, a1, a2, a3, a4⟩ : GVar), trivial, s0⟩
theorem og22 : Opn enc Tryz.prog w 22 (fun l : List (uni.Dat 131) => [.sl 131 l]) (fun l => l.length ≤ 9223372036854775807 ∧ ∀ a ∈ l, True) := Opn.slice (e := 131) (sz := 4) Tryz.underlying22 (by kernel_rfl) rfl og131
theorem og134 : Opn enc Tryz.prog w 134 (cN .i64) (fun _ => True) := (Opn.int Tryz.underlying134).any
theorem ogB137 : ∀ B, OpnB B enc Tryz.prog w 137 (uni.cells 137) (fun _ => True)
 | 0 => fun base fuel hB => absurd hB (Nat.not_lt_zero _)
 | B + 1 => fun base fuel hB cs x h => by
  have ih := ogB137 B
  obtain ⟨xs, n, hfu, rfl, hl, hlen, hf⟩ := DataW.trod_struct Tryz.underlying137 h
  rw [show Tryz.prog.cellsOf 137 = 3 from by kernel_rfl] at hl
  have hlen : xs.length = 3 := hlen
  have f0 : DataW.trod enc Tryz.prog w base (fun _ => true) true n 134 ((cs.drop 0).take (Tryz.prog.cellsOf 134)) = xs[0]? := hf 0 _ rfl
  rw [show Tryz.prog.cellsOf 134 = 1 from by kernel_rfl, List.getElem?_eq_getElem (show 0 < xs.length by omega)] at f0
  obtain ⟨a0, _, r0⟩ := og134 _ _ _ _ f0
  have f1 : DataW.trod enc Tryz.prog w base (fun _ => true) true n 3 ((cs.drop 1).take (Tryz.prog.cellsOf 3)) = xs[1]? := hf 1 _ rfl
  rw [show Tryz.prog.cellsOf 3 = 1 from by kernel_rfl, List.getElem?_eq_getElem (show 1 < xs.length by omega)] at f1
  obtain ⟨a1, _, r1⟩ := og3 _ _ _ _ f1
  have f2 : DataW.trod enc Tryz.prog w base (fun _ => true) true n 135 ((cs.drop 2).take (Tryz.prog.cellsOf 135)) = xs[2]? := hf 2 _ rfl
  rw [show Tryz.prog.cellsOf 135 = 1 from by kernel_rfl, List.getElem?_eq_getElem (show 2 < xs.length by omega)] at f2
  obtain ⟨a2, _, r2⟩ := OpnB.slice (t := 135) (e := 137) (sz := 2) Tryz.underlying135 (by kernel_rfl) rfl ih base n (by omega) _ _ f2
  have e : RelL anyB w [] (cs.drop 3) := by rw [List.drop_of_length_le (by omega)]; exact RelL.nil
  have s2 := relSplit (us := cs.drop 2) r2 (by rw [List.drop_drop]; exact e)
  have s1 := relSplit (us := cs.drop 1) r1 (by rw [List.drop_drop]; exact s2)
  have s0 := relSplit (us := cs.drop 0) r0 (by rw [List.drop_drop]; exact s1)
  exact ⟨(⟨a0, a1, a2⟩ : GTerm), trivial, s0⟩
theorem og137 : Opn enc Tryz.prog w 137 (uni.cells 137) (fun _ => True) := Opn.ofB ogB137
theorem og139 : Opn enc Tryz.prog w 139 (uni.cells 139) (fun _ => True) := fun base fuel cs x h => by
 obtain ⟨xs, n, hfu, rfl, hl, hlen, hf⟩ := DataW.trod_struct Tryz.underlying139 h
 rw [show Tryz.prog.cellsOf 139 = 6 from by kernel_rfl] at hl
 have hlen : xs.length = 4 := hlen
 have f0 : DataW.trod enc Tryz.prog w base (fun _ => true) true n 9 ((cs.drop 0).take (Tryz.prog.cellsOf 9)) = xs[0]? := hf 0 _ rfl
 rw [show Tryz.prog.cellsOf 9 = 1 from by kernel_rfl, List.getElem?_eq_getElem (show 0 < xs.length by omega)] at f0
 obtain ⟨a0, _, r0⟩ := og9 _ _ _ _ f0
 have f1 : DataW.trod enc Tryz.prog w base (fun _ => true) true n 3 ((cs.drop 1).take (Tryz.prog.cellsOf 3)) = xs[1]? := hf 1 _ rfl
 rw [show Tryz.prog.cellsOf 3 = 1 from by kernel_rfl, List.getElem?_eq_getElem (show 1 < xs.length by omega)] at f1
 obtain ⟨a1, _, r1⟩ := og3 _ _ _ _ f1
 have f2 : DataW.trod enc Tryz.prog w base (fun _ => true) true n 3 ((cs.drop 2).take (Tryz.prog.cellsOf 3)) = xs[2]? := hf 2 _ rfl
 rw [show Tryz.prog.cellsOf 3 = 1 from by kernel_rfl, List.getElem?_eq_getElem (show 2 < xs.length by omega)] at f2
 obtain ⟨a2, _, r2⟩ := og3 _ _ _ _ f2
 have f3 : DataW.trod enc Tryz.prog w base (fun _ => true) true n 137 ((cs.drop 3).take (Tryz.prog.cellsOf 137)) = xs[3]? := hf 3 _ rfl
 rw [show Tryz.prog.cellsOf 137 = 3 from by kernel_rfl, List.getElem?_eq_getElem (show 3 < xs.length by omega)] at f3
 obtain ⟨a3, _, r3⟩ := og137 _ _ _ _ f3
 have e : RelL anyB w [] (cs.drop 6) := by rw [List.drop_of_length_le (by omega)]; exact RelL.nil
 have s3 := relSplit (us := cs.drop 3) r3 (by rw [List.drop_drop]; exact e)
 have s2 := relSplit (us := cs.drop 2) r2 (by rw [List.drop_drop]; exact s3)
 have s1 := relSplit (us := cs.drop 1) r1 (by rw [List.drop_drop]; exact s2)
 have s0 := relSplit (us := cs.drop 0) r0 (by rw [List.drop_drop]; exact s1)
 exact ⟨(⟨a0, a1, a2, a3⟩ : Hatch), trivial, s0⟩
theorem og23 : Opn enc Tryz.prog w 23 (fun l : List (uni.Dat 139) => [.sl 139 l]) (fun l => l.length ≤ 9223372036854775807 ∧ ∀ a ∈ l, True) := Opn.slice (e := 139) (sz := 5) Tryz.underlying23 (by kernel_rfl) rfl og139
theorem og164 : Opn enc Tryz.prog w 164 (cN .i64) (fun _ => True) := (Opn.int Tryz.underlying164).any
theorem og27 : Opn enc Tryz.prog w 27 (fun l : List (uni.Dat 3) => [.sl 3 l]) (fun l => l.length ≤ 9223372036854775807 ∧ ∀ a ∈ l, True) := Opn.slice (e := 3) (sz := 0) Tryz.underlying27 (by kernel_rfl) rfl og3
theorem ogB166 : ∀ B, OpnB B enc Tryz.prog w 166 (uni.cells 166) (fun _ => True)
 | 0 => fun base fuel hB => absurd hB (Nat.not_lt_zero _)
 | B + 1 => fun base fuel hB cs x h => by
  have ih := ogB166 B
  obtain ⟨xs, n, hfu, rfl, hl, hlen, hf⟩ := DataW.trod_struct Tryz.underlying166 h
  rw [show Tryz.prog.cellsOf 166 = 10 from by kernel_rfl] at hl
  have hlen : xs.length = 8 := hlen
  have f0 : DataW.trod enc Tryz.prog w base (fun _ => true) true n 164 ((cs.drop 0).take (Tryz.prog.cellsOf 164)) = xs[0]? := hf 0 _ rfl
  rw [show Tryz.prog.cellsOf 164 = 1 from by kernel_rfl, List.getElem?_eq_getElem (show 0 < xs.length by omega)] at f0
  obtain ⟨a0, _, r0⟩ := og164 _ _ _ _ f0
  have f1 : DataW.trod enc Tryz.prog w base (fun _ => true) true n 3 ((cs.drop 1).take (Tryz.prog.cellsOf 3)) = xs[1]? := hf 1 _ rfl
  rw [show Tryz.prog.cellsOf 3 = 1 from by kernel_rfl, List.getElem?_eq_getElem (show 1 < xs.length by omega)] at f1
  obtain ⟨a1, _, r1⟩ := og3 _ _ _ _ f1
  have f2 : DataW.trod enc Tryz.prog w base (fun _ => true) true n 3 ((cs.drop 2).take (Tryz.prog.cellsOf 3)) = xs[2]? := hf 2 _ rfl
  rw [show Tryz.prog.cellsOf 3 = 1 from by kernel_rfl, List.getElem?_eq_getElem (show 2 < xs.length by omega)] at f2
  obtain ⟨a2, _, r2⟩ := og3 _ _ _ _ f2
  have f3 : DataW.trod enc Tryz.prog w base (fun _ => true) true n 3 ((cs.drop 3).take (Tryz.prog.cellsOf 3)) = xs[3]? := hf 3 _ rfl
  rw [show Tryz.prog.cellsOf 3 = 1 from by kernel_rfl, List.getElem?_eq_getElem (show 3 < xs.length by omega)] at f3
  obtain ⟨a3, _, r3⟩ := og3 _ _ _ _ f3
  have f4 : DataW.trod enc Tryz.prog w base (fun _ => true) true n 137 ((cs.drop 4).take (Tryz.prog.cellsOf 137)) = xs[4]? := hf 4 _ rfl
  rw [show Tryz.prog.cellsOf 137 = 3 from by kernel_rfl, List.getElem?_eq_getElem (show 4 < xs.length by omega)] at f4
  obtain ⟨a4, _, r4⟩ := og137 _ _ _ _ f4
  have f5 : DataW.trod enc Tryz.prog w base (fun _ => true) true n 24 ((cs.drop 7).take (Tryz.prog.cellsOf 24)) = xs[5]? := hf 5 _ rfl
  rw [show Tryz.prog.cellsOf 24 = 1 from by kernel_rfl, List.getElem?_eq_getElem (show 5 < xs.length by omega)] at f5
  obtain ⟨a5, _, r5⟩ := OpnB.slice (t := 24) (e := 166) (sz := 9) Tryz.underlying24 (by kernel_rfl) rfl ih base n (by omega) _ _ f5
  have f6 : DataW.trod enc Tryz.prog w base (fun _ => true) true n 24 ((cs.drop 8).take (Tryz.prog.cellsOf 24)) = xs[6]? := hf 6 _ rfl
  rw [show Tryz.prog.cellsOf 24 = 1 from by kernel_rfl, List.getElem?_eq_getElem (show 6 < xs.length by omega)] at f6
  obtain ⟨a6, _, r6⟩ := OpnB.slice (t := 24) (e := 166) (sz := 9) Tryz.underlying24 (by kernel_rfl) rfl ih base n (by omega) _ _ f6
  have f7 : DataW.trod enc Tryz.prog w base (fun _ => true) true n 27 ((cs.drop 9).take (Tryz.prog.cellsOf 27)) = xs[7]? := hf 7 _ rfl
  rw [show Tryz.prog.cellsOf 27 = 1 from by kernel_rfl, List.getElem?_eq_getElem (show 7 < xs.length by omega)] at f7
  obtain ⟨a7, _, r7⟩ := og27 _ _ _ _ f7
  have e : RelL anyB w [] (cs.drop 10) := by rw [List.drop_of_length_le (by omega)]; exact RelL.nil
  have s7 := relSplit (us := cs.drop 9) r7 (by rw [List.drop_drop]; exact e)
  have s6 := relSplit (us := cs.drop 8) r6 (by rw [List.drop_drop]; exact s7)
  have s5 := relSplit (us := cs.drop 7) r5 (by rw [List.drop_drop]; exact s6)
  have s4 := relSplit (us := cs.drop 4) r4 (by rw [List.drop_drop]; exact s5)
  have s3 := relSplit (us := cs.drop 3) r3 (by rw [List.drop_drop]; exact s4)
  have s2 := relSplit (us := cs.drop 2) r2 (by rw [List.drop_drop]; exact s3)
  have s1 := relSplit (us := cs.drop 1) r1 (by rw [List.drop_drop]; exact s2)
  have s0 := relSplit (us := cs.drop 0) r0 (by rw [List.drop_drop]; exact s1)
  exact ⟨(⟨a0, a1, a2, a3, a4, a5, a6, a7⟩ : GStep), trivial, s0⟩
theorem og166 : Opn enc Tryz.prog w 166 (uni.cells 166) (fun _ => True) := Opn.ofB ogB166
theorem og24 : Opn enc Tryz.prog w 24 (fun l : List (uni.Dat 166) => [.sl 166 l]) (fun l => l.length ≤ 9223372036854775807 ∧ ∀ a ∈ l, True) := Opn.slice (e := 166) (sz := 9) Tryz.underlying24 (by kernel_rfl) rfl og166
theorem og26 : Opn enc Tryz.prog w 26 (uni.cells 26) (fun _ => True) := fun base fuel cs x h => by
 obtain ⟨xs, n, hfu, rfl, hl, hlen, hf⟩ := DataW.trod_struct Tryz.underlying26 h
 rw [show Tryz.prog.cellsOf 26 = 3 from by kernel_rfl] at hl
 have hlen : xs.length = 3 := hlen
 have f0 : DataW.trod enc Tryz.prog w base (fun _ => true) true n 22 ((cs.drop 0).take (Tryz.prog.cellsOf 22)) = xs[0]? := hf 0 _ rfl
 rw [show Tryz.prog.cellsOf 22 = 1 from by kernel_rfl, List.getElem?_eq_getElem (show 0 < xs.length by omega)] at f0
 obtain ⟨a0, _, r0⟩ := og22 _ _ _ _ f0
 have f1 : DataW.trod enc Tryz.prog w base (fun _ => true) true n 23 ((cs.drop 1).take (Tryz.prog.cellsOf 23)) = xs[1]? := hf 1 _ rfl
 rw [show Tryz.prog.cellsOf 23 = 1 from by kernel_rfl, List.getElem?_eq_getElem (show 1 < xs.length by omega)] at f1
 obtain ⟨a1, _, r1⟩ := og23 _ _ _ _ f1
 have f2 : DataW.trod enc Tryz.prog w base (fun _ => true) true n 24 ((cs.drop 2).take (Tryz.prog.cellsOf 24)) = xs[2]? := hf 2 _ rfl
 rw [show Tryz.prog.cellsOf 24 = 1 from by kernel_rfl, List.getElem?_eq_getElem (show 2 < xs.length by omega)] at f2
 obtain ⟨a2, _, r2⟩ := og24 _ _ _ _ f2
 have e : RelL anyB w [] (cs.drop 3) := by rw [List.drop_of_length_le (by omega)]; exact RelL.nil
 have s2 := relSplit (us := cs.drop 2) r2 (by rw [List.drop_drop]; exact e)
 have s1 := relSplit (us := cs.drop 1) r1 (by rw [List.drop_drop]; exact s2)
 have s0 := relSplit (us := cs.drop 0) r0 (by rw [List.drop_drop]; exact s1)
 exact ⟨(⟨a0, a1, a2⟩ : Flat), trivial, s0⟩
theorem og4 : Opn enc Tryz.prog w 4 cB (fun _ => True) := Opn.bool Tryz.underlying4
theorem og52 : Opn enc Tryz.prog w 52 (uni.cells 52) (fun _ => True) := fun base fuel cs x h => by
 obtain ⟨xs, n, hfu, rfl, hl, hlen, hf⟩ := DataW.trod_struct Tryz.underlying52 h
 rw [show Tryz.prog.cellsOf 52 = 3 from by kernel_rfl] at hl
 have hlen : xs.length = 3 := hlen
 have f0 : DataW.trod enc Tryz.prog w base (fun _ => true) true n 27 ((cs.drop 0).take (Tryz.prog.cellsOf 27)) = xs[0]? := hf 0 _ rfl
 rw [show Tryz.prog.cellsOf 27 = 1 from by kernel_rfl, List.getElem?_eq_getElem (show 0 < xs.length by omega)] at f0
 obtain ⟨a0, _, r0⟩ := og27 _ _ _ _ f0
 have f1 : DataW.trod enc Tryz.prog w base (fun _ => true) true n 27 ((cs.drop 1).take (Tryz.prog.cellsOf 27)) = xs[1]? := hf 1 _ rfl
 rw [show Tryz.prog.cellsOf 27 = 1 from by kernel_rfl, List.getElem?_eq_getElem (show 1 < xs.length by omega)] at f1
 obtain ⟨a1, _, r1⟩ := og27 _ _ _ _ f1
 have f2 : DataW.trod enc Tryz.prog w base (fun _ => true) true n 27 ((cs.drop 2).take (Tryz.prog.cellsOf 27)) = xs[2]? := hf 2 _ rfl
 rw [show Tryz.prog.cellsOf 27 = 1 from by kernel_rfl, List.getElem?_eq_getElem (show 2 < xs.length by omega)] at f2
 obtain ⟨a2, _, r2⟩ := og27 _ _ _ _ f2
 have e : RelL anyB w [] (cs.drop 3) := by rw [List.drop_of_length_le (by omega)]; exact RelL.nil
 have s2 := relSplit (us := cs.drop 2) r2 (by rw [List.drop_drop]; exact e)
 have s1 := relSplit (us := cs.drop 1) r1 (by rw [List.drop_drop]; exact s2)
 have s0 := relSplit (us := cs.drop 0) r0 (by rw [List.drop_drop]; exact s1)
 exact ⟨(⟨a0, a1, a2⟩ : Inputs), trivial, s0⟩
end
end Go.Proofs.YtnfljbehcffmcaaGreat
end
noncomputable section
namespace Go.Proofs.YtnfljbehcffmcaaGreat
open Go Go.Iv
theorem o5_eq : outY Tryz.prog 5 0 (d5.pat true) = ⟨.b true, [], 0⟩ := by kernel_rfl
theorem claw5 (f : Flat) (inp : Inputs) (tm : Bool) : Iv.Fn Tryz.prog 5 [.agg (uni.cells 26 f), .agg (uni.cells 52 inp), .b tm] [] (fun a s => a = .b true ∧ s = []) := (h5 (f, inp, tm, ()) true (m5_eq f inp tm)).law o5_eq (by kernel_rfl)
end Go.Proofs.YtnfljbehcffmcaaGreat
end
