/- Merged: Pv7, Ns4, Ns5, Ns6, Sg, Gq, Ns7, Ns8, Ns9, Ns10, Ns11, Ns12, Ns13, Ns14, Ivr, Vl, Hka, Hkb, Sw, Sv, Sx, Sy, Hkc, Hkd, Gr, Ns15, Iy1, Iy2, Opd, Q3. -/
import Derived.Test.YtghilkcphindjaaGreatM4SymbolicLayout
import Derived.Test.YtghilkcphindjaaGreatM3SymbolicLayout
import Derived.Shelf.Spec.SlicesGrow
import Derived.Test.YtghilkcphindjaaGreatM2SymbolicLayout
import Derived.RangeFuncBound
import Derived.RangeFuncCalls
import Derived.RangeFuncLeaves
import Derived.Shelf.Abstract
import Derived.Shelf.RegionOpen
import Derived.WalkKit
import Derived.OwnWalkIn
import Derived.TacticsInMore
import Derived.LoopNIn
import Derived.LoopIn
import Derived.Shelf.SlSortCmp.KitK
import Derived.Sort.WalkB12
import Derived.Deep.LoopGhost
import Derived.Lib.SliceRun
import Derived.Lib.QuietBelow
import Derived.Deep.Slices
import Derived.Lib.SmallJoins
set_option linter.unusedSectionVars false
set_option linter.unusedVariables false
set_option linter.unusedSimpArgs false
set_option linter.defProp false
noncomputable section
set_option maxRecDepth 100000
namespace Go.Proofs.YtghilkcphindjaaGreat
open Go Go.Iv
open Go.IntKind (i64 u64)
theorem SOk_mem : ∀ {l : List GStep}, SOk l → ∀ s ∈ l, (0 ≤ s.fCost ∧ s.fCost ≤ 67108864) ∧ (s.fDo = 4 → 0 ≤ s.fN ∧ s.fN ≤ 4096) ∧ (s.fDo ≠ 3 → s.fDo ≠ 4 → s.fThen = []) ∧ (s.fDo ≠ 3 → s.fElse = []) ∧ SOk s.fThen ∧ SOk s.fElse
  | [], _, s, hs => by cases hs
  | a :: l, h, s, hs => by
    rw [SOk] at h
    rcases List.mem_cons.1 hs with rfl | hs
    · simp_all
    · exact SOk_mem h.2.2.2.2.2.2 s hs
def nn3 (a : Int × Int × Int) : Prop := 0 ≤ a.1 ∧ 0 ≤ a.2.1 ∧ 0 ≤ a.2.2
theorem uS1_nn {s : GStep} {a b : Int × Int × Int} (hc : 0 ≤ s.fCost) (hN : s.fDo = 4 → 0 ≤ s.fN) (ha : nn3 a) (hb : nn3 b) : nn3 (uS1 s a b) := by
  unfold nn3 at *
  unfold uS1
  split
  · simp_all
  · split
    · grind
    · split
      · rename_i h4
        have := hN h4
        have e1 : 0 ≤ s.fN * (1 + a.1) := Int.mul_nonneg this (by omega)
        have e2 : 0 ≤ s.fN * a.2.1 := Int.mul_nonneg this (by omega)
        have e3 : 0 ≤ s.fN * (s.fCost + a.2.2) := Int.mul_nonneg this (by omega)
        dsimp only; omega
      · simp_all
theorem uSs_nn : ∀ (n : Nat) (l : List GStep), SizeOf.sizeOf l < n → SOk l → nn3 (uSs l)
 | 0, _, h, _ => by omega
 | n + 1, [], h, _ => by rw [show uSs [] = (0, 0, 0) by rw [uSs]]; exact ⟨by decide, by decide, by decide⟩
 | n + 1, s :: l, h, ho => by
  have hz := sizeOf_then (l := s :: l) (List.mem_cons_self ..)
  have hz2 := size_tail s l
  rw [SOk] at ho
  have q1 := uSs_nn n s.fThen (by omega) ho.2.2.2.2.1
  have q2 := uSs_nn n s.fElse (by omega) ho.2.2.2.2.2.1
  have q3 := uSs_nn n l (by omega) ho.2.2.2.2.2.2
  have q4 := uS1_nn ho.1.1 (fun h => (ho.2.1 h).1) q1 q2
  rw [uSs_cons]
  unfold nn3 add3 at *
  grind
theorem uSs_nn' {l : List GStep} (h : SOk l) : nn3 (uSs l) := uSs_nn _ l (Nat.lt_succ_self _) h
theorem SOk_take : ∀ {l : List GStep} (i : Nat), SOk l → SOk (l.take i)
 | [], i, h => by rw [List.take_nil]; exact h
 | s :: l, 0, h => by rw [List.take_zero, SOk]; trivial
 | s :: l, i + 1, h => by
  rw [SOk] at h
  rw [List.take_succ_cons, SOk]
  exact ⟨h.1, h.2.1, h.2.2.1, h.2.2.2.1, h.2.2.2.2.1, h.2.2.2.2.2.1, SOk_take i h.2.2.2.2.2.2⟩
def M3 (a : Int × Int × Int) : Most := ⟨a.1, a.2.1, a.2.2⟩
def big3 : Int × Int × Int := (1099511627776, 1099511627776, 1099511627776)
def lim3 : Int × Int × Int := (4097, 9, 67108865)
theorem mul_bd2 {n x : Int} (h1 : 0 ≤ n) (h2 : n ≤ 4096) (h3 : 0 ≤ x) (h4 : x ≤ 1200000000000) : 0 ≤ n * x ∧ n * x ≤ 4915200000000000 := by
 have e1 : n * x ≤ 4096 * x := Int.mul_le_mul_of_nonneg_right h2 h3
 have e2 : 0 ≤ n * x := Int.mul_nonneg h1 h3
 omega
theorem ifmin1 (w c : Int) : (if c < w then c else w) = min w c := by omega
theorem ifmin2 (w c : Int) : (if w < c then w else c) = min w c := by omega
theorem maxcut (a b c : Int) : (if min a c < min b c then min b c else min a c) = min (max a b) c := by omega
theorem maxcut2 (a b c : Int) : (if min b c < min a c then min a c else min b c) = min (max a b) c := by omega
section
variable {C x y m k n a : Int} (h0 : 0 ≤ C) (h1 : C ≤ 1099511627776) (hx : 0 ≤ x)
include h0 h1 hx
theorem cutA (hy : 0 ≤ y) (hy2 : y ≤ 67108864) : min (i64.wrap (min x C + y)) C = min (x + y) C := by
 rw [wrap_id (by omega) (by omega)]
 omega
theorem cutB (hm : 0 ≤ m) (hk : 0 ≤ k) (hk2 : k ≤ 67108864) : min (i64.wrap (min x C + i64.wrap (k + min m C))) C = min (x + (k + m)) C := by
 have : i64.wrap (k + min m C) = k + min m C := wrap_id (by omega) (by omega)
 rw [this, wrap_id (by omega) (by omega)]
 omega
theorem cutB0 (hm : 0 ≤ m) : min (i64.wrap (min x C + min m C)) C = min (x + m) C := by
 rw [wrap_id (by omega) (by omega)]
 omega
theorem cutY {z : Int} (hz : 0 ≤ z) (hy : 0 ≤ y) (hy2 : y ≤ 4915200000000001) (h : min y C = min z C) : min (i64.wrap (min x C + y)) C = min (x + z) C := by
 rw [wrap_id (by omega) (by omega)]
 omega
omit hx in
theorem cutNk (hn : 0 ≤ n) (hn2 : n ≤ 4096) (ha : 0 ≤ a) (hk : 0 ≤ k) (hk2 : k ≤ 67108864) : i64.wrap (n * i64.wrap (k + min a C)) = n * (k + min a C) ∧ 0 ≤ n * (k + min a C) ∧ n * (k + min a C) ≤ 4915200000000000 ∧ 0 ≤ n * (k + a) ∧ min (n * (k + min a C)) C = min (n * (k + a)) C := by
 have e1 : i64.wrap (k + min a C) = k + min a C := wrap_id (by omega) (by omega)
 have e2 := mul_bd2 (x := k + min a C) hn hn2 (by omega) (by omega)
 rw [e1]
 exact ⟨wrap_id (by omega) (by omega), e2.1, e2.2, Int.mul_nonneg hn (by omega), min_mul hn hk ha h0⟩
theorem cutN (hn : 0 ≤ n) (hn2 : n ≤ 4096) (ha : 0 ≤ a) (hk : 0 ≤ k) (hk2 : k ≤ 67108864) : min (i64.wrap (min x C + i64.wrap (n * i64.wrap (k + min a C)))) C = min (x + n * (k + a)) C := by
 obtain ⟨q1, q2, q3, q4, q5⟩ := cutNk h0 h1 hn hn2 ha hk hk2
 rw [q1]
 exact cutY h0 h1 hx q4 q2 (by omega) q5
theorem cutN1 (hn : 0 ≤ n) (hn2 : n ≤ 4096) (ha : 0 ≤ a) : min (i64.wrap (min x C + i64.wrap (1 + i64.wrap (n * i64.wrap (1 + min a C))))) C = min (x + (1 + n * (1 + a))) C := by
 obtain ⟨q1, q2, q3, q4, q5⟩ := cutNk (k := 1) h0 h1 hn hn2 ha (by omega) (by omega)
 rw [q1]
 generalize n * (1 + min a C) = y at *
 rw [show i64.wrap (1 + y) = 1 + y from wrap_id (by omega) (by omega)]
 exact cutY h0 h1 hx (by omega) (by omega) (by omega) (by omega)
theorem cutN0 (hn : 0 ≤ n) (hn2 : n ≤ 4096) (ha : 0 ≤ a) : min (i64.wrap (min x C + i64.wrap (n * min a C))) C = min (x + n * a) C := by
 obtain ⟨q1, q2, q3, q4, q5⟩ := cutNk (k := 0) h0 h1 hn hn2 ha (by omega) (by omega)
 rw [Int.zero_add] at q2 q3 q4 q5
 rw [Int.zero_add] at q5
 rw [show i64.wrap (n * min a C) = n * min a C from wrap_id (by omega) (by omega)]
 exact cutY h0 h1 hx q4 q2 (by omega) q5
end
theorem s101_eq (M : List GStep → Option E101) (l : List GStep) (hl : l.length ≤ 1000000) (ho : SOk l) (hM : ∀ s ∈ l, M s.fThen = some (M3 (cut3 big3 (uSs s.fThen))) ∧ M s.fElse = some (M3 (cut3 big3 (uSs s.fElse)))) : s101 M l = some (M3 (cut3 big3 (uSs l))) := by
  obtain ⟨v, e1, hv⟩ := loopI (rnd := n101_0 M) l.length (fun i (b : Most) => ⟨l, (l.length : Int), (i : Int), ⟨0, 0, 0⟩, b⟩) (fun i b => b = M3 (cut3 big3 (uSs (l.take i)))) (fun i bb hi hb => by
    have hw := w1L hi hl
    obtain ⟨k1, k2⟩ := hM _ (get_memL hi)
    obtain ⟨⟨c1, c2⟩, hN, _, _, o1, o2⟩ := SOk_mem ho _ (get_memL hi)
    obtain ⟨x1, x2, x3⟩ := uSs_nn' (SOk_take i ho)
    obtain ⟨a1, a2, a3⟩ := uSs_nn' o1
    obtain ⟨b1, b2, b3⟩ := uSs_nn' o2
    refine ⟨M3 (cut3 big3 (uSs (l.take (i + 1)))), ?_, rfl⟩
    have hi1 : (i : Int) < (l.length : Int) := by omega
    have hi0 : (0 : Int) ≤ (i : Int) := by omega
    rw [take_succL hi, uSs_snoc]
    generalize uSs (l.take i) = x at *
    generalize uSs l[i]!.fThen = a at *
    generalize uSs l[i]!.fElse = b at *
    obtain ⟨X1, X2, X3⟩ := x
    obtain ⟨A1, A2, A3⟩ := a
    obtain ⟨B1, B2, B3⟩ := b
    have hb : bb = ⟨min X1 1099511627776, min X2 1099511627776, min X3 1099511627776⟩ := hb
    have k1 : M l[i]!.fThen = some ⟨min A1 1099511627776, min A2 1099511627776, min A3 1099511627776⟩ := k1
    have k2 : M l[i]!.fElse = some ⟨min B1 1099511627776, min B2 1099511627776, min B3 1099511627776⟩ := k2
    subst hb
    have z0 : (0 : Int) ≤ 1099511627776 := by decide
    have z1 : (1099511627776 : Int) ≤ 1099511627776 := by decide
    dsimp only at x1 x2 x3 a1 a2 a3 b1 b2 b3
    unfold n101_0
    simp only [Int.toNat_natCast, hi1, k1, k2, hw]
    by_cases h1 : l[i]!.fDo = 1
    · have e : uS1 l[i]! (A1, A2, A3) (B1, B2, B3) = (1, 1, l[i]!.fCost) := by unfold uS1; rw [if_pos h1]
      rw [decide_eq_true h1, cond_true, e, ifmin1, ifmin1, ifmin1, cutA z0 z1 x1 (by omega) (by omega), cutA z0 z1 x2 (by omega) (by omega), cutA z0 z1 x3 c1 c2]
      rfl
    · rw [decide_eq_false h1, cond_false]
      by_cases h3 : l[i]!.fDo = 3
      · have e : uS1 l[i]! (A1, A2, A3) (B1, B2, B3) = (1 + max A1 B1, max A2 B2, l[i]!.fCost + max A3 B3) := by unfold uS1; rw [if_neg h1, if_pos h3]
        rw [decide_eq_true h3, cond_true, e, maxcut, maxcut, maxcut, ifmin1, ifmin1, ifmin1, cutB z0 z1 x1 (by omega) (by omega) (by omega), cutB0 z0 z1 x2 (by omega), cutB z0 z1 x3 (by omega) c1 c2]
        rfl
      · rw [decide_eq_false h3, cond_false]
        by_cases h4 : l[i]!.fDo = 4
        · obtain ⟨n1, n2⟩ := hN h4
          have e : uS1 l[i]! (A1, A2, A3) (B1, B2, B3) = (1 + l[i]!.fN * (1 + A1), l[i]!.fN * A2, l[i]!.fN * (l[i]!.fCost + A3)) := by unfold uS1; rw [if_neg h1, if_neg h3, if_pos h4]
          rw [decide_eq_true h4, cond_true, e, ifmin1, ifmin1, ifmin1, cutN1 z0 z1 x1 n1 n2 a1, cutN0 z0 z1 x2 n1 n2 a2, cutN z0 z1 x3 n1 n2 a3 c1 c2]
          rfl
        · have e : uS1 l[i]! (A1, A2, A3) (B1, B2, B3) = (1, 0, l[i]!.fCost) := by unfold uS1; rw [if_neg h1, if_neg h3, if_neg h4]
          rw [decide_eq_false h4, cond_false, e, ifmin1, ifmin1, ifmin1, cutA z0 z1 x1 (by omega) (by omega), cutA z0 z1 x2 (by omega) (by omega), cutA z0 z1 x3 c1 c2]
          rfl) (fun b _ => by unfold n101_0; simp) (b := ⟨0, 0, 0⟩) (by rw [List.take_zero, show uSs [] = (0, 0, 0) by rw [uSs]]; rfl)
  have e1' : a101_0 M ⟨l, (l.length : Int), 0, ⟨0, 0, 0⟩, ⟨0, 0, 0⟩⟩ = some ⟨l, (l.length : Int), (l.length : Int), ⟨0, 0, 0⟩, v⟩ := e1
  unfold s101
  simp_all
theorem m101_eq : ∀ (n : Nat) (l : List GStep), SizeOf.sizeOf l < n → nSs l ≤ 1000 → SOk l → m101 n l = some (M3 (cut3 big3 (uSs l)))
 | 0, _, h, _, _ => by omega
 | n + 1, l, h, h2, ho => s101_eq (m101 n) l (by have := nSs_len l; omega) ho (fun s hs => ⟨m101_eq n _ (by have := sizeOf_then hs; omega) (by have := then_le hs; omega) (SOk_mem ho s hs).2.2.2.2.1, m101_eq n _ (by have := sizeOf_then hs; omega) (by have := then_le hs; omega) (SOk_mem ho s hs).2.2.2.2.2⟩)
theorem r101_eq (l : List GStep) (h : nSs l ≤ 1000) (ho : SOk l) : r101 l = some (M3 (cut3 big3 (uSs l))) := lim_eq (SizeOf.sizeOf l + 1) fun n hn => m101_eq n l (by omega) h ho
theorem s56_eq (M : List GStep → Option E56) (l : List GStep) (hl : l.length ≤ 1000000) (ho : SOk l) (hM : ∀ s ∈ l, M s.fThen = some (cut3 lim3 (uSs s.fThen)) ∧ M s.fElse = some (cut3 lim3 (uSs s.fElse))) : s56 M l = some (cut3 lim3 (uSs l)) := by
  obtain ⟨v, e1, hv⟩ := loopI (rnd := n56_0 M) l.length (fun i (b : Int × Int × Int) => ⟨l, b.1, b.2.1, b.2.2, (i : Int)⟩) (fun i b => b = cut3 lim3 (uSs (l.take i))) (fun i bb hi hb => by
    have hw := w1L hi hl
    obtain ⟨k1, k2⟩ := hM _ (get_memL hi)
    obtain ⟨⟨c1, c2⟩, hN, hT, hE, o1, o2⟩ := SOk_mem ho _ (get_memL hi)
    obtain ⟨x1, x2, x3⟩ := uSs_nn' (SOk_take i ho)
    obtain ⟨a1, a2, a3⟩ := uSs_nn' o1
    obtain ⟨b1, b2, b3⟩ := uSs_nn' o2
    have zT : l[i]!.fDo ≠ 3 → l[i]!.fDo ≠ 4 → uSs l[i]!.fThen = (0, 0, 0) := fun h3 h4 => by rw [hT h3 h4, uSs]
    have zE : l[i]!.fDo ≠ 3 → uSs l[i]!.fElse = (0, 0, 0) := fun h3 => by rw [hE h3, uSs]
    refine ⟨cut3 lim3 (uSs (l.take (i + 1))), ?_, rfl⟩
    have hi1 : (i : Int) < (l.length : Int) := by omega
    have hi0 : (0 : Int) ≤ (i : Int) := by omega
    rw [take_succL hi, uSs_snoc]
    generalize uSs (l.take i) = x at *
    generalize uSs l[i]!.fThen = a at *
    generalize uSs l[i]!.fElse = b at *
    obtain ⟨X1, X2, X3⟩ := x
    obtain ⟨A1, A2, A3⟩ := a
    obtain ⟨B1, B2, B3⟩ := b
    have hb : bb = (min X1 4097, min X2 9, min X3 67108865) := hb
    have k1 : M l[i]!.fThen = some (min A1 4097, min A2 9, min A3 67108865) := k1
    have k2 : M l[i]!.fElse = some (min B1 4097, min B2 9, min B3 67108865) := k2
    subst hb
    have z0 : (0 : Int) ≤ 4097 := by decide
    have z1 : (4097 : Int) ≤ 1099511627776 := by decide
    have y0 : (0 : Int) ≤ 9 := by decide
    have y1 : (9 : Int) ≤ 1099511627776 := by decide
    have u0 : (0 : Int) ≤ 67108865 := by decide
    have u1 : (67108865 : Int) ≤ 1099511627776 := by decide
    dsimp only at x1 x2 x3 a1 a2 a3 b1 b2 b3
    unfold n56_0
    simp only [Int.toNat_natCast, hi1, hi0, decide_true, cond_true, and_self, if_true, k1, k2, hw, m113_eq, m112_eq, ifmin2, maxcut2]
    by_cases h4 : l[i]!.fDo = 4
    · obtain ⟨n1, n2⟩ := hN h4
      have h1 : ¬ l[i]!.fDo = 1 := by omega
      have h3 : ¬ l[i]!.fDo = 3 := by omega
      have e : uS1 l[i]! (A1, A2, A3) (B1, B2, B3) = (1 + l[i]!.fN * (1 + A1), l[i]!.fN * A2, l[i]!.fN * (l[i]!.fCost + A3)) := by unfold uS1; rw [if_neg h1, if_neg h3, if_pos h4]
      rw [decide_eq_true h4, decide_eq_false h1, cond_true, cond_false, e, cutN1 z0 z1 x1 n1 n2 a1, cutN0 y0 y1 x2 n1 n2 a2, cutN u0 u1 x3 n1 n2 a3 c1 c2]
      rfl
    · rw [decide_eq_false h4, cond_false]
      by_cases h1 : l[i]!.fDo = 1
      · have h3 : ¬ l[i]!.fDo = 3 := by omega
        have ea := zT h3 h4
        have eb := zE h3
        cases ea
        cases eb
        have e : uS1 l[i]! (0, 0, 0) (0, 0, 0) = (1, 1, l[i]!.fCost) := by unfold uS1; rw [if_pos h1]
        rw [decide_eq_true h1, cond_true, e, cutB z0 z1 x1 (by omega) (by omega) (by omega), cutA y0 y1 x2 (by omega) (by omega), cutB u0 u1 x3 (by omega) c1 c2]
        simp only [cut3, lim3, add3, Int.max_self, Int.add_zero]
      · rw [decide_eq_false h1, cond_false, cutB z0 z1 x1 (by omega) (by omega) (by omega), cutB0 y0 y1 x2 (by omega), cutB u0 u1 x3 (by omega) c1 c2]
        by_cases h3 : l[i]!.fDo = 3
        · have e : uS1 l[i]! (A1, A2, A3) (B1, B2, B3) = (1 + max A1 B1, max A2 B2, l[i]!.fCost + max A3 B3) := by unfold uS1; rw [if_neg h1, if_pos h3]
          rw [e]
          rfl
        · have ea := zT h3 h4
          have eb := zE h3
          cases ea
          cases eb
          have e : uS1 l[i]! (0, 0, 0) (0, 0, 0) = (1, 0, l[i]!.fCost) := by unfold uS1; rw [if_neg h1, if_neg h3, if_neg h4]
          rw [e]
          simp only [cut3, lim3, add3, Int.max_self, Int.add_zero]) (fun b _ => by unfold n56_0; simp) (b := (0, 0, 0)) (by rw [List.take_zero, show uSs [] = (0, 0, 0) by rw [uSs]]; rfl)
  have e1' : a56_0 M ⟨l, 0, 0, 0, 0⟩ = some ⟨l, v.1, v.2.1, v.2.2, (l.length : Int)⟩ := e1
  unfold s56
  rw [e1']
  rw [hv]
  simp
theorem m56_eq : ∀ (n : Nat) (l : List GStep), SizeOf.sizeOf l < n → nSs l ≤ 1000 → SOk l → m56 n l = some (cut3 lim3 (uSs l))
 | 0, _, h, _, _ => by omega
 | n + 1, l, h, h2, ho => s56_eq (m56 n) l (by have := nSs_len l; omega) ho (fun s hs => ⟨m56_eq n _ (by have := sizeOf_then hs; omega) (by have := then_le hs; omega) (SOk_mem ho s hs).2.2.2.2.1, m56_eq n _ (by have := sizeOf_then hs; omega) (by have := then_le hs; omega) (SOk_mem ho s hs).2.2.2.2.2⟩)
theorem r56_eq (l : List GStep) (h : nSs l ≤ 1000) (ho : SOk l) : r56 l = some (cut3 lim3 (uSs l)) := lim_eq (SizeOf.sizeOf l + 1) fun n hn => m56_eq n l (by omega) h ho
theorem m48_eq (f : Flat) (h : nSs f.fBody + nTs (f.fHatches.map (·.fTerm)) ≤ 900) (hh : f.fHatches.length ≤ 1000000) (hvl : f.fVars.length ≤ 1000000) : m48 f = some (chk f) := by
  obtain ⟨r, q, e1, e2, e3⟩ := sizes56 f h hh
  unfold m48 chk
  rw [e1]
  dsimp only
  rw [e2]
  dsimp only
  rw [decide_eq_false (show ¬ ((f.fHatches.length : Int) < (f.fHatches.length : Int)) by omega), cond_false, m96_eq, e3]
  unfold sizesB
  generalize (f.fHatches.all fun h => decide (dT h.fTerm ≤ 12)) = x
  generalize decide (dSs f.fBody ≤ 12) = y
  generalize tDeep f.fBody = z
  by_cases h1 : 64 < (f.fVars.length : Int)
  · grind
  by_cases h2 : 8 < (f.fHatches.length : Int)
  · grind
  rw [decide_eq_false h1, decide_eq_false h2, decide_eq_true (show f.fVars.length ≤ 64 by omega), decide_eq_true (show f.fHatches.length ≤ 8 by omega)]
  simp only [Bool.true_and]
  cases hx : (x && y && !z) with
  | false => rfl
  | true =>
    rw [m98_eq f.fVars hvl]
    dsimp only [Bool.not_true, cond_false]
    rw [if_neg (by decide)]
    by_cases hvc : varsC f.fVars = 0
    case neg => simp [hvc]
    have hv : VarsOk f.fVars := by
      apply varsOk_of
      unfold varsC at hvc
      by_cases h0 : firstC (varC f.fVars) f.fVars 0 = 0
      · exact h0
      · rw [if_pos h0] at hvc; exact absurd hvc h0
    rw [decide_eq_true hvc, cond_true, cond_false, if_neg (by simpa using hvc), m99_eq f hv hh]
    dsimp only
    by_cases hhc : firstC (hatC f) f.fHatches 0 = 0
    case neg => simp [hhc]
    rw [decide_eq_true hhc, cond_true, cond_false, if_neg (by simpa using hhc), r100_eq f hv f.fBody true (by omega)]
    dsimp only
    by_cases hsc : stepC f true f.fBody = 0
    case neg => simp [hsc]
    have ho : SOk f.fBody := SOk_of f _ f.fBody true (Nat.lt_succ_self _) hsc
    rw [decide_eq_true hsc, cond_true, cond_false, if_neg (by simpa using hsc)]
    have e := r101_eq f.fBody (by omega) ho
    unfold overB
    generalize uSs f.fBody = u at e ⊢
    obtain ⟨a, b, c⟩ := u
    have e : r101 f.fBody = some ⟨min a 1099511627776, min b 1099511627776, min c 1099511627776⟩ := e
    rw [e]
    by_cases a1 : 4096 < a
    · simp [a1, show 4096 < min a 1099511627776 by omega]
    · by_cases b1 : 8 < b
      · simp [b1, show 8 < min b 1099511627776 by omega]
      · by_cases d1 : 67108864 < c
        · simp [d1, show 67108864 < min c 1099511627776 by omega]
        · simp [a1, b1, d1, show ¬ 4096 < min a 1099511627776 by omega, show ¬ 8 < min b 1099511627776 by omega, show ¬ 67108864 < min c 1099511627776 by omega]
theorem m15_eq (f : Flat) (h : nSs f.fBody + nTs (f.fHatches.map (·.fTerm)) ≤ 900) (hh : f.fHatches.length ≤ 1000000) (hvl : f.fVars.length ≤ 1000000) : m15 f = some (chk f) := by
  unfold m15 chk
  rw [m50_eq f h hh]
  dsimp only
  cases hx : sizesB f with
  | false => rfl
  | true =>
    rw [m51_eq f.fVars hvl]
    dsimp only [cond_true, cond_false]
    rw [if_neg (by decide)]
    by_cases hvc : varsC f.fVars = 0
    case neg => simp [hvc]
    have hv : VarsOk f.fVars := by
      apply varsOk_of
      unfold varsC at hvc
      omega
    obtain ⟨i, e1, hc⟩ := a15_0_eq f hv hh
    rw [decide_eq_true hvc, cond_true, cond_false, if_neg (by simpa using hvc), e1]
    dsimp only
    rcases hc with ⟨rfl, hc⟩ | ⟨hi, h0, hc⟩
    · rw [if_neg (show ¬ (firstC (hatC f) f.fHatches 0 ≠ 0) by rw [hc]; simp), decide_eq_false (show ¬ ((f.fHatches.length : Int) < (f.fHatches.length : Int)) by omega), cond_false, r55_eq f hv f.fBody true (by omega)]
      dsimp only
      by_cases hsc : stepC f true f.fBody = 0
      case neg => simp [hsc]
      have ho : SOk f.fBody := SOk_of f _ f.fBody true (Nat.lt_succ_self _) hsc
      rw [decide_eq_true hsc, cond_true, cond_false, if_neg (show ¬ (stepC f true f.fBody ≠ 0) by rw [hsc]; simp)]
      have e := r56_eq f.fBody (by omega) ho
      unfold overB
      generalize uSs f.fBody = u at e ⊢
      obtain ⟨a, b, c⟩ := u
      have e : r56 f.fBody = some (min a 4097, min b 9, min c 67108865) := e
      rw [e]
      by_cases a1 : 4096 < a
      · simp [a1, show 4096 < min a 4097 by omega]
      · by_cases b1 : 8 < b
        · simp [b1, show 8 < min b 9 by omega]
        · by_cases d1 : 67108864 < c
          · simp [d1, show 67108864 < min c 67108865 by omega]
          · simp [a1, b1, d1, show ¬ 4096 < min a 4097 by omega, show ¬ 8 < min b 9 by omega, show ¬ 67108864 < min c 67108865 by omega]
    · obtain ⟨j, h2, h3⟩ := a15_1_eq f hh i (by omega) f.fHatches[i]!
      rw [if_pos (show firstC (hatC f) f.fHatches 0 ≠ 0 by rw [hc]; exact h0), hc]
      have hi1 : (i : Int) < (f.fHatches.length : Int) := by omega
      have hi0 : (0 : Int) ≤ (i : Int) := by omega
      revert h0
      unfold hatC
      simp only [Int.toNat_natCast, GTerm.eta, Hatch.eta, m53_eq, m52_eq, h2, m54_eq f.fVars hv, hi1]
      generalize nameB f.fHatches[i]!.fName = B
      generalize ((f.fHatches.take i).any fun w => w.fName.toList == f.fHatches[i]!.fName.toList) = A at h3
      generalize boundB f.fHatches[i]!.fLow f.fHatches[i]!.fHigh = C
      generalize termC f.fVars true f.fHatches[i]!.fTerm = T
      rcases h3 with ⟨rfl, rfl⟩ | ⟨hj, h4, rfl⟩
      · cases B <;> cases C <;> by_cases hT : T = 0 <;> simp [hT]
      · have hj1 : (j : Int) < (i : Int) := by omega
        have hj2 : (j : Int) < (f.fHatches.length : Int) := by omega
        have hj0 : (0 : Int) ≤ (j : Int) := by omega
        simp only [hj0, hj1, hj2, h4, and_self, if_true, decide_true, cond_true]
        cases B <;> simp
theorem chk_vars {f : Flat} (h : chk f = 0) : VarsOk f.fVars := by
  unfold chk at h
  by_cases h1 : sizesB f = false
  · simp_all
  by_cases hvc : varsC f.fVars = 0
  · apply varsOk_of
    unfold varsC at hvc
    omega
  · omega
theorem few_20 {f : Flat} (h : few f 20 200 = true) : nSs f.fBody + nTs (f.fHatches.map (·.fTerm)) ≤ 900 ∧ f.fHatches.length ≤ 1000000 ∧ f.fVars.length ≤ 20 := by
  unfold few at h; simp at h; omega
theorem vok_of {f : Flat} (h : few f 20 200 = true) (hc : chk f = 0) : VOk f.fVars :=
 ⟨by have := (few_20 h).2.2; omega, fun i hi => by
  have := chk_vars hc _ (List.getElem_mem hi)
  rwa [getElem!_pos f.fVars i hi]⟩
theorem m14_eq (f : Flat) (h : few f 20 200 = true) : m14 f = some (if chk f = 0 then ((slotsP f.fVars).1, 0) else ([], chk f)) := by
  obtain ⟨h1, h2, h3⟩ := few_20 h
  unfold m14
  rw [m48_eq f h1 h2 (by omega)]
  by_cases hc : chk f = 0
  · simp [hc, (m49_eq f (vok_of h hc)).1]
  · simp [hc]
theorem a17_same (l : List Slot) (hl : l.length ≤ 1000000) : m17 l l = some true := by
 obtain ⟨v, q, _⟩ := loopI (rnd := n17_0) l.length (fun i (_ : Unit) => ⟨l, l, (l.length : Int), (i : Int)⟩) (fun _ _ => True) (fun i z hi _ => by
  have i1 : (i : Int) < (l.length : Int) := by omega
  refine ⟨(), ?_, trivial⟩
  unfold n17_0
  have e : i64.wrap ((i : Int) + 1) = ((i + 1 : Nat) : Int) := by rw [wrap_id (by omega) (by omega)]; rfl
  simp only [i1, decide_true, cond_true, cond_false, e, Int.natCast_nonneg, and_self, if_true]) (fun z _ => by unfold n17_0; simp) (b := ()) trivial
 unfold m17
 have e : a17_0 ⟨l, l, (l.length : Int), 0⟩ = some ⟨l, l, (l.length : Int), (l.length : Int)⟩ := q
 simp [e]
theorem law3 (f : Flat) (h : few f 20 200 = true) : ∃ r2 r3, m14 f = some r2 ∧ m15 f = some r3 ∧ ((r3 ≠ 0 → r2.2 = r3 ∧ r2.1 = []) ∧ (r3 = 0 → r2.2 = 0 ∧ ∃ r5, m16 f = some r5 ∧ m17 r2.1 r5.1 = some true)) := by
 obtain ⟨h1, h2, h3⟩ := few_20 h
 refine ⟨_, _, m14_eq f h, m15_eq f h1 h2 (by omega), fun hc => by simp [hc], fun hc => ?_⟩
 have hv := vok_of h hc
 simp only [hc, if_true, true_and]
 exact ⟨_, m16_eq f hv, a17_same _ (by have := (m49_eq f hv).2.1; omega)⟩
def bvF (n : Int) (b : Bool) : Int := 2 * n + (if b then 1 else 0)
def bv (l : List Bool) : Int := l.foldl bvF 0
structure SlOk (vs : List GVar) (n : Int) (t : Slot) : Prop where
 v0 : 0 ≤ t.fVar
 v1 : t.fVar < (vs.length : Int)
 f0 : 0 ≤ t.fFirst
 b0 : 0 ≤ t.fBits
 b1 : t.fBits ≤ 24
 l : t.fFirst + t.fBits ≤ n
structure L66_1 where
 t6 : List Int
 t25 : List (List Int)
 t26 : Int
 t27 : Int
structure L66_0 where
 t0 : List (List Int)
 t3 : Int
 t9 : List (List Int)
 t10 : Int
 t11 : Int
structure L27_1 where
 t11 : List Slot
 t14 : List Bool
 t16 : Int
 t18 : Int
 t51 : List Int
 t52 : Int
 t53 : Int
 b0 : Flat
 b3 : Slot
structure L27_0 where
 t11 : List Slot
 t14 : List Bool
 t51 : List Int
 t52 : Int
 t53 : Int
 b0 : Flat
end Go.Proofs.YtghilkcphindjaaGreat
end
noncomputable section
namespace Go.Iv
variable [U : Uni]
open Go Go.RowKit Go.Shelf Go.Proofs
def Rnd2 (C : Cx) (n : Nat) (σ : List Res) (w : World) (J : List Nat → List Res → Prop) (EA : Env) (a : Act) (W : World) : Prop :=
 ∃ σ1, (∃ pre, J pre σ1) ∧ Sim C n EA σ1 a W ∧ a.defers = [] ∧ Lay C σ w σ1 W ∧ w.heap.size ≤ W.heap.size
theorem Rnd2.own {C : Cx} {n : Nat} {σ : List Res} {w : World} (hw : C.w0.heap.size ≤ w.heap.size) (J : List Nat → List Res → Prop) (hn : ∀ pre σ, J pre σ → NoMp σ) (EA : Env) (a : Act) : OwnFrom w.heap.size (fun (_ : Unit) => Rnd2 C n σ w J EA a) := fun _ W W' row ⟨σ1, ⟨pre, h1⟩, h2, h5, h3, h4⟩ hg hr => by
 have ht := tn_grown (C := C) hg (fun r e => ⟨by have := (hr r e).1; omega, (hr r e).2⟩) h2.good.kept.size
 refine ⟨σ1, ⟨pre, h1⟩, ⟨.nil h5, h2.size, h2.slots.turn ht, h2.good.turn0 (hn _ _ h1) ht⟩, h5, fun b hb hA => ⟨(h3 b hb hA).1, ?_⟩, Nat.le_trans h4 hg.size⟩
 exact (hg.block b (by omega) (fun e => by have := (hr b e.symm).1; omega)).trans (h3 b hb hA).2
theorem CW.rfa {P : Program} {C : Cx} {n : Nat} {Q : Exit → Env → List Res → Prop} {E : Env} {σ : List Res} {g : Operand} {ps : Array Tmp} {assign body : Code} {gf : Nat} {caps : List AV} {es : List (List AV)}
    (J : List Nat → List Res → Prop) (EA : Nat → Env) (nJ : ∀ pre σ, J pre σ → NoMp σ) (hb : ∀ C W pre pre' σ σ', J pre σ → J pre' σ' → Good C σ W → Good C σ' W → blks σ = blks σ') (hg : E.ev g = some (.fn (.func gf) caps)) (eg : Enters P gf) (hit : Iter P gf caps es) (hps : ∀ i, i < es.length → es[i]!.length = ps.size) (hpn : ∀ p ∈ ps.toList, p < n) (h0 : J [] σ)
    (hassign : ∀ C' pre i σ', i < es.length → J pre σ' → CWR P C' n assign (fun e E1 σ1 => e = .normal ∧ Sub (EA i) E1 ∧ ∃ σ2, J pre σ2 ∧ List.Sublist σ2 σ1) (penv ps.toList es[i]! E) σ')
    (hbody : ∀ C' pre i σ', i < es.length → pre.length < es.length → J pre σ' → CWR P C' n body (fun e _ σ2 => e = .normal ∧ ∃ σ3, J (pre ++ [i]) σ3 ∧ List.Sublist σ3 σ2) (EA i) σ')
    (hdone : ∀ σ', J (List.range es.length) σ' → Q .normal E σ') : CW P C n (.rangeFunc g ps assign body) Q E σ := fun a w ha => by
  have hgv := ha.slots.ops g _ hg
  obtain ⟨lb, hlb, hev⟩ : ∃ lb : List Value, RelL (al C σ) w caps lb ∧ a.eval g = .func (.func gf) #[] lb.toArray := by
    generalize hx : AVq.fn (.func gf) caps = x at hgv
    generalize a.eval g = v at hgv
    cases hgv with
    | fn f cs us hl hr => cases hx; exact ⟨us, ⟨hl, hr⟩, rfl⟩
    | _ => cases hx
  obtain ⟨us, hul, hur, hseq⟩ := hit (al C σ) w lb hlb
  have hw0 : C.w0.heap.size ≤ w.heap.size := ha.good.kept.size
  have hKt : ∀ {A B D : World}, (∀ b, b < w.heap.size → al C σ b → B.heap[b]? = A.heap[b]?) → (∀ b, b < w.heap.size → al C σ b → D.heap[b]? = B.heap[b]?) → (∀ b, b < w.heap.size → al C σ b → D.heap[b]? = A.heap[b]?) := fun h k b hb hA => (k b hb hA).trans (h b hb hA)
  have after : ∀ (a : Act) D W σ', Lay C σ w σ' W → NoMp σ' → Good C σ' W → w.heap.size ≤ W.heap.size → w.heap.size ≤ D → W.heap[D]? = some (.deferred (some [])) → Sim C n E σ a w → Sim C n E σ' { a with defers := { target := .collected D, args := #[] } :: a.defers } W := fun a D W σ' hL hm hG hSz hD hdf ha => by
    have hcell : ∀ (b : Nat) ds, W.heap[b]? = some (Obj.deferred ds) → b ∉ blks σ' := fun b ds hb hx => by
      obtain ⟨r, h1, h2⟩ := mem_blks.1 hx
      obtain ⟨cs, T, m, h3⟩ := (hG.res r h1).cells (hm r h1) h2
      rw [hb] at h3
      cases h3
    refine ⟨?_, ha.size, fun s av q => ?_, hG⟩
    · obtain ⟨Ds, h1, h2, h3⟩ := ha.defers
      refine ⟨D :: Ds, by simp [h1], List.nodup_cons.2 ⟨fun hx => by have := (h3 D hx).1; omega, h2⟩, fun D' hD' => ?_⟩
      rcases List.mem_cons.1 hD' with rfl | hD'
      · exact ⟨(Array.getElem?_eq_some_iff.1 hdf).1, by omega, hcell _ _ hdf, hdf⟩
      · obtain ⟨q1, q2, q3, q4⟩ := h3 D' hD'
        have q5 := (hL D' q1 ⟨.inr (.inr q2), q3⟩).2.trans q4
        exact ⟨(Array.getElem?_eq_some_iff.1 q5).1, q2, hcell _ _ q5, q5⟩
    · obtain ⟨v, q1, q2⟩ := ha.slots s av q
      exact ⟨v, q1, q2.mono fun b hb hA => hL b hb hA⟩
  refine wpIn_wide.1 (wpIn_rangeFunc_ownH (F := Fence.wide) (n := 2) (g := g) (ps := ps) (assign := assign) (body := body) (α := Fin es.length) (w0 := w) (gf := gf) (lb := lb.toArray) rfl (by omega) hev trivial eg hseq hKt (fun W l o o' hl _ _ _ b hb _ => World.putObj_heap_other (by omega)) (Below.refl _ _) (fun x => ?_)
    (fun pre W => Mid C σ w (J (pre.map (·.1))) W) (fun c pre W => False)
    (Mid.own (α := List (Fin es.length)) hw0 (fun pre => J (pre.map (·.1))) (fun _ => nJ _)) (fun c pre W W' row h hg hr => h.elim) ⟨σ, h0, ha.good, fun b _ hA => ⟨hA, rfl⟩, Nat.le_refl _⟩
    (fun x a' => Rnd2 C n σ w J (EA x.1) a') (fun x a' => Rnd2.own hw0 J nJ _ a') ?_ ?_ ?_ ?_)
  · have := (hur x.1 x.2).1
    rw [List.size_toArray, this]
    exact hps x.1 x.2
  · intro l pre x W K ⟨σ', hJ, hG, hL, hS⟩ hK
    have hsl : Slots (al ⟨W, al C σ', blks σ'⟩ σ') W (penv ps.toList es[x.1]! E) (setAll a.tmps (ps.toList.zip us[x.1]!)) := by
      refine Slots.penv _ _ _ _ _ (fun t av ht => ?_) ?_ (fun p hp => by rw [ha.size]; exact hpn p hp) (by rw [hps x.1 x.2]; simp)
      · obtain ⟨v, q1, q2⟩ := ha.slots t av ht
        exact ⟨v, q1, q2.mono fun b hb hA => ⟨⟨.inl (hL b hb hA).1, (hL b hb hA).1.2⟩, (hL b hb hA).2⟩⟩
      · exact (hur x.1 x.2).mono fun b hb hA => ⟨⟨.inl (hL b hb hA).1, (hL b hb hA).1.2⟩, (hL b hb hA).2⟩
    rw [setAll_eq]
    refine wpIn_mono (hassign ⟨W, al C σ', blks σ'⟩ _ x.1 σ' x.2 hJ l 0 _ W ⟨.nil rfl, (setAll_size _ _).trans ha.size, hsl, hG.fresh⟩ rfl) ?_
    · rintro e a' W' ⟨hd1, E1, σ1, hs1, rfl, hka, σ2, hj2, hsub⟩
      have t := tr_out hG hs1.good
      have hL2 := (hL.tr t hS).less hsub
      have hS2 := Nat.le_trans hS t.kp.size
      refine hK a' W' (keepsFrom_tr _ hG (nJ _ _ hJ) t) (fun b hb hA => t.kp.block b (Nat.lt_of_lt_of_le hb hS) (hL b hb hA).1.2) ⟨σ2, hj2, t.good.less hsub, hL2, hS2⟩ ?_
      refine ⟨σ2, ⟨_, hj2⟩, ⟨.nil hd1, hs1.size, fun s av q => ?_, t.good.less hsub⟩, hd1, hL2, hS2⟩
      obtain ⟨v, q1, q2⟩ := hs1.slots s av (hka s av q)
      exact ⟨v, q1, q2.mono fun b _ hA => ⟨⟨(al_out hG b hA).1, fun hx => (al_out hG b hA).2 (blks_sub (fun _ hr => hsub.subset hr) b hx)⟩, rfl⟩⟩
  · intro l pre x a' W hl hr ⟨σ', hJ, hG, hL, hS⟩ ⟨σ1, ⟨pre1, hJ1⟩, hs1, hd1, hL1, hS1⟩ hlt
    have hbb := hb C W _ _ _ _ hJ1 hJ hs1.good hG
    have hs2 : Sim ⟨W, al C σ', blks σ'⟩ n (EA x.1) σ' a' W := ⟨.nil hd1, hs1.size, fun s av q => by
      obtain ⟨v, q1, q2⟩ := hs1.slots s av q
      have hA' : ∀ b, al C σ1 b → al C σ' b := fun b hA => ⟨hA.1, by rw [← hbb]; exact hA.2⟩
      exact ⟨v, q1, q2.mono fun b _ hA => ⟨⟨.inl (hA' b hA), (hA' b hA).2⟩, rfl⟩⟩, hG.fresh⟩
    refine wpIn_mono (hbody ⟨W, al C σ', blks σ'⟩ _ x.1 σ' x.2 (by simpa using hlt) hJ l 0 a' W hs2 hd1) ?_
    rintro e a2 W' ⟨_, E2, σ2, hs3, rfl, σ3, hj3, hsub⟩
    have t := tr_out hG hs3.good
    have hkf := keepsFrom_tr w.heap.size hG (nJ _ _ hJ) t
    refine ⟨hkf, fun b hb hA => t.kp.block b (Nat.lt_of_lt_of_le hb hS) (hL b hb hA).1.2, σ3, ?_, t.good.less hsub, (hL.tr t hS).less hsub, Nat.le_trans hS t.kp.size⟩
    rw [List.map_append]
    exact hj3
  · intro D xs W hD hS ⟨σ', hJ, hG, hL, hSz⟩ hdf
    subst hS
    refine ⟨E, σ', after a D W σ' hL (nJ _ _ hJ) hG hSz hD hdf ha, hdone σ' ?_⟩
    have e : (List.finRange es.length).map (·.1) = List.range es.length := List.ext_getElem (by simp) fun i h1 h2 => by simp
    rw [e] at hJ
    exact hJ
  · intro D c pre W hD hS h hdf
    exact h.elim
end Go.Iv
end
noncomputable section
set_option maxRecDepth 100000
namespace Go.Proofs.YtghilkcphindjaaGreat
open Go Go.RowKit Go.Shelf Go.Iv
attribute [local go_sem] Oper.semAt_some
theorem take_finP {n k : Nat} (h : k < n) : (List.finRange n).take (k + 1) = (List.finRange n).take k ++ [⟨k, h⟩] := by
 rw [List.take_add_one, List.getElem?_eq_getElem (by simpa using h), List.getElem_finRange]
 rfl
theorem grown_allocP (W : World) (o : Obj) : W.grownBy (W.alloc o) none := ⟨rfl, rfl, rfl, by simp, fun k hk _ => heap_alloc_old W o hk⟩
set_option maxHeartbeats 4000000 in
theorem vals_inP (l Bs o b off len cap n0 : Nat) (u : Nat → Nat → Int) (A : Nat → Prop) (hb : b < n0) (hAb : A b) (hB : Bs < n0) (hAB : A Bs) (hlen : len ≤ 9223372036854775807) (J Jx : List (Fin len) → World → Prop)
    (hJa : ∀ pre W o, J pre W → J pre (W.alloc o))
    (hY : ∀ pre (x : Fin len) W, J pre W → pre.length < len → YieldAt Fence.wide 0 Tryz.prog l #[.agg #[.int .i64 (u x.1 0), .int .i64 (u x.1 1)]] W fun e W' =>
      (e = .returned (.bool true) ∧ J (pre ++ [x]) W' ∧ (∀ b, b < n0 → A b → W'.heap[b]? = W.heap[b]?)) ∨ (e = .returned (.bool false) ∧ Jx (pre ++ [x]) W'))
    (W : World) (hn : n0 ≤ W.heap.size) (hBs : W.cell? ⟨Bs, o, none⟩ = some (.slice (some ⟨b, off, none⟩) len cap)) (hc : ∀ i j, i < len → j < 2 → W.cell? ⟨b, off + i * 2 + j, none⟩ = some (.int .i64 (u i j))) (h0 : J [] W) :
    CallsIn Fence.wide 1 Tryz.prog 266 #[.func (.yield l) #[] #[], .pointer (some ⟨Bs, o, none⟩)] W fun e W' => (∃ v, e = .returned v) ∧
      ((∃ xs, xs = List.finRange len ∧ J xs W') ∨ (∃ pre, pre <+: List.finRange len ∧ Jx pre W')) := by
  have hin : ∀ (w2 : World), (∀ b, b < n0 → A b → w2.heap[b]? = W.heap[b]?) → ∀ b, b < n0 → A b → b < w2.heap.size := fun w2 h b hb hA => by
    have h1 := h b hb hA
    rw [Array.getElem?_eq_getElem (Nat.lt_of_lt_of_le hb hn)] at h1
    exact (Array.getElem?_eq_some_iff.1 h1).1
  refine callsIn_of_wp Tryz.func266 rfl trivial ?_ rfl
  simp only [Tryz.ntmps266, List.size_toArray, List.length_cons, List.length_nil, Nat.reduceAdd, Nat.reduceSub, Array.replicate_succ, Array.replicate_zero, List.push_toArray, List.append_toArray, List.nil_append, List.cons_append]
  gi_wp2
  gi_loopw [7] (fun i wr => ∃ k : Nat, k ≤ len ∧ i = .int .i64 (k : Int) ∧ J ((List.finRange len).take k) wr ∧ (∀ b, b < n0 → A b → wr.heap[b]? = W.heap[b]?))
    (fun i _ => len - (intOf i).toNat)
  case atStart => exact ⟨0, Nat.zero_le _, by simp, by simpa using h0, fun _ _ _ => rfl⟩
  case round =>
    obtain ⟨k, hk, rfl, hJs, hnx⟩ := hrel
    have hcx : ∀ i j, i < len → j < 2 → wr.cell? ⟨b, off + i * 2 + j, none⟩ = some (.int .i64 (u i j)) := fun i j h1 h2 => (World.cell?_of_block (hnx b hb hAb)).trans (hc i j h1 h2)
    by_cases hlt : k < len
    · obtain ⟨fn, tmps, assign, body, hy, hR⟩ := hY _ ⟨k, hlt⟩ (wr.alloc (.cells #[.int .i64 (u k 0), .int .i64 (u k 1)] 231)) (hJa _ _ _ hJs) (by simp; omega)
      dsimp only at hy
      have e0 : wr.cell? ⟨b, off + k * 2, none⟩ = some (.int .i64 (u k 0)) := hcx k 0 (by omega) (by omega)
      have e1 : wr.cell? ⟨b, off + k * 2 + 1, none⟩ = some (.int .i64 (u k 1)) := hcx k 1 (by omega) (by omega)
      gi_wp2
      refine hR.mono ?_
      rintro e W3 (⟨rfl, hJ3, hk3⟩ | ⟨rfl, hJx3⟩)
      · gi_wp2
        go_roundw
        case rel => exact ⟨k + 1, by omega, by first | (simp; done) | (simp; omega), by rw [take_finP hlt]; exact hJ3, fun b' h1 h2 => ((hk3 b' h1 h2).trans (heap_alloc_old wr _ (hin wr hnx b' h1 h2))).trans (hnx b' h1 h2)⟩
        case measure => simp [intOf]; omega
      · gi_wp2
        refine bodyPost_ret (results_none rfl _ _ _) rfl ?_
        exact ⟨⟨_, rfl⟩, .inr ⟨_, by rw [← take_finP hlt]; exact List.take_prefix _ _, hJx3⟩⟩
    · obtain rfl : k = len := by omega
      gi_wp2
      go_end0
      exact ⟨⟨_, rfl⟩, .inl ⟨_, rfl, by rwa [List.take_of_length_le (by simp)] at hJs⟩⟩
set_option maxHeartbeats 1000000 in
theorem vals_nilP (l Bs o cap : Nat) (p : Option Addr) (J : List (Fin 0) → World → Prop) (W : World) (hBs : W.cell? ⟨Bs, o, none⟩ = some (.slice p 0 cap)) (h0 : J [] W) :
  CallsIn Fence.wide 1 Tryz.prog 266 #[.func (.yield l) #[] #[], .pointer (some ⟨Bs, o, none⟩)] W fun e W' => (∃ v, e = .returned v) ∧ J [] W' := by
 refine callsIn_of_wp Tryz.func266 rfl trivial ?_ rfl
 simp only [Tryz.ntmps266, List.size_toArray, List.length_cons, List.length_nil, Nat.reduceAdd, Nat.reduceSub, Array.replicate_succ, Array.replicate_zero, List.push_toArray, List.append_toArray, List.nil_append, List.cons_append]
 gi_wp2
 gi_loopw [7] (fun i wr => i = .int .i64 0 ∧ J [] wr) (fun _ _ => 0)
 case atStart => exact ⟨by simp, h0⟩
 case round =>
  obtain ⟨rfl, hJs⟩ := hrel
  gi_wp2
  go_end0
  exact ⟨⟨_, rfl⟩, hJs⟩
def vEsP (l : List (uni.Dat 231)) : List (List AV) := l.map fun x => [.agg (uni.cells 231 x)]
theorem vEs_getP (l : List (uni.Dat 231)) {k : Nat} (h : k < l.length) : (vEsP l)[k]! = [.agg (uni.cells 231 l[k]!)] := by
 unfold vEsP
 rw [getElem!_pos _ k (by simpa using h), getElem!_pos l k h, List.getElem_map]
theorem vals_iterP (l : List (uni.Dat 231)) : Iter Tryz.prog 266 [.fp [.sl 231 l]] (vEsP l) := fun A w lb hlb => by
  obtain ⟨v, hv1, hv2⟩ := hlb.get (j := 0) rfl
  obtain rfl : lb = [v] := by
    have := hlb.1
    cases lb with
    | nil => cases hv1
    | cons x xs =>
      cases xs with
      | nil => simp at hv1; rw [hv1]
      | cons y ys => simp at this
  obtain ⟨Bs, o, us, rfl, hB, hAB, hcs, hus⟩ := hv2.fpInv
  obtain ⟨sv, hs1, hs2⟩ := hus.get (j := 0) rfl
  have hcB := hcs 0 sv hs1
  rw [Nat.add_zero] at hcB
  obtain ⟨p, cap, u, rfl, hl, hcap, hz, hc, hr⟩ := hs2.slInv
  have hE : (vEsP l).length = l.length := by simp [vEsP]
  obtain ⟨q, hq⟩ : ∃ q : Nat → Nat → Int, q = fun i j => if j = 0 then (l[i]! : uni.Dat 231).fFirst else (l[i]! : uni.Dat 231).fSecond := ⟨_, rfl⟩
  have hu : ∀ i j, i < l.length → j < 2 → u i j = .int .i64 (q i j) := fun i j hi hj => by
    match j with
    | 0 => rw [hq]; exact (hr i 0 _ hi rfl).litEq
    | 1 => rw [hq]; exact (hr i 1 _ hi rfl).litEq
  obtain ⟨vs, hvs⟩ : ∃ vs : List (List Value), vs = (List.range l.length).map fun (i : Nat) => [.agg #[.int .i64 (q i 0), .int .i64 (q i 1)]] := ⟨_, rfl⟩
  have hget : ∀ i, i < l.length → vs[i]! = [.agg #[.int .i64 (q i 0), .int .i64 (q i 1)]] := fun i hi => by
    subst hvs
    rw [getElem!_pos _ i (by simpa using hi)]
    simp
  refine ⟨vs, by subst hvs; simp [vEsP], fun i hi => ?_, ?_⟩
  · rw [hE] at hi
    rw [vEs_getP l hi, hget i hi]
    refine RelL.cons ?_ RelL.nil
    have h1 : Rel A w (.agg (uni.cells 231 l[i]!)) (.agg [u i 0, u i 1].toArray) := .agg _ [u i 0, u i 1] rfl fun j a v h1 h2 => by
      match j with
      | 0 => cases h2; exact hr _ 0 a hi h1
      | 1 => cases h2; exact hr _ 1 a hi h1
      | j + 2 => cases h2
    rw [hu i 0 hi (by omega), hu i 1 hi (by omega)] at h1
    exact h1
  · have henc : (fun i : Fin (vEsP l).length => (vs[i.1]!).toArray) = fun x => #[.agg #[.int .i64 (q x.1 0), .int .i64 (q x.1 1)]] := funext fun x => by
      have hx := x.2
      rw [hget x.1 (by omega)]
    rw [henc]
    intro lp J Jx W hW hJ1 _ hY h0
    have hblk : ∀ b, b < w.heap.size → W.heap[b]? = w.heap[b]? := fun b hb => hW.block b hb
    have hcB' : W.cell? ⟨Bs, o, none⟩ = some (.slice p (vEsP l).length cap) := by rw [World.cell?_of_block (hblk Bs hB), hE]; exact hcB
    by_cases h0l : l.length = 0
    · obtain rfl : l = [] := List.length_eq_zero_iff.1 h0l
      exact (vals_nilP lp Bs o cap p J W hcB' h0).mono fun e W' h => ⟨h.1, .inl ⟨[], rfl, h.2⟩⟩
    · obtain ⟨b, off, rfl, hb, hAb, hcell⟩ := hc 0 (by omega)
      refine (vals_inP lp Bs o b off (vEsP l).length cap w.heap.size q A hb hAb hB hAB (by omega) J Jx (fun pre W o h => hJ1 pre W _ none h (grown_allocP W o) (fun r hr => by cases hr)) hY W hW.size hcB' (fun i j h1 h2 => ?_) h0).mono fun e W' h => h
      obtain ⟨b', off', e1, _, _, h4⟩ := hc i (by omega)
      cases e1
      rw [World.cell?_of_block (hblk b hb), ← hu i j (by omega) h2]
      exact h4 j h2
theorem oneTP : isOne Tryz.prog 227 := ⟨_, Tryz.underlying227, trivial⟩
theorem manyEP : isMany Tryz.prog 231 2 := ⟨⟨_, Tryz.underlying231, trivial⟩, by kernel_rfl⟩
theorem szTP : (Tryz.prog.info? 227).map (·.size) = some 1 := by kernel_rfl
theorem szEP : (Tryz.prog.info? 231).map (·.size) = some (uni.sz 231) := by kernel_rfl
theorem szBP : (Tryz.prog.info? 231).map (fun i => (i.size, i.bytes)) = some (uni.sz 231, 16) := by kernel_rfl
theorem zsEP : zerosOf Tryz.prog 231 = some [.int .i64 0, .int .i64 0] := by kernel_rfl
theorem zaEP : (Tryz.prog.info? 231).bind (fun i => i.zero.map (·.cells)) = some ([.int .i64 0, .int .i64 0] : List Value).toArray := by kernel_rfl
theorem ap_okP (l : List (uni.Dat 231)) (hl : l.length ≤ 1073741824) : Iv.Fn Tryz.prog 292 [.lit (.slice none 0 0), .fn (.func 266) [.fp [.sl 231 l]]] [] (fun a s => ∃ v, a = .lit v ∧ s = [.row v 231 l]) := by
  refine Iv.Fn.of Tryz.func292 rfl rfl rfl (fun C => ?_)
  refine CW.seq ?_
  refine CW.region ?_
  refine RW.v rfl rfl rfl (Yv.box rfl rfl (Pw.p rfl)) ?_
  rintro _ _ ⟨b2, rfl, rfl⟩
  refine RW.p rfl rfl rfl (Yp.assign rfl rfl) ?_
  refine RW.nil ?_
  refine CW.own none 231 ?_
  refine CW.seq ?_
  refine CW.seq ?_
  refine CW.region ?_
  refine RW.p rfl rfl rfl (Yp.move rfl rfl) ?_
  refine RW.nil ?_
  refine CW.block ?_
  have hE : (vEsP l).length = l.length := by simp [vEsP]
  refine CW.rfa (gf := 266) (caps := [.fp [.sl 231 l]]) (es := vEsP l) (fun pre s => ∃ v, s = [.row v 231 (pre.map fun i => l[i]!), .box b2 227 [.lit v]]) (fun i => [(5, .fp (uni.cells 231 l[i]!)), (2, .lit (.pointer (some ⟨b2, 0, none⟩)))]) ?_ ?_ rfl (enters_of Tryz.func266 (by kernel_rfl) rfl) (vals_iterP l) (fun i hi => by rw [vEs_getP l (by omega)]; rfl) (by decide) ⟨_, rfl⟩ ?_ ?_ ?_
  · rintro pre σ ⟨v, rfl⟩ r hr v' es rfl
    simp at hr
  · rintro C0 W pre pre' _ _ ⟨v, rfl⟩ ⟨v', rfl⟩ h1 h2
    have key : ∀ (v : Value) (l' : List (uni.Dat 231)), Iv.Good C0 [.row v 231 l', .box b2 227 [.lit v]] W → ∃ us : List Value, Blk W b2 us.toArray 227 ∧ us = [v] := fun v l' h => by
      obtain ⟨us, g1, g2⟩ := h.res (.box b2 227 [.lit v]) (by simp)
      obtain ⟨u, us', rfl, g3, g4⟩ := g2.head
      have : us' = [] := List.length_eq_zero_iff.1 g4.1
      subst this
      rw [g3.litEq] at g1
      exact ⟨_, g1, rfl⟩
    obtain ⟨_, g1, rfl⟩ := key v _ h1
    obtain ⟨_, g2, rfl⟩ := key v' _ h2
    have : v = v' := by
      have := g1.symm.trans g2
      simpa using this
    rw [this]
    rfl
  · rintro C' pre i _ hi ⟨v, rfl⟩
    rw [vEs_getP l (by omega)]
    refine CWR.region rfl ?_
    refine RW.v rfl rfl rfl (Yv.alloc rfl zaEP) ?_
    rintro _ _ ⟨b5, rfl, rfl⟩
    refine RW.u rfl rfl (Yu.storeB 0 rfl rfl rfl rfl szEP (Pw.p rfl) rfl (Nat.le_of_ble_eq_true rfl)) ?_
    refine RW.frz 0 5 rfl rfl (Vw.box 0 rfl) ?_
    refine RW.nil ?_
    exact ⟨rfl, Sub.cons rfl (Sub.cons rfl Sub.nil), _, ⟨v, rfl⟩, List.Sublist.refl _⟩
  · rintro C' pre i _ hi hp ⟨v, rfl⟩
    refine CWR.block ?_
    refine CWR.region rfl ?_
    refine RW.p rfl rfl rfl (Yp.loadB1 1 rfl rfl rfl oneTP rfl) ?_
    refine RW.p rfl rfl rfl (Yp.loadFN rfl rfl manyEP (Nat.le_of_ble_eq_true rfl)) ?_
    refine RW.v rfl rfl rfl (Yv.lit (e := 231) (zs := [.int .i64 0, .int .i64 0]) [l[i]!] rfl Tryz.underlying227 szEP zsEP rfl (fun A w ρ hd hρ => fill_rel (cs := ([.int .i64 0, .int .i64 0] : List Value).map .lit) (RelL.lits _) (Env.evp_rel hρ rfl) rfl) rfl (fun i hi => uniL.len _ _) (by decide) (by decide)) ?_
    rintro _ _ ⟨v10, rfl, rfl⟩
    refine RW.v rfl rfl rfl (Yv.app (e := 231) (l := pre.map fun i => l[i]!) (l2 := [l[i]!]) (zs := [.int .i64 0, .int .i64 0]) 1 rfl rfl rfl (.inr (.inr ⟨0, _, rfl, rfl⟩)) Tryz.underlying227 szBP zsEP rfl rfl (uniL.one _) (by simp; omega)) ?_
    rintro _ _ ⟨v', rfl, rfl⟩
    refine RW.u rfl rfl (Yu.storeB 2 rfl rfl rfl rfl szTP (Pw.own 1 rfl) rfl (Nat.le_of_ble_eq_true rfl)) ?_
    refine RW.nil ?_
    exact ⟨rfl, [.row v' 231 ((pre ++ [i]).map fun i => l[i]!), .box b2 227 [.lit v']], ⟨v', rfl⟩, by rw [List.map_append]; exact List.sublist_cons_self _ _⟩
  · rintro _ ⟨v, rfl⟩
    have hl2 : (List.range (vEsP l).length).map (fun i => l[i]!) = l := by
      rw [hE]
      exact List.ext_getElem (by simp) fun i h1 h2 => by rw [List.getElem_map, List.getElem_range, getElem!_pos l i h2]
    rw [hl2]
    refine CW.seq ?_
    refine CW.region ?_
    refine RW.p rfl rfl rfl (Yp.loadB1 1 rfl rfl rfl oneTP rfl) ?_
    refine RW.p rfl rfl rfl (Yp.assign rfl rfl) ?_
    refine RW.nil ?_
    refine CW.ret ?_
    exact fin1 (.inr rfl) rfl (ResIs.tmp rfl) (List.Sublist.cons_cons _ (List.nil_sublist _)) ⟨v, rfl, rfl⟩
theorem ap_yP (l : List (uni.Dat 231)) (hl : l.length ≤ 1073741824) : FnY Tryz.prog 292 [.lit (.slice none 0 0), .fn (.func 266) [.fp [.sl 231 l]]] [] 0 ⟨.own 0, [(0, .row 231 l)], 1⟩ := fun ρ => by
 have e1 : [.lit (.slice none 0 0), .fn (.func 266) [.fp [.sl 231 l]]].map (AVq.sub ρ) = ([.lit (.slice none 0 0), .fn (.func 266) [.fp [.sl 231 l]]] : List AV) := by simp [AVq.sub]
 rw [e1]
 exact (ap_okP l hl).mono fun a s ⟨v, h1, h2⟩ => ⟨ρ.putV 0 v, fun i hi => absurd hi (Nat.not_lt_zero _), by rw [h1]; simp [sub_own, Gh.putV], by rw [h2]; simp [IRs.res, IR.res, Gh.putV]⟩
abbrev E292 : Type := List (uni.Dat 231)
def d292 : Td 0 E292 := .c [] [4] (.r 0 1 (ec 4 (qo 0) en) (sr 0 231 sn) (fun z => z.2.1) (fun x => (((), ()), (x, ()))) fun _ => rfl)
def A292 := (lc qn (lc (qf 266 (lc (qr (lc (ql 231) ln)) ln)) ln))
def m292 (l : List (uni.Dat 231)) : Option E292 := if l.length ≤ 1073741824 then some l else none
theorem o292 (l : List (uni.Dat 231)) : outY Tryz.prog 292 0 (d292.pat l) = ⟨.own 0, [(0, .row 231 l)], 1⟩ := by kernel_rfl
theorem hl292 : HL Tryz.prog 292 A292 d292 (fun g => m292 g.2.1.1.1) := fun g b hb => by
  dsimp only [m292] at hb
  split at hb
  · rename_i h
    cases hb
    rw [o292]
    exact ap_yP _ h
  · cases hb
def e292 : Orc → Orc := eL Tryz.prog 292 true A292 d292 (fun g => m292 g.2.1.1.1)
theorem e292_ok {F : Orc} (h : OrcG Tryz.prog F) : OrcG Tryz.prog (e292 F) := eL_ok (sc := scU) scU_ok hl292 ⟨_, Tryz.func292, by kernel_rfl, by kernel_rfl⟩ (fun _ => by kernel_rfl) (fun _ => by kernel_rfl) h
end Go.Proofs.YtghilkcphindjaaGreat
end
noncomputable section
set_option maxRecDepth 100000
namespace Go.Proofs.YtghilkcphindjaaGreat
open Go Go.Iv
open Go.IntKind (i64 u64)
def tb {γ β : Type} [DecidableEq γ] (T : List (γ × β)) (g : γ) : Option β := (T.find? fun p => decide (p.1 = g)).map (·.2)
theorem tb_ok {γ β : Type} [DecidableEq γ] {T : List (γ × β)} {g : γ} {b : β} (h : tb T g = some b) : (g, b) ∈ T := by
 unfold tb at h
 obtain ⟨p, h1, rfl⟩ := Option.map_eq_some_iff.1 h
 have h2 := List.find?_some h1
 rw [decide_eq_true_eq] at h2
 exact h2 ▸ List.mem_of_find?_eq_some h1
def F29a : Orc := callN Tryz.prog (e292 or0) (fun f => Nat.beq f 292) 300 60
theorem F29a_ok : OrcG Tryz.prog F29a := ⟨callN_ok (e292_ok or0_g).ok (e292_ok or0_g).nat 300 60, callN_nat (e292_ok or0_g).nat 300 60⟩
abbrev E210 : Type := Int
def d210 : Td 0 E210 := .c [] [2] (.r 0 0 (ec 2 (qi .i64) en) sn (fun z => z.1.1) (fun x => ((x, ()), (()))) fun _ => rfl)
def A210 := (lc (qg 80) ln)
def t210 : List ((Mtbdd × Unit) × E210) := [((⟨2, [0], [], 0⟩, ()), 0),
 ((⟨2, [0, 2], [⟨0, 0, 1⟩], 2⟩, ()), 0),
 ((⟨2, [0, 1], [⟨1, 0, 1⟩], 2⟩, ()), 0),
 ((⟨2, [0, 1, 2, 3], [⟨1, 0, 1⟩, ⟨1, 2, 3⟩, ⟨0, 4, 5⟩], 6⟩, ()), 0),
 ((⟨2, [2], [], 0⟩, ()), 0),
 ((⟨2, [0, 1, 2], [⟨1, 0, 1⟩, ⟨0, 3, 2⟩], 4⟩, ()), 0),
 ((⟨2, [1], [], 0⟩, ()), 0),
 ((⟨2, [0, 1], [⟨1, 0, 1⟩, ⟨0, 2, 0⟩], 3⟩, ()), 0),
 ((⟨2, [3], [], 0⟩, ()), 0),
 ((⟨2, [0, 1], [⟨1, 1, 0⟩, ⟨0, 1, 2⟩], 3⟩, ()), 0)]
theorem fa210 : FnAn Tryz.prog F29a 0 300 210 .no := fnAn_of (l := []) Tryz.func210 (bodyOf_eq (by kernel_rfl)) (by kernel_rfl) ob_nil
theorem k210 : (t210.map fun p => callR Tryz.prog F29a 300 .no 210 (A210.c p.1) [] 0 d210.rd) = t210.map fun p => some p.2 := by kernel_rfl
theorem hk210 : HL Tryz.prog 210 A210 d210 (tb (γ := Mtbdd × Unit) t210) := fun g b hb =>
 (fnY_of (out := fun p => outY Tryz.prog 210 0 (d210.pat p)) (p := b) F29a_ok fa210 d210.ok (fun p => by kernel_rfl) (ltd_of (by kernel_rfl)) (rltd_of (by kernel_rfl)) (List.map_inj_left.1 k210 _ (tb_ok hb))).2
def e210 : Orc → Orc := eZ Tryz.prog 210 A210 d210 (tb (γ := Mtbdd × Unit) t210)
theorem e210_ok {F : Orc} (h : OrcG Tryz.prog F) : OrcG Tryz.prog (e210 F) := eZ_ok hk210 ⟨_, Tryz.func210, by kernel_rfl, by kernel_rfl⟩ (fun _ => by kernel_rfl) h
abbrev E151 : Type := Int
def d151 : Td 0 E151 := .c [] [2] (.r 0 0 (ec 2 (qi .i64) en) sn (fun z => z.1.1) (fun x => ((x, ()), (()))) fun _ => rfl)
def A151 := (lc (qg 42) ln)
def t151 : List ((Bdd × Unit) × E151) := [((⟨2, [⟨0, 0, 1⟩], 2⟩, ()), 0),
 ((⟨2, [⟨1, 0, 1⟩], 2⟩, ()), 0),
 ((⟨2, [], 1⟩, ()), 0),
 ((⟨2, [], 0⟩, ()), 0),
 ((⟨2, [⟨1, 1, 0⟩, ⟨0, 1, 2⟩], 3⟩, ()), 0)]
theorem fa151 : FnAn Tryz.prog F29a 0 300 151 .no := fnAn_of (l := []) Tryz.func151 (bodyOf_eq (by kernel_rfl)) (by kernel_rfl) ob_nil
theorem k151 : (t151.map fun p => callR Tryz.prog F29a 300 .no 151 (A151.c p.1) [] 0 d151.rd) = t151.map fun p => some p.2 := by kernel_rfl
theorem hk151 : HL Tryz.prog 151 A151 d151 (tb (γ := Bdd × Unit) t151) := fun g b hb =>
 (fnY_of (out := fun p => outY Tryz.prog 151 0 (d151.pat p)) (p := b) F29a_ok fa151 d151.ok (fun p => by kernel_rfl) (ltd_of (by kernel_rfl)) (rltd_of (by kernel_rfl)) (List.map_inj_left.1 k151 _ (tb_ok hb))).2
def e151 : Orc → Orc := eZ Tryz.prog 151 A151 d151 (tb (γ := Bdd × Unit) t151)
theorem e151_ok {F : Orc} (h : OrcG Tryz.prog F) : OrcG Tryz.prog (e151 F) := eZ_ok hk151 ⟨_, Tryz.func151, by kernel_rfl, by kernel_rfl⟩ (fun _ => by kernel_rfl) h
def F29b : Orc := callN Tryz.prog (e210 (e151 (e292 or0))) (fun f => Nat.beq f 210 || Nat.beq f 151 || Nat.beq f 292) 300 60
theorem F29b_ok : OrcG Tryz.prog F29b := ⟨callN_ok (e210_ok (e151_ok (e292_ok or0_g))).ok (e210_ok (e151_ok (e292_ok or0_g))).nat 300 60, callN_nat (e210_ok (e151_ok (e292_ok or0_g))).nat 300 60⟩
abbrev E178 : Type := Mtbdd × Int
def d178 : Td 0 E178 := .c [] [6, 7] (.t (TurnOk.fc 0 1 []) (.t (TurnOk.fc 0 2 []) (.c [] [6, 7] (.r 0 1 (ec 6 (qp 0 0) (ec 7 (qi .i64) en)) (sb 0 80 (lg 80) sn) (fun z => (z.2.1, z.1.2.1)) (fun x => (((), x.2, ()), (x.1, ()))) fun _ => rfl))))
def A178 := (lc (qi .i64) (lc (qg 80) (lc (qg 80) ln)))
def t178 : List ((Int × Mtbdd × Mtbdd × Unit) × E178) := [((0, ⟨2, [0], [], 0⟩, ⟨2, [0, 2], [⟨0, 0, 1⟩], 2⟩, ()), (⟨2, [0, 2], [⟨0, 0, 1⟩], 2⟩, 0)),
 ((0, ⟨2, [0, 2], [⟨0, 0, 1⟩], 2⟩, ⟨2, [0, 1], [⟨1, 0, 1⟩], 2⟩, ()), (⟨2, [0, 1, 2, 3], [⟨1, 0, 1⟩, ⟨1, 2, 3⟩, ⟨0, 4, 5⟩], 6⟩, 0)),
 ((5, ⟨2, [0, 1, 2, 3], [⟨1, 0, 1⟩, ⟨1, 2, 3⟩, ⟨0, 4, 5⟩], 6⟩, ⟨2, [2], [], 0⟩, ()), (⟨2, [0, 1, 2], [⟨1, 0, 1⟩, ⟨0, 3, 2⟩], 4⟩, 0)),
 ((0, ⟨2, [0, 1, 2], [⟨1, 0, 1⟩, ⟨0, 3, 2⟩], 4⟩, ⟨2, [0], [], 0⟩, ()), (⟨2, [0, 1, 2], [⟨1, 0, 1⟩, ⟨0, 3, 2⟩], 4⟩, 0)),
 ((0, ⟨2, [0], [], 0⟩, ⟨2, [1], [], 0⟩, ()), (⟨2, [1], [], 0⟩, 0)),
 ((8, ⟨2, [0, 1, 2], [⟨1, 0, 1⟩, ⟨0, 3, 2⟩], 4⟩, ⟨2, [1], [], 0⟩, ()), (⟨2, [0, 1], [⟨1, 0, 1⟩, ⟨0, 2, 0⟩], 3⟩, 0)),
 ((7, ⟨2, [0, 1, 2, 3], [⟨1, 0, 1⟩, ⟨1, 2, 3⟩, ⟨0, 4, 5⟩], 6⟩, ⟨2, [3], [], 0⟩, ()), (⟨2, [0, 1], [⟨1, 1, 0⟩, ⟨0, 1, 2⟩], 3⟩, 0))]
theorem fa178 : FnAn Tryz.prog F29b 0 300 178 .no := fnAn_of (l := []) Tryz.func178 (bodyOf_eq (by kernel_rfl)) (by kernel_rfl) ob_nil
theorem k178 : (t178.map fun p => callR Tryz.prog F29b 300 .no 178 (A178.c p.1) [] 0 d178.rd) = t178.map fun p => some p.2 := by kernel_rfl
theorem hk178 : HL Tryz.prog 178 A178 d178 (tb (γ := Int × Mtbdd × Mtbdd × Unit) t178) := fun g b hb =>
 (fnY_of (out := fun p => outY Tryz.prog 178 0 (d178.pat p)) (p := b) F29b_ok fa178 d178.ok (fun p => by kernel_rfl) (ltd_of (by kernel_rfl)) (rltd_of (by kernel_rfl)) (List.map_inj_left.1 k178 _ (tb_ok hb))).2
def e178 : Orc → Orc := eZ Tryz.prog 178 A178 d178 (tb (γ := Int × Mtbdd × Mtbdd × Unit) t178)
theorem e178_ok {F : Orc} (h : OrcG Tryz.prog F) : OrcG Tryz.prog (e178 F) := eZ_ok hk178 ⟨_, Tryz.func178, by kernel_rfl, by kernel_rfl⟩ (fun _ => by kernel_rfl) h
abbrev E134 : Type := Mtbdd × Int
def d134 : Td 0 E134 := .c [] [6, 7] (.t (TurnOk.fc 0 1 []) (.t (TurnOk.fc 0 2 []) (.c [] [6, 7] (.r 0 1 (ec 6 (qp 0 0) (ec 7 (qi .i64) en)) (sb 0 80 (lg 80) sn) (fun z => (z.2.1, z.1.2.1)) (fun x => (((), x.2, ()), (x.1, ()))) fun _ => rfl))))
def A134 := (lc (qg 42) (lc (qg 80) (lc (qg 80) ln)))
def t134 : List ((Bdd × Mtbdd × Mtbdd × Unit) × E134) := [((⟨2, [], 1⟩, ⟨2, [0, 1], [⟨1, 0, 1⟩, ⟨0, 2, 0⟩], 3⟩, ⟨2, [0], [], 0⟩, ()), (⟨2, [0, 1], [⟨1, 0, 1⟩, ⟨0, 2, 0⟩], 3⟩, 0)),
 ((⟨2, [], 0⟩, ⟨2, [0, 1], [⟨1, 0, 1⟩, ⟨0, 2, 0⟩], 3⟩, ⟨2, [0], [], 0⟩, ()), (⟨2, [0], [], 0⟩, 0))]
theorem fa134 : FnAn Tryz.prog F29b 0 300 134 .no := fnAn_of (l := []) Tryz.func134 (bodyOf_eq (by kernel_rfl)) (by kernel_rfl) ob_nil
theorem k134 : (t134.map fun p => callR Tryz.prog F29b 300 .no 134 (A134.c p.1) [] 0 d134.rd) = t134.map fun p => some p.2 := by kernel_rfl
theorem hk134 : HL Tryz.prog 134 A134 d134 (tb (γ := Bdd × Mtbdd × Mtbdd × Unit) t134) := fun g b hb =>
 (fnY_of (out := fun p => outY Tryz.prog 134 0 (d134.pat p)) (p := b) F29b_ok fa134 d134.ok (fun p => by kernel_rfl) (ltd_of (by kernel_rfl)) (rltd_of (by kernel_rfl)) (List.map_inj_left.1 k134 _ (tb_ok hb))).2
def e134 : Orc → Orc := eZ Tryz.prog 134 A134 d134 (tb (γ := Bdd × Mtbdd × Mtbdd × Unit) t134)
theorem e134_ok {F : Orc} (h : OrcG Tryz.prog F) : OrcG Tryz.prog (e134 F) := eZ_ok hk134 ⟨_, Tryz.func134, by kernel_rfl, by kernel_rfl⟩ (fun _ => by kernel_rfl) h
abbrev E184 : Type := Bdd × Int
def d184 : Td 0 E184 := .c [] [4, 5] (.t (TurnOk.fc 0 1 []) (.c [] [4, 5] (.r 0 1 (ec 4 (qp 0 0) (ec 5 (qi .i64) en)) (sb 0 42 (lg 42) sn) (fun z => (z.2.1, z.1.2.1)) (fun x => (((), x.2, ()), (x.1, ()))) fun _ => rfl)))
def A184 := (lc (qg 80) (lc (qi .i64) ln))
def t184 : List ((Mtbdd × Int × Unit) × E184) := [((⟨2, [0], [], 0⟩, 0, ()), (⟨2, [], 1⟩, 0)),
 ((⟨2, [0], [], 0⟩, 1, ()), (⟨2, [], 0⟩, 0)),
 ((⟨2, [0], [], 0⟩, 2, ()), (⟨2, [], 0⟩, 0)),
 ((⟨2, [0], [], 0⟩, 3, ()), (⟨2, [], 0⟩, 0)),
 ((⟨2, [0], [], 0⟩, 4, ()), (⟨2, [], 0⟩, 0)),
 ((⟨2, [0], [], 0⟩, 5, ()), (⟨2, [], 0⟩, 0)),
 ((⟨2, [0], [], 0⟩, 6, ()), (⟨2, [], 0⟩, 0)),
 ((⟨2, [0], [], 0⟩, 7, ()), (⟨2, [], 0⟩, 0)),
 ((⟨2, [0, 1], [⟨1, 1, 0⟩, ⟨0, 1, 2⟩], 3⟩, 1, ()), (⟨2, [⟨1, 1, 0⟩, ⟨0, 1, 2⟩], 3⟩, 0))]
theorem fa184 : FnAn Tryz.prog F29b 0 300 184 .no := fnAn_of (l := []) Tryz.func184 (bodyOf_eq (by kernel_rfl)) (by kernel_rfl) ob_nil
theorem k184 : (t184.map fun p => callR Tryz.prog F29b 300 .no 184 (A184.c p.1) [] 0 d184.rd) = t184.map fun p => some p.2 := by kernel_rfl
theorem hk184 : HL Tryz.prog 184 A184 d184 (tb (γ := Mtbdd × Int × Unit) t184) := fun g b hb =>
 (fnY_of (out := fun p => outY Tryz.prog 184 0 (d184.pat p)) (p := b) F29b_ok fa184 d184.ok (fun p => by kernel_rfl) (ltd_of (by kernel_rfl)) (rltd_of (by kernel_rfl)) (List.map_inj_left.1 k184 _ (tb_ok hb))).2
def e184 : Orc → Orc := eZ Tryz.prog 184 A184 d184 (tb (γ := Mtbdd × Int × Unit) t184)
theorem e184_ok {F : Orc} (h : OrcG Tryz.prog F) : OrcG Tryz.prog (e184 F) := eZ_ok hk184 ⟨_, Tryz.func184, by kernel_rfl, by kernel_rfl⟩ (fun _ => by kernel_rfl) h
abbrev E145 : Type := Mtbdd × Int
def d145 : Td 0 E145 := .c [] [6, 7] (.t (TurnOk.fc 0 1 []) (.t (TurnOk.fc 0 2 []) (.c [] [6, 7] (.r 0 1 (ec 6 (qp 0 0) (ec 7 (qi .i64) en)) (sb 0 80 (lg 80) sn) (fun z => (z.2.1, z.1.2.1)) (fun x => (((), x.2, ()), (x.1, ()))) fun _ => rfl))))
def A145 := (lc (qg 42) (lc (qi .i64) (lc (qi .i64) ln)))
def t145 : List ((Bdd × Int × Int × Unit) × E145) := [((⟨2, [⟨0, 0, 1⟩], 2⟩, 0, 2, ()), (⟨2, [0, 2], [⟨0, 0, 1⟩], 2⟩, 0)),
 ((⟨2, [⟨1, 0, 1⟩], 2⟩, 0, 1, ()), (⟨2, [0, 1], [⟨1, 0, 1⟩], 2⟩, 0))]
theorem fa145 : FnAn Tryz.prog F29b 0 300 145 .no := fnAn_of (l := []) Tryz.func145 (bodyOf_eq (by kernel_rfl)) (by kernel_rfl) ob_nil
theorem k145 : (t145.map fun p => callR Tryz.prog F29b 300 .no 145 (A145.c p.1) [] 0 d145.rd) = t145.map fun p => some p.2 := by kernel_rfl
theorem hk145 : HL Tryz.prog 145 A145 d145 (tb (γ := Bdd × Int × Int × Unit) t145) := fun g b hb =>
 (fnY_of (out := fun p => outY Tryz.prog 145 0 (d145.pat p)) (p := b) F29b_ok fa145 d145.ok (fun p => by kernel_rfl) (ltd_of (by kernel_rfl)) (rltd_of (by kernel_rfl)) (List.map_inj_left.1 k145 _ (tb_ok hb))).2
def e145 : Orc → Orc := eZ Tryz.prog 145 A145 d145 (tb (γ := Bdd × Int × Int × Unit) t145)
theorem e145_ok {F : Orc} (h : OrcG Tryz.prog F) : OrcG Tryz.prog (e145 F) := eZ_ok hk145 ⟨_, Tryz.func145, by kernel_rfl, by kernel_rfl⟩ (fun _ => by kernel_rfl) h
abbrev E148 : Type := Mtbdd × List Pair × Int
def d148 : Td 0 E148 := .c [] [4, 5, 6] (.t (TurnOk.fc 0 1 []) (.t (TurnOk.fc 0 2 []) (.t (TurnOk.fs 5 []) (.c [] [4, 5, 6] (.r 0 1 (ec 4 (qp 0 0) (ec 5 (ql 231) (ec 6 (qi .i64) en))) (sb 0 80 (lg 80) sn) (fun z => (z.2.1, z.1.2.1, z.1.2.2.1)) (fun x => (((), x.2.1, x.2.2, ()), (x.1, ()))) fun _ => rfl)))))
def A148 := (lc (qg 80) (lc (qg 80) ln))
def t148 : List ((Mtbdd × Mtbdd × Unit) × E148) := [((⟨2, [1], [], 0⟩, ⟨2, [1], [], 0⟩, ()), (⟨2, [0], [], 0⟩, [⟨1, 1⟩], 0)),
 ((⟨2, [0], [], 0⟩, ⟨2, [0, 1], [⟨1, 0, 1⟩, ⟨0, 2, 0⟩], 3⟩, ()), (⟨2, [0, 1], [⟨1, 0, 1⟩, ⟨0, 2, 0⟩], 3⟩, [⟨0, 0⟩, ⟨0, 1⟩], 0)),
 ((⟨2, [0, 1], [⟨1, 0, 1⟩, ⟨0, 2, 0⟩], 3⟩, ⟨2, [0], [], 0⟩, ()), (⟨2, [0, 1], [⟨1, 0, 1⟩, ⟨0, 2, 0⟩], 3⟩, [⟨0, 0⟩, ⟨1, 0⟩], 0)),
 ((⟨2, [1], [], 0⟩, ⟨2, [0], [], 0⟩, ()), (⟨2, [0], [], 0⟩, [⟨1, 0⟩], 0))]
theorem fa148 : FnAn Tryz.prog F29b 0 300 148 .no := fnAn_of (l := []) Tryz.func148 (bodyOf_eq (by kernel_rfl)) (by kernel_rfl) ob_nil
theorem k148 : (t148.map fun p => callR Tryz.prog F29b 300 .no 148 (A148.c p.1) [] 0 d148.rd) = t148.map fun p => some p.2 := by kernel_rfl
theorem hk148 : HL Tryz.prog 148 A148 d148 (tb (γ := Mtbdd × Mtbdd × Unit) t148) := fun g b hb =>
 (fnY_of (out := fun p => outY Tryz.prog 148 0 (d148.pat p)) (p := b) F29b_ok fa148 d148.ok (fun p => by kernel_rfl) (ltd_of (by kernel_rfl)) (rltd_of (by kernel_rfl)) (List.map_inj_left.1 k148 _ (tb_ok hb))).2
def e148 : Orc → Orc := eZ Tryz.prog 148 A148 d148 (tb (γ := Mtbdd × Mtbdd × Unit) t148)
theorem e148_ok {F : Orc} (h : OrcG Tryz.prog F) : OrcG Tryz.prog (e148 F) := eZ_ok hk148 ⟨_, Tryz.func148, by kernel_rfl, by kernel_rfl⟩ (fun _ => by kernel_rfl) h
abbrev E117 : Type := Bdd × Int
def d117 : Td 0 E117 := .c [] [6, 7] (.t (TurnOk.fc 0 1 []) (.c [] [6, 7] (.r 0 1 (ec 6 (qp 0 0) (ec 7 (qi .i64) en)) (sb 0 42 (lg 42) sn) (fun z => (z.2.1, z.1.2.1)) (fun x => (((), x.2, ()), (x.1, ()))) fun _ => rfl)))
def A117 := (lc (qi .i64) (lc (qg 42) (lc (qg 42) ln)))
def t117 : List ((Int × Bdd × Bdd × Unit) × E117) := [((8, ⟨2, [], 1⟩, ⟨2, [⟨1, 1, 0⟩, ⟨0, 1, 2⟩], 3⟩, ()), (⟨2, [⟨1, 1, 0⟩, ⟨0, 1, 2⟩], 3⟩, 0))]
theorem fa117 : FnAn Tryz.prog F29b 0 300 117 .no := fnAn_of (l := []) Tryz.func117 (bodyOf_eq (by kernel_rfl)) (by kernel_rfl) ob_nil
theorem k117 : (t117.map fun p => callR Tryz.prog F29b 300 .no 117 (A117.c p.1) [] 0 d117.rd) = t117.map fun p => some p.2 := by kernel_rfl
theorem hk117 : HL Tryz.prog 117 A117 d117 (tb (γ := Int × Bdd × Bdd × Unit) t117) := fun g b hb =>
 (fnY_of (out := fun p => outY Tryz.prog 117 0 (d117.pat p)) (p := b) F29b_ok fa117 d117.ok (fun p => by kernel_rfl) (ltd_of (by kernel_rfl)) (rltd_of (by kernel_rfl)) (List.map_inj_left.1 k117 _ (tb_ok hb))).2
def e117 : Orc → Orc := eZ Tryz.prog 117 A117 d117 (tb (γ := Int × Bdd × Bdd × Unit) t117)
theorem e117_ok {F : Orc} (h : OrcG Tryz.prog F) : OrcG Tryz.prog (e117 F) := eZ_ok hk117 ⟨_, Tryz.func117, by kernel_rfl, by kernel_rfl⟩ (fun _ => by kernel_rfl) h
end Go.Proofs.YtghilkcphindjaaGreat
end
noncomputable section
set_option maxRecDepth 100000
namespace Go.Proofs.YtghilkcphindjaaGreat
open Go Go.Iv Go.Sort Go.Proofs Go.Shelf Go.RowKit Go.Lib
section
variable {α : Type} [Inhabited α] (r : α → α → Bool)
def kpB (d : Array α) (j : Nat) : Bool := decide (j = 0) || !r d[j]! d[j - 1]!
def upB (d : Array α) (m : Nat) : List α := ((List.range m).filter (kpB r d)).map (d[·]!)
variable {r}
theorem upB_succ (d : Array α) (m : Nat) : upB r d (m + 1) = upB r d m ++ (if kpB r d m then [d[m]!] else []) := by
 unfold upB
 rw [List.range_succ, List.filter_append, List.map_append]
 congr 1
 by_cases h : kpB r d m <;> simp [h]
theorem upB_all (d : Array α) (m : Nat) (h : ∀ j, j < m → kpB r d j = true) : upB r d m = (List.range m).map (d[·]!) := by
  unfold upB
  rw [List.filter_eq_self.2 (fun j hj => h j (List.mem_range.1 hj))]
theorem range_getB (d : Array α) : (List.range d.size).map (d[·]!) = d.toList := by
  apply List.ext_getElem
  · simp
  · intro i h1 h2
    have hi : i < d.size := by simpa using h2
    simp [getElem!_pos, hi]
structure InvB (r : α → α → Bool) (d : Array α) (m k : Nat) (dk : Array α) : Prop where
 size : dk.size = d.size
 len : (upB r d m).length = k
 lt : k < m
 low : ∀ j, j < k → (upB r d m)[j]? = some dk[j]!
 high : ∀ j, k ≤ j → dk[j]! = d[j]!
theorem InvB.start {d : Array α} {k0 : Nat} (hall : ∀ j, j < k0 → kpB r d j = true) (hdup : kpB r d k0 = false) : InvB r d (k0 + 1) k0 d where
 size := rfl
 len := by rw [upB_succ, hdup, upB_all d k0 hall]; simp
 lt := Nat.lt_succ_self _
 low := fun j hj => by rw [upB_succ, hdup, upB_all d k0 hall]; simp [hj]
 high := fun _ _ => rfl
theorem InvB.keep {d dk : Array α} {m k : Nat} (h : InvB r d m k dk) (hm : m < d.size) (hk : kpB r d m = true) : InvB r d (m + 1) (k + 1) (dk.setIfInBounds k d[m]!) where
  size := by simp [h.size]
  len := by rw [upB_succ, hk]; simp [h.len]
  lt := by have := h.lt; omega
  low := fun j hj => by
    rw [upB_succ, hk, if_pos rfl]
    by_cases e : j = k
    · subst e
      rw [List.getElem?_append_right (by rw [h.len]; exact Nat.le_refl _), h.len, Nat.sub_self, getElem!_set_same dk j _ (by have := h.lt; have := h.size; omega)]
      rfl
    · rw [List.getElem?_append_left (by rw [h.len]; omega), h.low j (by omega), getElem!_set_other dk k j _ e]
  high := fun j hj => by rw [getElem!_set_other dk k j _ (by omega), h.high j (by omega)]
theorem InvB.skip {d dk : Array α} {m k : Nat} (h : InvB r d m k dk) (hk : kpB r d m = false) : InvB r d (m + 1) k dk where
 size := h.size
 len := by rw [upB_succ, hk]; simpa using h.len
 lt := by have := h.lt; omega
 low := fun j hj => by rw [upB_succ, hk]; simpa using h.low j hj
 high := h.high
end
section
variable {P : Program} {α : Type} [Inhabited α] {enc : α → List Value} {k : Nat} {w0 W : World} {blk off : Nat} {dk : Array α}
theorem setMany_set (hk : ∀ x, (enc x).length = k) (d : Array α) (i : Nat) (hi : i < d.size) (x : α) : setMany (flatK enc k d) (i * k) (enc x) = flatK enc k (d.setIfInBounds i x) := by
  refine ext_get! (by simp) fun t ht => ?_
  have ht' : t < d.size * k := by simpa using ht
  have k0 : 0 < k := by
    rcases Nat.eq_zero_or_pos k with h | h
    · subst h; simp at ht'
    · exact h
  rw [get_setMany _ _ _ t (by simpa using ht'), get_flatK _ _ _ t ht', get_flatK _ _ _ t (by simpa using ht'), hk]
  by_cases a : t / k = i
  · rw [if_pos ((blk_iff k i t k0).2 a), a, getElem!_set_same d i x hi, Nat.mod_eq_sub_div_mul, a]
  · rw [if_neg (fun h => a ((blk_iff k i t k0).1 h)), getElem!_set_other d i _ x a]
theorem swk_stored (h : SWK enc k w0 blk off dk W) (hk : ∀ x, (enc x).length = k) (hb : blk < w0.heap.size) (i : Nat) (hi : i < dk.size) (x : α) : SWK enc k w0 blk off (dk.setIfInBounds i x) (W.setCells blk (off + i * k) (enc x)) := by
 obtain ⟨n, os, rfl⟩ := h
 refine ⟨n, os, ?_⟩
 unfold sortWorldK
 rw [setCells_grow os blk _ _ _ (by show blk < (putRowK enc k _ blk off dk).heap.size; rw [size_putRowK]; exact hb)]
 congr 1
 unfold putRowK
 have := Nat.mul_le_mul_right k (show i + 1 ≤ dk.size from hi)
 rw [Nat.add_mul, Nat.one_mul] at this
 rw [setCells_putRow _ _ _ _ _ _ (by rw [hk, size_flatK]; exact this), setMany_set hk dk i hi x]
theorem swk_st0 (h : SWK enc k w0 blk off dk W) {d0 : Array α} (R : RowK enc k w0 blk off d0) (hs : dk.size = d0.size) (P : Program) (i : Nat) (hi : i < dk.size) (x : α) :
  Sem.run P (storeCells ⟨blk, off + i * k, none⟩ (enc x) 0) W = .ok () (W.setCells blk (off + i * k) (enc x)) :=
 stores_of_holds P (h.holds R.hblk R.hH hs) (i * k) _ (by rw [R.hk, size_flatK]; exact rowK_bnd dk k i hi) (R.h1 _)
def SWD (enc : α → List Value) (k : Nat) (w0 : World) (blk off : Nat) (dk : Array α) (W : World) : Prop := ∃ q, SWK enc k (redrawn w0 q) blk off dk W
theorem rowK_redrawn {d0 : Array α} (R : RowK enc k w0 blk off d0) (q : Nat) : RowK enc k (redrawn w0 q) blk off d0 := ⟨R.hk, R.h1, R.hH, R.hblk⟩
theorem SWD.start {d0 : Array α} (h : HoldsK enc k w0 blk off d0) : SWD enc k w0 blk off d0 w0 := ⟨w0.drawn, SWK.start h⟩
theorem SWD.grown (h : SWD enc k w0 blk off dk W) (d : Nat) (os : Array Obj) : SWD enc k w0 blk off dk (grow (redrawn W d) os) := by
 obtain ⟨q, n, os0, rfl⟩ := h
 have h1 : SWK enc k (redrawn w0 d) blk off dk (redrawn (sortWorldK enc k (redrawn w0 q) blk off n dk os0) d) := ⟨0, os0, rfl⟩
 exact ⟨d, h1.grown 0 os⟩
theorem SWD.ld {d0 : Array α} (h : SWD enc k w0 blk off dk W) (R : RowK enc k w0 blk off d0) (hs : dk.size = d0.size) (P : Program) (i : Nat) (hi : i < dk.size) (n : Nat) (os : Array Obj) :
  Sem.run P (loadCellsFrom ⟨blk, off + i * k, none⟩ 0 k #[]) (grow (redrawn W n) os) = .ok (enc dk[i]!).toArray (grow (redrawn W n) os) := by
 obtain ⟨q, h1⟩ := h.grown n os
 exact h1.load (rowK_redrawn R q) hs P i hi
theorem swd_stored (h : SWD enc k w0 blk off dk W) (hk : ∀ x, (enc x).length = k) (hb : blk < w0.heap.size) (i : Nat) (hi : i < dk.size) (x : α) : SWD enc k w0 blk off (dk.setIfInBounds i x) (W.setCells blk (off + i * k) (enc x)) := by
 obtain ⟨q, h⟩ := h
 exact ⟨q, swk_stored h hk hb i hi x⟩
theorem swd_st0 {d0 : Array α} (h : SWD enc k w0 blk off dk W) (R : RowK enc k w0 blk off d0) (hs : dk.size = d0.size) (P : Program) (i : Nat) (hi : i < dk.size) (x : α) :
  Sem.run P (storeCells ⟨blk, off + i * k, none⟩ (enc x) 0) W = .ok () (W.setCells blk (off + i * k) (enc x)) := by
 obtain ⟨q, h⟩ := h
 exact swk_st0 h (rowK_redrawn R q) hs P i hi x
theorem calls_regr {f : FuncId} {args : Array Value} {w : World} {n : Nat} {os : Array Obj} {v : Value}
  (h : Calls P f args (grow (redrawn w n) os) fun e w' => e = .returned v ∧ ∃ q os', w' = grow (redrawn (grow (redrawn w n) os) q) os') : Calls P f args (grow (redrawn w n) os) fun e w'' => e = .returned v ∧ ∃ p : Regrown, w'' = grow (redrawn w p.d) p.os :=
 h.mono fun _ _ ⟨he, q, os', hq⟩ => ⟨he, ⟨q, os ++ os'⟩, by rw [hq]; show grow (grow (redrawn w q) os) os' = _; rw [grow_grow]⟩
end
set_option maxHeartbeats 8000000 in
set_option maxRecDepth 1000000 in
theorem compactF {P : Program} {α : Type} [Inhabited α] (FG : P.funcs[89]? = some Tryz.f89) (mixed : P.follows .mixedOrders = true)
    (t3 : P.underlying 3 = some (.int .i64)) (a3 : ∀ w, (isAgg 3).run P w = .ok false w) (z3 : ∀ w, (Go.sizeOf 3).run P w = .ok 1 w) (v3 : ∀ w, (zeroValue 3).run P w = .ok (.int .i64 0) w)
    (t4 : P.underlying 4 = some .bool) (a4 : ∀ w, (isAgg 4).run P w = .ok false w) (z4 : ∀ w, (Go.sizeOf 4).run P w = .ok 1 w) (v4 : ∀ w, (zeroValue 4).run P w = .ok (.bool false) w)
    (t74 : P.underlying 74 = some (.slice 55)) (a74 : ∀ w, (isAgg 74).run P w = .ok false w) (z74 : ∀ w, (Go.sizeOf 74).run P w = .ok 1 w) (v74 : ∀ w, (zeroValue 74).run P w = .ok (.slice none 0 0) w)
    (k : Nat) (aE : ∀ w, (isAgg 55).run P w = .ok true w) (zE : ∀ w, (Go.sizeOf 55).run P w = .ok k w)
    (enc : α → List Value) (r : α → α → Bool) (g : Nat) (cb : Array Value) (blk off cap : Nat) (d : Array α) (w : World)
    (eg : ∀ args w, (callFunc g args).run P w = .ok (.enter g args) w)
    (hcmp : ∀ (dk : Array α) (W : World), dk.size = d.size → SWD enc k w blk off dk W → ∀ x y : α, Calls P g (#[.agg (enc x).toArray, .agg (enc y).toArray] ++ cb) W fun e w' => e = .returned (.bool (r x y)) ∧ ∃ q os', w' = grow (redrawn W q) os')
    (R : RowK enc k w blk off d) (hsz : d.size < 4611686018427387904) (hcap : d.size ≤ cap)
    (zs : Nat → List Value) (hclr : ∀ (W : World) (dk : Array α) (kk : Nat), SWD enc k w blk off dk W → dk.size = d.size → kk < d.size → ∀ ty, (Builtin.clear_ #[74] ty #[.slice (some ⟨blk, off + kk * k, none⟩) (d.size - kk) (cap - kk)]).run P W = .ok (.tuple #[]) (W.setCells blk (off + kk * k) (zs kk))) :
    Calls P 89 #[.slice (some ⟨blk, off, none⟩) d.size cap, .func (.func g) #[] cb] w fun e w' =>
      e = .returned (.slice (some ⟨blk, off, none⟩) (upB r d d.size).length cap) ∧ ∃ (dk : Array α) (W : World), SWD enc k w blk off dk W ∧ dk.size = d.size ∧ (∀ j, j < (upB r d d.size).length → (upB r d d.size)[j]? = some dk[j]!) ∧
        (w' = W ∨ w' = W.setCells blk (off + (upB r d d.size).length * k) (zs (upB r d d.size).length)) := by
  have S00 : SWD enc k w blk off d w := SWD.start R.hH
  have HC : Aside _ := hcmp
  have HCL : Aside _ := hclr
  have S0 : Aside (SWD enc k w blk off d w) := S00
  have same : ∀ W, SWD enc k w blk off d W → (∀ j, j < d.size → kpB r d j = true) → (upB r d d.size).length = d.size ∧ ∃ (dk : Array α) (W' : World), SWD enc k w blk off dk W' ∧ dk.size = d.size ∧ (∀ j, j < (upB r d d.size).length → (upB r d d.size)[j]? = some dk[j]!) ∧ (W = W' ∨ W = W'.setCells blk (off + (upB r d d.size).length * k) (zs (upB r d d.size).length)) := fun W hS hall => by
    have e : upB r d d.size = d.toList := by rw [upB_all d _ hall, range_getB]
    refine ⟨by rw [e]; simp, d, W, hS, rfl, fun j hj => ?_, .inl rfl⟩
    rw [e] at hj ⊢
    have hj' : j < d.size := by simpa using hj
    rw [List.getElem?_eq_getElem hj, getElem!_pos d j hj']
    simp
  have HS : Aside _ := same
  have kp1 : ∀ j, j < 1 → kpB r d j = true := fun j hj => by
    have : j = 0 := by omega
    subst this; rfl
  clear same S00 hcmp hclr
  by_cases h2 : d.size < 2
  · have K1 : Aside (∀ j, j < 1 → kpB r d j = true) := kp1
    clear kp1
    go_enter FG, Tryz.ntmps89
    go_wp2
    go_ret
    obtain ⟨e1, e2⟩ := HS.out w S0.out (fun j hj => K1.out j (by omega))
    exact ⟨by rw [e1]; rfl, e2⟩
  · have K1 : Aside (∀ j, j < 1 → kpB r d j = true) := kp1
    clear kp1
    go_enter FG, Tryz.ntmps89
    go_wp2
    go_loopg [5] d.size (fun g1 s5 wr => ∃ (k1 : Nat), s5 = .int .i64 k1 ∧ 1 ≤ k1 ∧ k1 ≤ d.size ∧ d.size - k1 ≤ g1 ∧ Aside (SWD enc k w blk off d wr) ∧ Aside (∀ j, j < k1 → kpB r d j = true))
    case atStart => exact ⟨1, rfl, Nat.le_refl _, by omega, by omega, S0, K1⟩
    case round =>
      obtain ⟨k1, rfl, hk1, hk2, hg, S1, A1⟩ := hrel
      by_cases hlt : k1 < d.size
      · obtain ⟨kp, rfl⟩ : ∃ kp, k1 = kp + 1 := ⟨k1 - 1, by omega⟩
        obtain ⟨xj, hxj⟩ : ∃ x, d[kp + 1]! = x := ⟨_, rfl⟩
        obtain ⟨xp, hxp⟩ : ∃ x, d[kp]! = x := ⟨_, rfl⟩
        have hwp : IntKind.i64.wrap (kp : Int) = (kp : Int) := by rw [IntKind.wrap_i64]; omega
        have jz : (kp : Int) + 1 < (d.size : Int) := by omega
        have jz1 : (kp : Int) < (d.size : Int) := by omega
        have p0 : (0 : Int) ≤ (kp : Int) + 1 := by omega
        have e0 : ((kp : Int) + 1).toNat = kp + 1 := by omega
        have lj : ∀ n' os', Sem.run P (loadCellsFrom ⟨blk, off + (kp + 1) * k, none⟩ 0 k #[]) (grow (redrawn wr n') os') = .ok (enc xj).toArray (grow (redrawn wr n') os') := fun n' os' => by
          rw [← hxj]; exact S1.out.ld R rfl P (kp + 1) hlt n' os'
        have lp : ∀ n' os', Sem.run P (loadCellsFrom ⟨blk, off + kp * k, none⟩ 0 k #[]) (grow (redrawn wr n') os') = .ok (enc xp).toArray (grow (redrawn wr n') os') := fun n' os' => by
          rw [← hxp]; exact S1.out.ld R rfl P kp (by omega) n' os'
        have hcg : ∀ n' os', Calls P g (#[.agg (enc xj).toArray, .agg (enc xp).toArray] ++ cb) (grow (redrawn wr n') os') fun e w' => e = .returned (.bool (r xj xp)) ∧ ∃ q os'', w' = grow (redrawn (grow (redrawn wr n') os') q) os'' := fun n' os' => HC.out d _ rfl (S1.out.grown n' os') xj xp
        cases hr : r xj xp with
        | true =>
          rw [hr] at hcg
          go_wp2_with fail
          refine wp_region_quiet_below (by assumption) (by kernel_rfl) ?_
          repeat (quiet_step (first | (go_at_fn g; refine calls_regr (hcg _ _))))
          refine wpQuiet_nil ?_
          intro _ hw'
          obtain ⟨⟨nq, osq⟩, hw''⟩ := hw'
          subst hw''
          have S2 : Aside (SWD enc k w blk off d (grow (redrawn wr nq) osq)) := S1.out.grown nq osq
          have I0 : Aside (InvB r d (kp + 1 + 1) (kp + 1) d) := InvB.start A1.out (by unfold kpB; rw [Nat.add_sub_cancel, hxj, hxp, hr]; simp)
          clear lj lp hcg
          generalize grow (redrawn wr nq) osq = wq at S2 ⊢
          go_wp2
          go_loopg [5, 7] d.size (fun g2 s5 s7 wr => ∃ (kk k2 : Nat) (dk : Array α), s5 = .int .i64 kk ∧ s7 = .int .i64 k2 ∧ 1 ≤ k2 ∧ kp + 1 + k2 ≤ d.size ∧ d.size - (kp + 1 + k2) ≤ g2 ∧ Aside (SWD enc k w blk off dk wr) ∧ Aside (InvB r d (kp + 1 + k2) kk dk))
          case atStart => exact ⟨kp + 1, 1, d, rfl, rfl, Nat.le_refl _, by omega, by omega, S2, I0⟩
          case round =>
            obtain ⟨kk, k2, dk, rfl, rfl, hk21, hle, hg2, S3, I3⟩ := hrel
            have hds := I3.out.size
            have hkk := I3.out.lt
            by_cases hlt2 : kp + 1 + k2 < d.size
            · obtain ⟨kq, rfl⟩ : ∃ kq, k2 = kq + 1 := ⟨k2 - 1, by omega⟩
              obtain ⟨xm, hxm⟩ : ∃ x, d[kp + 1 + (kq + 1)]! = x := ⟨_, rfl⟩
              obtain ⟨xq, hxq⟩ : ∃ x, d[kp + 1 + kq]! = x := ⟨_, rfl⟩
              have hm : dk[kp + 1 + (kq + 1)]! = xm := by rw [I3.out.high _ (by omega), hxm]
              have hq : dk[kp + 1 + kq]! = xq := by rw [I3.out.high _ (by omega), hxq]
              have hwq : IntKind.i64.wrap (kq : Int) = (kq : Int) := by rw [IntKind.wrap_i64]; omega
              have q0 : (0 : Int) ≤ (kq : Int) + 1 := by omega
              have f0 : ((kq : Int) + 1).toNat = kq + 1 := by omega
              have lm : ∀ n' os', Sem.run P (loadCellsFrom ⟨blk, off + (kp + 1) * k + (kq + 1) * k, none⟩ 0 k #[]) (grow (redrawn wr n') os') = .ok (enc xm).toArray (grow (redrawn wr n') os') := fun n' os' => by
                have := S3.out.ld R hds P (kp + 1 + (kq + 1)) (by omega) n' os'
                rw [hm, Nat.add_mul (kp + 1) (kq + 1), ← Nat.add_assoc] at this
                exact this
              have lq : ∀ n' os', Sem.run P (loadCellsFrom ⟨blk, off + (kp + 1) * k + kq * k, none⟩ 0 k #[]) (grow (redrawn wr n') os') = .ok (enc xq).toArray (grow (redrawn wr n') os') := fun n' os' => by
                have := S3.out.ld R hds P (kp + 1 + kq) (by omega) n' os'
                rw [hq, Nat.add_mul (kp + 1) kq, ← Nat.add_assoc] at this
                exact this
              have hcg : ∀ n' os', Calls P g (#[.agg (enc xm).toArray, .agg (enc xq).toArray] ++ cb) (grow (redrawn wr n') os') fun e w' => e = .returned (.bool (r xm xq)) ∧ ∃ q os'', w' = grow (redrawn (grow (redrawn wr n') os') q) os'' := fun n' os' => HC.out dk _ hds (S3.out.grown n' os') xm xq
              have jl : (kq : Int) + 1 < ((d.size - (kp + 1) : Nat) : Int) := by omega
              have jl1 : (kq : Int) < ((d.size - (kp + 1) : Nat) : Int) := by omega
              cases hr2 : r xm xq with
              | true =>
                rw [hr2] at hcg
                go_wp2_with fail
                refine wp_region_quiet_below (by assumption) (by kernel_rfl) ?_
                repeat (quiet_step (first | (go_at_fn g; refine calls_regr (hcg _ _))))
                refine wpQuiet_nil ?_
                intro _ hw'
                obtain ⟨⟨nq, osq⟩, hw''⟩ := hw'
                subst hw''
                go_wp2
                go_roundg (d.size - (kp + 1 + (kq + 1 + 1)))
                case measure => omega
                case rel => exact ⟨kk, kq + 1 + 1, dk, rfl, by go_num, by omega, by omega, Nat.le_refl _, S3.out.grown nq osq, I3.out.skip (by unfold kpB; rw [show kp + 1 + (kq + 1) - 1 = kp + 1 + kq by omega, hxm, hxq, hr2]; simp)⟩
              | false =>
                rw [hr2] at hcg
                go_wp2_with fail
                refine wp_region_quiet_below (by assumption) (by kernel_rfl) ?_
                repeat (quiet_step (first | (go_at_fn g; refine calls_regr (hcg _ _))))
                refine wpQuiet_nil ?_
                intro _ hw'
                obtain ⟨⟨nq, osq⟩, hw''⟩ := hw'
                subst hw''
                have lm3 := lm nq osq
                have S4 : Aside (SWD enc k w blk off dk (grow (redrawn wr nq) osq)) := S3.out.grown nq osq
                have st := swd_st0 S4.out R hds P kk (by omega) xm
                have S5 : Aside (SWD enc k w blk off (dk.setIfInBounds kk xm) ((grow (redrawn wr nq) osq).setCells blk (off + kk * k) (enc xm))) := swd_stored S4.out R.hk R.hblk kk (by omega) xm
                have hlm : (enc xm).length = k := R.hk xm
                have I4 : Aside (InvB r d (kp + 1 + (kq + 1) + 1) (kk + 1) (dk.setIfInBounds kk xm)) := by
                  have := I3.out.keep hlt2 (by unfold kpB; rw [show kp + 1 + (kq + 1) - 1 = kp + 1 + kq by omega, hxm, hxq, hr2]; simp)
                  rwa [hxm] at this
                have kz : (kk : Int) < (d.size : Int) := by omega
                have kz0 : (0 : Int) ≤ (kk : Int) := by omega
                clear lm lq hcg
                generalize grow (redrawn wr nq) osq = wq3 at lm3 S4 st S5 ⊢
                generalize enc xm = cm at lm3 st S5 hlm
                go_wp2
                go_roundg (d.size - (kp + 1 + (kq + 1 + 1)))
                case measure => omega
                case rel => exact ⟨kk + 1, kq + 1 + 1, dk.setIfInBounds kk xm, by go_num, by go_num, by omega, by omega, Nat.le_refl _, S5, I4⟩
            · have hend : kp + 1 + k2 = d.size := by omega
              have hcl := fun ty => HCL.out wr dk kk S3.out hds (by omega) ty
              have kz : (kk : Int) ≤ (d.size : Int) := by omega
              have kz1 : (kk : Int) ≤ (cap : Int) := by omega
              go_wp2
              go_ret
              have hI := I3.out
              rw [hend] at hI
              exact ⟨by rw [hI.len]; rfl, dk, wr, S3.out, hds, fun j hj => hI.low j (by rw [← hI.len]; exact hj), .inr (by rw [hI.len])⟩
        | false =>
          rw [hr] at hcg
          go_wp2_with fail
          refine wp_region_quiet_below (by assumption) (by kernel_rfl) ?_
          repeat (quiet_step (first | (go_at_fn g; refine calls_regr (hcg _ _))))
          refine wpQuiet_nil ?_
          intro _ hw'
          obtain ⟨⟨nq, osq⟩, hw''⟩ := hw'
          subst hw''
          go_wp2
          go_roundg (d.size - (kp + 1 + 1))
          case measure => omega
          case rel =>
            refine ⟨kp + 1 + 1, by go_num, by omega, by omega, Nat.le_refl _, S1.out.grown nq osq, fun j hj => ?_⟩
            by_cases e : j = kp + 1
            · subst e
              unfold kpB
              rw [Nat.add_sub_cancel, hxj, hxp, hr]
              simp
            · exact A1.out j (by omega)
      · have : k1 = d.size := by omega
        subst this
        go_wp2
        go_ret
        obtain ⟨e1, e2⟩ := HS.out _ S1.out A1.out
        exact ⟨by rw [e1]; rfl, e2⟩
set_option maxHeartbeats 1000000 in
theorem compactF_nil (FG : Tryz.prog.funcs[89]? = some Tryz.f89) (p : Option Addr) (cap : Nat) (fv : Value) (w : World) :
  Calls Tryz.prog 89 #[.slice p 0 cap, fv] w fun e w' => e = .returned (.slice p 0 cap) ∧ w' = w := by
 go_enter FG, Tryz.ntmps89
 go_wp2
 go_ret
 exact ⟨rfl, rfl⟩
end Go.Proofs.YtghilkcphindjaaGreat
end
noncomputable section
set_option maxRecDepth 100000
namespace Go.Proofs.YtghilkcphindjaaGreat
open Go Go.Iv
open Go.IntKind (i64 u64)
def F273 : Orc := or0
theorem F273_ok : OrcG Tryz.prog F273 := or0_g
abbrev E273 : Type := Bool
def d273 : Td 0 E273 := .c [] [2] (.r 0 0 (ec 2 qb en) sn (fun z => z.1.1) (fun x => ((x, ()), (()))) fun _ => rfl)
def A273 := (lc (qi .i64) ln)
def an273 : An := .no
theorem fa273 : FnAn Tryz.prog (F273) 0 300 273 (an273) := fnAn_of (l := []) Tryz.func273 (bodyOf_eq (by kernel_rfl)) (by kernel_rfl) ob_nil
def m273 (a0 : Int) : E273 :=
 bif decide (a0 = a0) then false else true
theorem c273 (a0 : Int) : callR Tryz.prog (F273) 300 (an273) 273 (A273.c (a0, ())) [] 0 d273.rd = some (m273 a0) := by
 refine Eq.trans (b := (
  some (bif decide (a0 = a0) then false else true) : Option E273)) (by kernel_rfl) ?_
 simp only [m273, cond_some, ite_some]
def e273 : Orc → Orc := eL Tryz.prog 273 false A273 d273 (fun g => some (m273 g.1))
theorem e273_ok {F : Orc} (h : OrcG Tryz.prog F) : OrcG Tryz.prog (e273 F) := eL_ok (sc := scU) scU_ok (hl_of F273_ok fa273 (fun _ => by kernel_rfl) (fun _ => by kernel_rfl) fun g => c273 g.1) ⟨_, Tryz.func273, by kernel_rfl, by kernel_rfl⟩ (fun _ => by kernel_rfl) (fun _ => by kernel_rfl) h
def F223 : Orc := (e273 or0)
theorem F223_ok : OrcG Tryz.prog F223 := (e273_ok or0_g)
abbrev E223 : Type := Int
def d223 : Td 0 E223 := .c [] [4] (.r 0 0 (ec 4 (qi .i64) en) sn (fun z => z.1.1) (fun x => ((x, ()), (()))) fun _ => rfl)
def A223 := (lc (qi .i64) (lc (qi .i64) ln))
def an223 : An := .no
theorem fa223 : FnAn Tryz.prog (F223) 0 300 223 (an223) := fnAn_of (l := []) Tryz.func223 (bodyOf_eq (by kernel_rfl)) (by kernel_rfl) ob_nil
def m223 (a0 : Int) (a1 : Int) : E223 :=
 bif m273 a0 then bif m273 a1 then 0 else -1 else bif m273 a1 then 1 else bif decide (a0 < a1) then -1 else bif decide (a1 < a0) then 1 else 0
theorem c223 (a0 : Int) (a1 : Int) : callR Tryz.prog (F223) 300 (an223) 223 (A223.c (a0, a1, ())) [] 0 d223.rd = some (m223 a0 a1) := by
 refine Eq.trans (b := (
  bif m273 a0 then bif m273 a1 then some (0) else some (-1) else bif m273 a1 then some (1) else bif decide (a0 < a1) then some (-1) else bif decide (a1 < a0) then some (1) else some (0) : Option E223)) (by kernel_rfl) ?_
 simp only [m223, cond_some, ite_some]
def e223 : Orc → Orc := eL Tryz.prog 223 false A223 d223 (fun g => some (m223 g.1 g.2.1))
theorem e223_ok {F : Orc} (h : OrcG Tryz.prog F) : OrcG Tryz.prog (e223 F) := eL_ok (sc := scU) scU_ok (hl_of F223_ok fa223 (fun _ => by kernel_rfl) (fun _ => by kernel_rfl) fun g => c223 g.1 g.2.1) ⟨_, Tryz.func223, by kernel_rfl, by kernel_rfl⟩ (fun _ => by kernel_rfl) (fun _ => by kernel_rfl) h
def F155 : Orc := (e223 or0)
theorem F155_ok : OrcG Tryz.prog F155 := (e223_ok or0_g)
structure L155_0 where
 t0 : List Int
 t1 : List Int
 t9 : List Int
 t10 : Int
 t11 : Int
def d155_0 : Td 0 L155_0 := .c [] [0, 1, 9, 10, 11] (.r 0 0 (ec 0 (ql 3) (ec 1 (ql 3) (ec 9 (ql 3) (ec 10 (qi .i64) (ec 11 (qi .i64) en))))) sn (fun z => ⟨z.1.1, z.1.2.1, z.1.2.2.1, z.1.2.2.2.1, z.1.2.2.2.2.1⟩) (fun x => ((x.t0, x.t1, x.t9, x.t10, x.t11, ()), (()))) fun _ => rfl)
def n155_0 (p : L155_0) : Option (Option L155_0) :=
 bif decide (p.t11 < p.t10) then if (0 : Int) ≤ p.t11 ∧ p.t11 < (↑p.t9.length : Int) then bif decide ((↑p.t1.length : Int) ≤ p.t11) then some (none) else if (0 : Int) ≤ p.t11 ∧ p.t11 < (↑p.t1.length : Int) then bif bif decide (m223 p.t9[p.t11.toNat]! p.t1[p.t11.toNat]! = 0) then false else true then some (none) else some (some (L155_0.mk p.t0 p.t1 p.t9 p.t10 (i64.wrap (p.t11 + 1)))) else none else none else some (none)
theorem q155_0 (p : L155_0) : execA Tryz.prog (F155) Tryz.f155.ntmps 300 (loopAt Tryz.f155 0) .no (Option L155_0) (d155_0.pat p) (kOn d155_0.rd) = n155_0 p := by kernel_rfl
def a155_0 : L155_0 → Option L155_0 := advG (n155_0)
abbrev E155 : Type := Int
def d155 : Td 0 E155 := .c [] [4] (.r 0 0 (ec 4 (qi .i64) en) sn (fun z => z.1.1) (fun x => ((x, ()), (()))) fun _ => rfl)
def A155 := (lc (ql 3) (lc (ql 3) ln))
def an155 : An := (.two .no (.two (.two .no (d155_0.lp a155_0 .no)) .no))
theorem fa155 : FnAn Tryz.prog (F155) 0 300 155 (an155) := fnAn_of (l := [(loopAt Tryz.f155 0, (d155_0.lp a155_0 .no))]) Tryz.func155 (bodyOf_eq (by kernel_rfl)) (by kernel_rfl) (ob_cons ⟨d155_0.ok _, advG_ok (q155_0)⟩ ob_nil)
def m155 (a0 : List Int) (a1 : List Int) : Option E155 :=
 match a155_0 (L155_0.mk a0 a1 a0 (↑a0.length : Int) (0)) with | none => none | some r1 => bif decide (r1.t11 < r1.t10) then if (0 : Int) ≤ r1.t11 ∧ r1.t11 < (↑r1.t9.length : Int) then bif decide ((↑r1.t1.length : Int) ≤ r1.t11) then some (1) else if (0 : Int) ≤ r1.t11 ∧ r1.t11 < (↑r1.t1.length : Int) then bif bif decide (m223 r1.t9[r1.t11.toNat]! r1.t1[r1.t11.toNat]! = 0) then false else true then some (m223 r1.t9[r1.t11.toNat]! r1.t1[r1.t11.toNat]!) else none else none else none else bif decide ((↑r1.t0.length : Int) < (↑r1.t1.length : Int)) then some (-1) else some (0)
theorem c155 (a0 : List Int) (a1 : List Int) : callR Tryz.prog (F155) 300 (an155) 155 (A155.c (a0, a1, ())) [] 0 d155.rd = m155 a0 a1 := by kernel_rfl
def e155 : Orc → Orc := eL Tryz.prog 155 false A155 d155 (fun g => m155 g.1 g.2.1)
theorem e155_ok {F : Orc} (h : OrcG Tryz.prog F) : OrcG Tryz.prog (e155 F) := eL_ok (sc := scU) scU_ok (hl_of F155_ok fa155 (fun _ => by kernel_rfl) (fun _ => by kernel_rfl) fun g => c155 g.1 g.2.1) ⟨_, Tryz.func155, by kernel_rfl, by kernel_rfl⟩ (fun _ => by kernel_rfl) (fun _ => by kernel_rfl) h
def F88 : Orc := (e155 or0)
theorem F88_ok : OrcG Tryz.prog F88 := (e155_ok or0_g)
abbrev E88 : Type := Int
def d88 : Td 0 E88 := .c [] [4] (.r 0 0 (ec 4 (qi .i64) en) sn (fun z => z.1.1) (fun x => ((x, ()), (()))) fun _ => rfl)
def A88 := (lc (qg 55) (lc (qg 55) ln))
def an88 : An := .no
theorem fa88 : FnAn Tryz.prog (F88) 0 300 88 (an88) := fnAn_of (l := []) Tryz.func88 (bodyOf_eq (by kernel_rfl)) (by kernel_rfl) ob_nil
def m88 (a0 : Observation) (a1 : Observation) : Option E88 :=
 match m155 a0.fOutputs a1.fOutputs with | none => none | some r1 => bif bif decide (r1 = 0) then false else true then some (r1) else bif decide (a0.fTime < a1.fTime) then some (-1) else bif decide (a1.fTime < a0.fTime) then some (1) else some (0)
theorem c88 (a0 : Observation) (a1 : Observation) : callR Tryz.prog (F88) 300 (an88) 88 (A88.c (a0, a1, ())) [] 0 d88.rd = m88 a0 a1 := by kernel_rfl
def e88 : Orc → Orc := eL Tryz.prog 88 false A88 d88 (fun g => m88 g.1 g.2.1)
theorem e88_ok {F : Orc} (h : OrcG Tryz.prog F) : OrcG Tryz.prog (e88 F) := eL_ok (sc := scU) scU_ok (hl_of F88_ok fa88 (fun _ => by kernel_rfl) (fun _ => by kernel_rfl) fun g => c88 g.1 g.2.1) ⟨_, Tryz.func88, by kernel_rfl, by kernel_rfl⟩ (fun _ => by kernel_rfl) (fun _ => by kernel_rfl) h
def F90 : Orc := (e88 or0)
theorem F90_ok : OrcG Tryz.prog F90 := (e88_ok or0_g)
abbrev E90 : Type := Bool
def d90 : Td 0 E90 := .c [] [4] (.r 0 0 (ec 4 qb en) sn (fun z => z.1.1) (fun x => ((x, ()), (()))) fun _ => rfl)
def A90 := (lc (qg 55) (lc (qg 55) ln))
def an90 : An := .no
theorem fa90 : FnAn Tryz.prog (F90) 0 300 90 (an90) := fnAn_of (l := []) Tryz.func90 (bodyOf_eq (by kernel_rfl)) (by kernel_rfl) ob_nil
def m90 (a0 : Observation) (a1 : Observation) : Option E90 :=
 match m88 a0 a1 with | none => none | some r1 => some (decide (r1 = 0))
theorem c90 (a0 : Observation) (a1 : Observation) : callR Tryz.prog (F90) 300 (an90) 90 (A90.c (a0, a1, ())) [] 0 d90.rd = m90 a0 a1 := by kernel_rfl
def e90 : Orc → Orc := eL Tryz.prog 90 false A90 d90 (fun g => m90 g.1 g.2.1)
theorem e90_ok {F : Orc} (h : OrcG Tryz.prog F) : OrcG Tryz.prog (e90 F) := eL_ok (sc := scU) scU_ok (hl_of F90_ok fa90 (fun _ => by kernel_rfl) (fun _ => by kernel_rfl) fun g => c90 g.1 g.2.1) ⟨_, Tryz.func90, by kernel_rfl, by kernel_rfl⟩ (fun _ => by kernel_rfl) (fun _ => by kernel_rfl) h
def cmpI : List Int → List Int → Int
 | [], [] => 0
 | [], _ :: _ => -1
 | _ :: _, [] => 1
 | x :: a, y :: b => if x < y then -1 else if y < x then 1 else cmpI a b
def cmpB (x y : Observation) : Int := if cmpI x.fOutputs y.fOutputs ≠ 0 then cmpI x.fOutputs y.fOutputs else if x.fTime < y.fTime then -1 else if y.fTime < x.fTime then 1 else 0
theorem m223_eq (x y : Int) : m223 x y = if x < y then -1 else if y < x then 1 else 0 := by
  unfold m223 m273
  simp only [decide_true, cond_true, cond_false]
  by_cases h : x < y
  · simp [h]
  · by_cases k : y < x <;> simp [h, k]
theorem m155_min (a b : List Int) (ha : a.length ≤ 9223372036854775807 ∨ b.length ≤ 9223372036854775807) : m155 a b = some (cmpI a b) := by
  obtain ⟨step, hs⟩ : ∃ step : Nat → Unit → Int → Unit ⊕ Int, step = fun i _ x => if b.length ≤ i then .inr 1 else if m223 x b[i]! ≠ 0 then .inr (m223 x b[i]!) else .inl () := ⟨_, rfl⟩
  obtain ⟨fin, hf⟩ : ∃ fin : Unit → Option Int, fin = fun _ => some (if a.length < b.length then -1 else 0) := ⟨_, rfl⟩
  obtain ⟨i, v, e1, -, hI⟩ := loopV (rnd := n155_0) a (fun i (_ : Unit) => ⟨a, b, a, (a.length : Int), (i : Int)⟩) step some fin (fun _ _ => True) (fun i v hi _ => by
    have i1 : (i : Int) < (a.length : Int) := by omega
    have i2 : (0 : Int) ≤ (i : Int) := by omega
    rw [hs]
    refine ⟨fun b' h => ⟨?_, trivial⟩, fun r h => ?_⟩ <;> dsimp only at h
    · split at h
      · cases h
      · split at h
        · cases h
        · rename_i g1 g2
          have g3 : ¬ (b.length : Int) ≤ (i : Int) := by omega
          have g4 : (i : Int) < (b.length : Int) := by omega
          have hw : i64.wrap ((i : Int) + 1) = ((i + 1 : Nat) : Int) := by rw [wrap_id (by omega) (by omega)]; omega
          unfold n155_0
          simp only [Int.toNat_natCast, i1, i2, g3, g4, decide_true, decide_false, cond_true, cond_false, and_self, if_true, hw, Decidable.not_not.1 g2]
    · split at h
      · rename_i g1
        have g3 : (b.length : Int) ≤ (i : Int) := by omega
        unfold n155_0
        simp only [Int.toNat_natCast, i1, i2, g3, decide_true, cond_true, and_self, if_true]
      · split at h
        · rename_i g1 g2
          have g3 : ¬ (b.length : Int) ≤ (i : Int) := by omega
          have g4 : (i : Int) < (b.length : Int) := by omega
          unfold n155_0
          simp only [Int.toNat_natCast, i1, i2, g3, g4, decide_true, decide_false, cond_true, cond_false, and_self, if_true, g2]
        · cases h) (fun v _ => by unfold n155_0; simp) (b := ()) trivial
  have e1' : a155_0 ⟨a, b, a, (a.length : Int), 0⟩ = some ⟨a, b, a, (a.length : Int), (i : Int)⟩ := e1
  have key : ∀ (l : List Int) (k : Nat), k ≤ b.length → a.length = k + l.length → goE step some fin l k () = some (cmpI l (b.drop k)) := by
    intro l
    induction l with
    | nil =>
      intro k hk hl
      simp only [goE, hf]
      simp only [List.length_nil, Nat.add_zero] at hl
      by_cases h : k = b.length
      · rw [h, List.drop_length, if_neg (by omega)]; rfl
      · rw [List.drop_eq_getElem_cons (by omega), if_pos (by omega)]; rfl
    | cons x l ih =>
      intro k hk hl
      simp only [List.length_cons] at hl
      by_cases h : k = b.length
      · rw [goE_inr (r := 1) (by rw [hs]; simp [h]), h, List.drop_length]; rfl
      · have hk' : k < b.length := by omega
        rw [List.drop_eq_getElem_cons hk']
        have e := m223_eq x b[k]!
        have eb : b[k]! = b[k] := getElem!_pos b k hk'
        rw [eb] at e
        unfold cmpI
        by_cases h1 : x < b[k]
        · rw [goE_inr (r := -1) (by rw [hs]; simp [show ¬ b.length ≤ k by omega, e, eb, h1]), if_pos h1]
        · by_cases h2 : b[k] < x
          · rw [goE_inr (r := 1) (by rw [hs]; simp [show ¬ b.length ≤ k by omega, e, eb, h1, h2]), if_neg h1, if_pos h2]
          · rw [goE_inl (b' := ()) (by rw [hs]; simp [show ¬ b.length ≤ k by omega, e, eb, h1, h2]), if_neg h1, if_neg h2]
            exact ih (k + 1) (by omega) (by omega)
  have hk := key a 0 (by omega) (by omega)
  rw [List.drop_zero] at hk
  rw [← hk]
  unfold m155
  simp only [e1']
  rcases hI with ⟨rfl, hg⟩ | ⟨hi, r, hr, hg⟩
  · rw [hg, hf]
    simp only [Int.lt_irrefl, decide_false, cond_false]
    by_cases h : a.length < b.length
    · rw [if_pos h, decide_eq_true (by omega : (a.length : Int) < (b.length : Int))]; rfl
    · rw [if_neg h, decide_eq_false (by omega : ¬ (a.length : Int) < (b.length : Int))]; rfl
  · rw [hg]
    have i1 : (i : Int) < (a.length : Int) := by omega
    have i2 : (0 : Int) ≤ (i : Int) := by omega
    rw [hs] at hr
    simp only at hr
    split at hr
    · rename_i g1
      have g3 : (b.length : Int) ≤ (i : Int) := by omega
      simp only [Int.toNat_natCast, i1, i2, g3, decide_true, cond_true, and_self, if_true]
      cases hr; rfl
    · split at hr
      · rename_i g1 g2
        have g3 : ¬ (b.length : Int) ≤ (i : Int) := by omega
        have g4 : (i : Int) < (b.length : Int) := by omega
        simp only [Int.toNat_natCast, i1, i2, g3, g4, decide_true, decide_false, cond_true, cond_false, and_self, if_true, g2]
        cases hr; rfl
      · cases hr
theorem m88_min (a b : Observation) (ha : a.fOutputs.length ≤ 9223372036854775807 ∨ b.fOutputs.length ≤ 9223372036854775807) : m88 a b = some (cmpB a b) := by
  unfold m88 cmpB
  rw [m155_min _ _ ha]
  dsimp only
  by_cases h : cmpI a.fOutputs b.fOutputs = 0
  · by_cases h1 : a.fTime < b.fTime
    · simp [h, h1]
    · by_cases h2 : b.fTime < a.fTime <;> simp [h, h1, h2]
  · simp [h]
theorem m88_eq (a b : Observation) (ha : a.fOutputs.length ≤ 9223372036854775807) : m88 a b = some (cmpB a b) := m88_min a b (.inl ha)
def cmpG : Observation → List Observation → List Observation
 | _, [] => []
 | p, y :: l => if cmpB y p = 0 then cmpG y l else y :: cmpG y l
def cmpO : List Observation → List Observation
 | [] => []
 | x :: l => x :: cmpG x l
end Go.Proofs.YtghilkcphindjaaGreat
end
noncomputable section
set_option maxRecDepth 100000
namespace Go.Proofs.YtghilkcphindjaaGreat
open Go Go.Iv Go.Sort Go.Proofs
abbrev Ob (A : Nat → Prop) (w : World) := {p : Observation × List Value // p.2.length = 2 ∧ RelL A w (uni.cells 55 p.1) p.2}
section
variable {A : Nat → Prop} {w : World}
theorem rel47 {o : Observation} {us : List Value} (h : us.length = 2 ∧ RelL A w (uni.cells 55 o) us) : ∃ u v, us = [u, v] ∧ Rel A w (.sl 3 o.fOutputs) u ∧ v = .int .i64 o.fTime := by
 obtain ⟨h1, h2⟩ := h
 match us, h1 with
 | [u, v], _ => exact ⟨u, v, rfl, h2.2 0 _ _ rfl rfl, (h2.2 1 (.lit (.int .i64 o.fTime)) v rfl rfl).litEq⟩
theorem rel47_mk {o : Observation} {u : Value} (h : Rel A w (.sl 3 o.fOutputs) u) : RelL A w (uni.cells 55 o) [u, .int .i64 o.fTime] :=
 ⟨rfl, fun j a v h1 h2 => by
  match j with
  | 0 => cases h1; cases h2; exact h
  | 1 => cases h1; cases h2; exact .lit _
  | j + 2 => cases h1⟩
theorem nil47 : Rel A w (.sl 3 ([] : List Int)) (.slice none 0 0) := Rel.sl (U := uni) 3 [] none 0 (fun _ _ => .int .i64 0) (Nat.zero_le _) (Nat.le_refl _) (fun i hi => by cases hi) (fun i hi => by cases hi) (fun i j a hi => by cases hi)
instance : Inhabited (Ob A w) := ⟨⟨(⟨[], 0⟩, [.slice none 0 0, .int .i64 0]), rfl, rel47_mk nil47⟩⟩
def obE (x : Ob A w) : List Value := x.1.2
theorem obE_len (x : Ob A w) : (obE x).length = 2 := x.2.1
theorem obE_one (x : Ob A w) : ∀ v ∈ obE x, v.oneCell' = true := fun v hv => by
  obtain ⟨u, t, h1, h2, h3⟩ := rel47 x.2
  unfold obE at hv
  rw [h1] at hv
  rcases List.mem_cons.1 hv with rfl | hv
  · cases h2; rfl
  · rw [List.mem_singleton.1 hv, h3]; rfl
theorem obLen (x : Ob A w) : x.1.1.fOutputs.length ≤ 9223372036854775807 := by
 obtain ⟨u, t, h1, h2, h3⟩ := rel47 x.2
 generalize x.1.1.fOutputs = l at h2
 cases h2 with
 | sl t l p cap u hl hcap hz hc hr => exact hl
theorem flatK_two {α : Type} [Inhabited α] (enc : α → List Value) (d : Array α) {us : List Value} (h1 : us.length = d.size * 2) (h : ∀ i, i < d.size → enc d[i]! = (us.drop (i * 2)).take 2) : flatK enc 2 d = us.toArray := by
 refine ext_get! (by simp [h1]) fun t ht => ?_
 have ht : t < d.size * 2 := by simpa using ht
 rw [get_flatK _ _ _ _ ht, h _ (by omega)]
 have e : (us.toArray : Array Value)[t]! = us[t]! := by simp
 rw [e, getElem!_pos us t (by omega), getElem!_pos _ _ (by simp; omega), List.getElem_take, List.getElem_drop]
 congr 1
 omega
theorem holdsK_of {α : Type} [Inhabited α] {enc : α → List Value} {d : Array α} {W : World} {g : Nat} {cur : Array Value} {T : TypeId} {us : List Value} (hb : W.heap[g]? = some (.cells cur T (0, 0))) (hf : flatK enc 2 d = us.toArray) (hc : cur.toList.take us.length = us) : HoldsK enc 2 W g 0 d := by
 unfold HoldsK
 rw [hf]
 intro j hj
 have hj' : j < us.length := by simpa using hj
 refine ⟨?_, by simp [World.frozen?, hb]⟩
 have h1 : (cur.toList.take us.length)[j]? = us[j]? := by rw [hc]
 rw [List.getElem?_take_of_lt hj'] at h1
 simp only [World.cell?, hb, Nat.zero_add]
 simp only [Option.isSome_none, Bool.false_eq_true, if_false]
 rw [← Array.getElem?_toList, h1]
 simp [hj']
theorem heap_world {α : Type} [Inhabited α] {enc : α → List Value} {W : World} {g m : Nat} {dk : Array α} {os : Array Obj} {cur : Array Value} {T : TypeId} (hb : W.heap[g]? = some (.cells cur T (0, 0))) :
  (sortWorldK enc 2 W g 0 m dk os).heap[g]? = some (.cells (putCells id 0 (flatK enc 2 dk) cur) T (0, 0)) := by
 have hg : g < W.heap.size := (Array.getElem?_eq_some_iff.1 hb).1
 unfold sortWorldK putRowK
 rw [heap_grow_old _ _ (by simpa using hg)]
 simp [putRow, mapBlock, Sort.ahead, Array.getElem?_modify, hb, onCells]
theorem other_world {α : Type} [Inhabited α] {enc : α → List Value} {W : World} {g m : Nat} {dk : Array α} {os : Array Obj} {b : Nat} (hb : b < W.heap.size) (hne : b ≠ g) :
  (sortWorldK enc 2 W g 0 m dk os).heap[b]? = W.heap[b]? := by
 unfold sortWorldK putRowK
 rw [heap_grow_old _ _ (by simpa using hb)]
 simp [putRow, mapBlock, Sort.ahead, Array.getElem?_modify, Ne.symm hne]
theorem size_world {α : Type} [Inhabited α] {enc : α → List Value} {W : World} {g m : Nat} {dk : Array α} {os : Array Obj} : W.heap.size ≤ (sortWorldK enc 2 W g 0 m dk os).heap.size := size_sortWorldK_c enc 2 W g 0 m dk os
theorem kp_world {α : Type} [Inhabited α] {enc : α → List Value} {W : World} {g m : Nat} {dk : Array α} {os : Array Obj} : Kp [g] W (sortWorldK enc 2 W g 0 m dk os) :=
 ⟨rfl, rfl, rfl, size_world, fun k hk hn => other_world hk (by simpa using hn)⟩
theorem take_put {F cur : Array Value} (h : F.size ≤ cur.size) : (putCells id 0 F cur).toList.take F.size = F.toList := by
  apply List.ext_getElem?
  intro j
  by_cases hj : j < F.size
  · rw [List.getElem?_take_of_lt hj, Array.getElem?_toList]
    simp [putCells, hj, show j < cur.size by omega]
  · rw [List.getElem?_take_eq_none (by omega), List.getElem?_eq_none (by simp; omega)]
theorem grow_of {W W' : World} (h : Kp [] W W') : ∃ q os, W' = grow (redrawn W q) os := by
 obtain ⟨p, hp⟩ := regrown_of_below h.below
 exact ⟨p.d, p.os, hp⟩
theorem fn90 (a b : Observation) (h : a.fOutputs.length ≤ 9223372036854775807) : Iv.Fn Tryz.prog 90 [.agg (uni.cells 55 a), .agg (uni.cells 55 b)] [] (fun x s => x = .b (decide (cmpB a b = 0)) ∧ s = []) :=
 (fn_run (F := e90 or0) (e90_ok or0_g).ok P0.b rfl (ltd_of (by kernel_rfl)) ((show e90 or0 Bool 90 [.agg (uni.cells 55 a), .agg (uni.cells 55 b)] [] 0 (kRes asB) = (match m90 a b with | none => none | some r => some r) from by kernel_rfl).trans (by unfold m90; rw [m88_eq a b h]))).2
theorem lays_of {f : Nat} {x y : Ob A w} {r : Value} (hf : Iv.Fn Tryz.prog f [.agg (uni.cells 55 x.1.1), .agg (uni.cells 55 y.1.1)] [] (fun a s => a = .lit r ∧ s = [])) {W : World} (hW : ∀ b, b < w.heap.size → A b → W.heap[b]? = w.heap[b]?) :
    Calls Tryz.prog f #[.agg (obE x).toArray, .agg (obE y).toArray] W fun e w' => e = .returned r ∧ ∃ q os', w' = grow (redrawn W q) os' := by
  have hr : ∀ z : Ob A w, RelL A W (uni.cells 55 z.1.1) (obE z) := fun z => z.2.2.mono fun b hb hA => ⟨hA, hW b hb hA⟩
  refine (hf W A [.agg (obE x).toArray, .agg (obE y).toArray] ⟨rfl, fun j a v h1 h2 => ?_⟩ ⟨fun r hr => (by cases hr), fun b hb => (by cases hb)⟩ List.nodup_nil).mono fun e w' ⟨v, av, σ', he, ⟨h1, h2⟩, ht, hv⟩ => ?_
  · match j with
    | 0 => cases h1; cases h2; exact .agg _ _ (hr x).1 (hr x).2
    | 1 => cases h1; cases h2; exact .agg _ _ (hr y).1 (hr y).2
    | j + 2 => cases h1
  · rw [h1] at hv
    exact ⟨by rw [he, hv.litEq], grow_of ht.kp⟩
end
theorem row47 {A : Nat → Prop} {w : World} {l : List Observation} {us : List Value} (h1 : us.length = l.length * 2) (h3 : ∀ i, i < l.length → RelL A w (uni.cells 55 l[i]!) ((us.drop (i * 2)).take 2)) :
    ∃ d : Array (Ob A w), d.size = l.length ∧ (d.toList.map fun x => x.1.1) = l ∧ flatK obE 2 d = us.toArray := by
  have hx : ∀ i : Fin l.length, ((us.drop (i.1 * 2)).take 2).length = 2 ∧ RelL A w (uni.cells 55 l[i]) ((us.drop (i.1 * 2)).take 2) := fun i => by
    have hi := i.2
    refine ⟨by rw [List.length_take, List.length_drop]; omega, ?_⟩
    have := h3 i.1 hi
    rwa [getElem!_pos l i.1 hi] at this
  refine ⟨Array.ofFn fun i : Fin l.length => (⟨(l[i], (us.drop (i.1 * 2)).take 2), hx i⟩ : Ob A w), by simp, ?_, flatK_two _ _ (by simpa using h1) fun i hi => ?_⟩
  · apply List.ext_getElem (by simp)
    intro i q1 q2
    simp
  · have hi' : i < l.length := by simpa using hi
    rw [getElem!_pos _ i hi]
    simp [obE]
theorem row47' {A : Nat → Prop} {w : World} (d : Array (Ob A w)) (l : List Observation) (h : (d.toList.map fun x => x.1.1) = l) : (flatK obE 2 d).toList.length = l.length * 2 ∧ ∀ i, i < l.length → RelL A w (uni.cells 55 l[i]!) (((flatK obE 2 d).toList.drop (i * 2)).take 2) := by
  have hs : d.size = l.length := by rw [← h]; simp
  refine ⟨by simp [hs], fun i hi => ?_⟩
  have e : (((flatK obE 2 d).toList.drop (i * 2)).take 2) = obE d[i]! := by
    apply List.ext_getElem
    · rw [obE_len, List.length_take, List.length_drop]; simp [hs]; omega
    · intro j q1 q2
      rw [obE_len] at q2
      rw [List.getElem_take, List.getElem_drop, Array.getElem_toList]
      have := get_flatK obE 2 d (i * 2 + j) (by omega)
      rw [getElem!_pos _ _ (by simp; omega)] at this
      rw [this, show (i * 2 + j) / 2 = i by omega, show (i * 2 + j) % 2 = j by omega, getElem!_pos _ j (by rw [obE_len]; exact q2)]
  rw [e]
  have e2 : l[i]! = d[i]!.1.1 := by
    subst h
    rw [getElem!_pos _ i hi, getElem!_pos d i (by omega)]
    simp
  rw [e2]
  exact d[i]!.2.2
abbrev E89 : Type := List Observation
def d89 : Td 1 E89 := .c [] [4] (.r 1 2 (ec 4 (qo 1) en) (sr 1 55 sn) (fun z => z.2.1) (fun x => (((), ()), (x, ()))) fun _ => rfl)
def A89 := (lc (qo 0) (lc (qf 90 ln) ln))
def B89 := (sr 0 55 sn)
def m89 (b0 : List Observation) : Option E89 := if b0.length ≤ 1073741824 then some (cmpO b0) else none
def Gv89 : Prop := HY Tryz.prog 89 1 A89 B89 d89 (fun g => m89 g.2.1)
def e89 : Orc → Orc := eY Tryz.prog 89 1 A89 B89 d89 (fun g => m89 g.2.1)
theorem e89_okv (hv : Gv89) {F : Orc} (h : OrcG Tryz.prog F) : OrcG Tryz.prog (e89 F) := eY_ok hv ⟨_, Tryz.func89, by kernel_rfl, by kernel_rfl⟩ (fun _ => by kernel_rfl) h
theorem heap_setCells {g : Nat} {T : TypeId} : ∀ (vs : List Value) (o : Nat) (W : World) (cur : Array Value), W.heap[g]? = some (.cells cur T (0, 0)) → (W.setCells g o vs).heap[g]? = some (.cells (setMany cur o vs) T (0, 0))
 | [], _, _, _, h => h
 | v :: vs, o, W, cur, h => by
  rw [World.setCells, setMany]
  refine heap_setCells vs (o + 1) _ _ ?_
  rw [setCell_eq]
  simp [mapBlock, Array.getElem?_modify, h, onCells]
theorem kp_setCells {g : Nat} : ∀ (vs : List Value) (o : Nat) (W : World), Kp [g] W (W.setCells g o vs)
 | [], _, W => Kp.refl _ W
 | v :: vs, o, W => by
  rw [World.setCells]
  refine Kp.trans (w1 := W.setCell ⟨g, o, none⟩ v) (X := [g]) (Y := [g]) ?_ (kp_setCells vs (o + 1) _) (fun b hb _ => hb)
  rw [setCell_eq]
  refine ⟨rfl, rfl, rfl, by simp [mapBlock], fun k hk hX => ?_⟩
  have : g ≠ k := fun e => hX (by simp [e])
  simp [mapBlock, Array.getElem?_modify, this]
theorem cmpG_snoc (x : Observation) : ∀ (l : List Observation) (p : Observation), cmpG p (l ++ [x]) = cmpG p l ++ if cmpB x (l.getLastD p) = 0 then [] else [x]
 | [], p => by
  by_cases h : cmpB x p = 0 <;> simp [cmpG, h]
 | y :: l, p => by
  simp only [List.cons_append, cmpG]
  rw [cmpG_snoc x l y]
  have e : (y :: l).getLastD p = l.getLastD y := by cases l <;> rfl
  rw [e]
  split <;> simp
section
variable {A : Nat → Prop} {w : World}
def eqO (x y : Ob A w) : Bool := decide (cmpB x.1.1 y.1.1 = 0)
theorem upB_cmp (d : Array (Ob A w)) : ∀ m, m ≤ d.size → (upB eqO d m).map (fun x => x.1.1) = cmpO ((d.toList.map fun x => x.1.1).take m)
  | 0, _ => by simp [upB, cmpO]
  | m + 1, hm => by
    have ih := upB_cmp d m (by omega)
    have hl : m < (d.toList.map fun x => x.1.1).length := by simp; omega
    have eg : ∀ j, j < d.size → (d.toList.map fun x => x.1.1)[j]! = d[j]!.1.1 := fun j hj => by
      rw [getElem!_pos _ j (by simpa using hj), getElem!_pos d j hj]
      simp
    rw [upB_succ, List.map_append, ih, take_succL hl, eg m (by omega)]
    by_cases h0 : m = 0
    · subst h0
      simp [kpB, cmpO, cmpG]
    · obtain ⟨n, rfl⟩ : ∃ n, m = n + 1 := ⟨m - 1, by omega⟩
      have hl2 : n < (d.toList.map fun x => x.1.1).length := by simp; omega
      have e2 : (d.toList.map fun x => x.1.1).take (n + 1) = (d.toList.map fun x => x.1.1).take n ++ [d[n]!.1.1] := by rw [take_succL hl2, eg n (by omega)]
      obtain ⟨q, hq⟩ : ∃ q, q = (d.toList.map fun x => x.1.1).take (n + 1) := ⟨_, rfl⟩
      rw [← hq]
      cases q with
      | nil => rw [e2] at hq; simp at hq
      | cons a q =>
        show _ = a :: cmpG a (q ++ [d[n + 1]!.1.1])
        rw [cmpG_snoc]
        have : q.getLastD a = d[n]!.1.1 := by
          have h1 := congrArg List.getLast? hq
          rw [e2, List.getLast?_append, List.getLast?_singleton, Option.some_or, List.getLast?_cons] at h1
          rw [List.getLastD_eq_getLast?]
          exact Option.some.inj h1
        rw [this]
        unfold kpB eqO
        rw [Nat.add_sub_cancel]
        by_cases hc : cmpB d[n + 1]!.1.1 d[n]!.1.1 = 0 <;> simp [hc, cmpO]
end
theorem cmpG_le : ∀ (l : List Observation) (p : Observation), (cmpG p l).length ≤ l.length
 | [], _ => Nat.le_refl _
 | y :: l, p => by
  have := cmpG_le l y
  unfold cmpG
  split <;> simp <;> omega
theorem cmpO_le (l : List Observation) : (cmpO l).length ≤ l.length := by
 cases l with
 | nil => exact Nat.le_refl _
 | cons x l => have := cmpG_le l x; simp [cmpO]; omega
theorem clear47 {W : World} {gb n kk : Nat} {F : Array Value} (h : W.heap[gb]? = some (.cells F 55 (0, 0))) (hs : n * 2 ≤ F.size) (hk : kk < n) {c : Nat} {ty : TypeId} :
  (Builtin.clear_ #[74] ty #[.slice (some ⟨gb, 0 + kk * 2, none⟩) (n - kk) c]).run Tryz.prog W = .ok (.tuple #[]) (W.setCells gb (0 + kk * 2) (Builtin.zeroCells #[.slice none 0 0, .int .i64 0] (n - kk)).toList) := by
 have hl : (Builtin.zeroCells #[.slice none 0 0, .int .i64 0] (n - kk)).toList.length = (n - kk) * 2 := by simp [Builtin.zeroCells]
 have hst := run_storeCells_cells (P := Tryz.prog) gb (0 + kk * 2) (Builtin.zeroCells #[.slice none 0 0, .int .i64 0] (n - kk)).toList 0 W (fun j hj => by
   rw [hl] at hj
   simp only [World.cell?, h, Option.isSome_none, Bool.false_eq_true, if_false]
   rw [Array.getElem?_eq_getElem (by omega)]
   rfl) (fun j hj => by simp [World.frozen?, h]) (fun v hv => by
   simp only [Builtin.zeroCells, Array.toList_map, List.mem_map] at hv
   obtain ⟨i, _, rfl⟩ := hv
   have : i % (#[.slice none 0 0, .int .i64 0] : Array Value).size < 2 := Nat.mod_lt _ (by decide)
   generalize i % (#[.slice none 0 0, .int .i64 0] : Array Value).size = q at this
   match q, this with
   | 0, _ => rfl
   | 1, _ => rfl)
 simp only [Nat.add_zero] at hst
 obtain ⟨m, hm⟩ : ∃ m, n - kk = m + 1 := ⟨n - kk - 1, by omega⟩
 rw [hm] at hst ⊢
 rw [Nat.zero_add] at hst ⊢
 simp [Builtin.clear_, run_underlying Tryz.underlying74, Tryz.zeroValue55, Value.cells, hst]
theorem gv89a (l b : List Observation) (hb : m89 l = some b) : FnY Tryz.prog 89 [.own 0, .fn (.func 90) []] [(0, .row 55 l)] 1 (outY Tryz.prog 89 1 (d89.pat b)) := by
  unfold m89 at hb
  split at hb
  case isFalse => cases hb
  rename_i hlen
  have hbl : b = cmpO l := (Option.some.inj hb).symm
  intro ρ
  have ho : outY Tryz.prog 89 1 (d89.pat b) = ⟨.own 1, [(1, .row 55 b)], 2⟩ := by kernel_rfl
  show Go.Iv.Fn Tryz.prog 89 [(AVq.own 0).sub ρ, (AVq.fn (.func 90) []).sub ρ] (IRs.res ρ [(0, .row 55 l)]) _
  rw [ho, sub_own, show (AVq.fn (Dat := uni.Dat) (.func 90) []).sub ρ = .fn (.func 90) [] by simp [AVq.sub]]
  intro w A vs hr hd hn
  obtain ⟨hr1, hr2⟩ := hr
  obtain ⟨v, v2, rfl⟩ : ∃ v v2, vs = [v, v2] := by
    match vs, hr1 with
    | [v, v2], _ => exact ⟨v, v2, rfl⟩
  have hv : v = ρ.v 0 := (hr2 0 _ v rfl rfl).litEq
  have hv2 : v2 = .func (.func 90) #[] #[] := by
    have := hr2 1 (.fn (.func 90) []) v2 rfl rfl
    cases this with
    | fn f cs us hl hrr => rw [List.length_eq_zero_iff.1 hl]
  subst hv hv2
  generalize hv : ρ.v 0 = v at *
  have hok := hd.1 (.row v 55 l) (by show _ ∈ [Res.row (ρ.v 0) 55 l]; rw [hv]; exact List.mem_singleton.2 rfl)
  obtain ⟨us, h1, h2, h3⟩ := hok
  have hσ : IRs.res ρ [(0, .row 55 l)] = [Res.row v 55 l] := by show [Res.row (ρ.v 0) 55 l] = _; rw [hv]
  rw [hσ] at hd hn ⊢
  have fin : ∀ (w' : World) (u : Value), rblk u = rblk v → (∃ us', RowIs w' u 55 2 b.length us' ∧ ∀ i, i < b.length → RelL A w (uni.cells 55 b[i]!) ((us'.drop (i * 2)).take 2)) → Kp (blks [Res.row v 55 l]) w w' → ∃ v_1 av σ', Ending.returned u = Ending.returned v_1 ∧
      (∃ ρ', Agr 1 ρ ρ' ∧ av = (AVq.own (Dat := uni.Dat) 1).sub ρ' ∧ List.Perm σ' (IRs.res ρ' [(1, .row 55 b)])) ∧ Tr ⟨w, A, blks [Res.row v 55 l]⟩ (blks [Res.row v 55 l]) [Res.row v 55 l] w σ' w' ∧ Rel (al ⟨w, A, blks [Res.row v 55 l]⟩ σ') w' av v_1 := fun w' u hu ⟨us', hrow, hrel⟩ hk => by
    have hbk : blks [Res.row u 55 b] = blks [Res.row v 55 l] := by simp only [blks, List.filterMap_cons, Res.blk, hu]
    have hal : ∀ x, al ⟨w, A, blks [Res.row v 55 l]⟩ [Res.row v 55 l] x → al ⟨w, A, blks [Res.row v 55 l]⟩ [Res.row u 55 b] x := fun x h => ⟨h.1, by rw [hbk]; exact h.2⟩
    refine ⟨u, .lit u, [Res.row u 55 b], rfl, ⟨⟨fun i => if i = 1 then u else ρ.v i, ρ.b⟩, fun i hi => ⟨by show _ = if i = 1 then u else ρ.v i; rw [if_neg (by omega)], rfl⟩, by rw [sub_own]; rfl, List.Perm.refl _⟩, ⟨⟨hk, ?_, ?_, ?_⟩, hk, fun x _ h => ⟨hal x h, h.2⟩⟩, .lit u⟩
    · intro r hr
      rw [List.mem_singleton.1 hr]
      refine ⟨us', hrow, fun i _ => rfl, fun i hi => (hrel i hi).mono fun x hx hA => ?_⟩
      have hnb : x ∉ blks [Res.row v 55 l] := fun h => hd.2 x h hA
      exact ⟨⟨.inl hA, by rw [hbk]; exact hnb⟩, hk.block x hx hnb⟩
    · rw [hbk]; exact hn
    · intro x hx; rw [hbk] at hx; exact .inl hx
  obtain ⟨h1l, hcase⟩ := h1
  rcases hcase with ⟨p, hvp, hl0⟩ | ⟨gb, cap, cur, hvp, hg, q1, q2, q3, q4⟩
  · have hl : l = [] := List.length_eq_zero_iff.1 hl0
    have hbn : b = [] := by rw [hbl, hl]; rfl
    subst hvp
    refine (compactF_nil Tryz.func89 p 0 (.func (.func 90) #[] #[]) w).mono fun e w' he => ?_
    obtain ⟨rfl, rfl⟩ := he
    refine fin w' _ rfl ⟨[], ?_, fun i hi => by rw [hbn] at hi; cases hi⟩ (Kp.refl _ _)
    rw [hbn]
    exact ⟨rfl, .inl ⟨p, rfl, rfl⟩⟩
  · subst hvp
    have hgs : gb < w.heap.size := (Array.getElem?_eq_some_iff.1 hg).1
    have hAg : ¬ A gb := hd.2 gb (mem_blks.2 ⟨_, List.mem_singleton.2 rfl, rfl⟩)
    have q4 : cur.toList.take (l.length * 2) = us := q4
    have q3 : cur.size = (cap + 1) * 2 := q3
    have h1l : us.length = l.length * 2 := h1l
    have q1' : l.length ≤ cap + 1 := q1
    obtain ⟨d, d1, d2, d3⟩ := row47 h1l h3
    have hH : HoldsK obE 2 w gb 0 d := holdsK_of hg d3 (by rw [h1l]; exact q4)
    have hcmp : ∀ (dk : Array (Ob A w)) (W : World), dk.size = d.size → SWD obE 2 w gb 0 dk W → ∀ x y : Ob A w, Calls Tryz.prog 90 (#[.agg (obE x).toArray, .agg (obE y).toArray] ++ #[]) W fun e w' => e = .returned (.bool (eqO x y)) ∧ ∃ q os', w' = grow (redrawn W q) os' := fun dk W hdk ⟨q0, n, os, hW⟩ x y => by
      subst hW
      exact lays_of (fn90 x.1.1 y.1.1 (obLen x)) (fun c hc hA => other_world hc fun e => hAg (e ▸ hA))
    have hs := compactF (P := Tryz.prog) Tryz.func89 (by kernel_rfl) Tryz.underlying3 Tryz.isAgg3 Tryz.sizeOf3 Tryz.zeroValue3 Tryz.underlying4 Tryz.isAgg4 Tryz.sizeOf4 Tryz.zeroValue4 Tryz.underlying74 Tryz.isAgg74 Tryz.sizeOf74 Tryz.zeroValue74
      2 Tryz.isAgg55 Tryz.sizeOf55 obE eqO 90 #[] gb 0 (cap + 1) d w (enters_of Tryz.func90 (by kernel_rfl) rfl) hcmp ⟨obE_len, obE_one, hH, hgs⟩ (by rw [d1]; omega) (by rw [d1]; exact q1')
      (fun kk => (Builtin.zeroCells #[.slice none 0 0, .int .i64 0] (d.size - kk)).toList) (fun W dk kk hS hdk hkk ty => by
        obtain ⟨q0, n, os, rfl⟩ := hS
        exact clear47 (heap_world (enc := obE) (W := redrawn w q0) hg) (by simp [putCells, q3]; omega) hkk)
    rw [d1] at hs
    refine hs.mono fun e w' he => ?_
    obtain ⟨rfl, dk, W, ⟨q0, n, os, hW⟩, hdk, hlow, hfin⟩ := he
    rw [← d1] at hlow hfin ⊢
    obtain ⟨L, hL⟩ : ∃ L, L = upB eqO d d.size := ⟨_, rfl⟩
    rw [← hL] at hlow hfin ⊢
    have hLb : L.map (fun x => x.1.1) = b := by
      rw [hL, upB_cmp d d.size (Nat.le_refl _), d2, d1, List.take_length, hbl]
    have hLlen : L.length = b.length := by rw [← hLb, List.length_map]
    have hbll : b.length ≤ l.length := by rw [hbl]; exact cmpO_le l
    have hWg : W.heap[gb]? = some (.cells (putCells id 0 (flatK obE 2 dk) cur) 55 (0, 0)) := by rw [hW]; exact heap_world (W := redrawn w q0) hg
    have hkW : Kp [gb] w W := by
      have k1 : Kp [gb] (redrawn w q0) (sortWorldK obE 2 (redrawn w q0) gb 0 n dk os) := kp_world
      rw [hW]
      exact ⟨k1.os, k1.tape, k1.output, k1.size, k1.block⟩
    have hFs : (flatK obE 2 dk).size = l.length * 2 := by rw [size_flatK, hdk]
    obtain ⟨F, hF1, hF2, hF3, hF4⟩ : ∃ F : Array Value, w'.heap[gb]? = some (.cells F 55 (0, 0)) ∧ F.size = (cap + 1) * 2 ∧ F.toList.take (b.length * 2) = (flatK obE 2 dk).toList.take (b.length * 2) ∧ Kp [gb] w w' := by
      have ht := take_put (F := flatK obE 2 dk) (cur := cur) (by rw [hFs, q3]; omega)
      have ht2 : (putCells id 0 (flatK obE 2 dk) cur).toList.take (b.length * 2) = (flatK obE 2 dk).toList.take (b.length * 2) := by
        rw [← ht, List.take_take, Nat.min_eq_left (by rw [hFs]; omega)]
      rcases hfin with rfl | rfl
      · exact ⟨_, hWg, by simp [putCells, q3], ht2, hkW⟩
      · refine ⟨_, heap_setCells _ _ _ _ hWg, by simp [putCells, q3], ?_, Kp.trans hkW (kp_setCells _ _ _) fun x hx _ => hx⟩
        rw [← ht2]
        apply List.ext_getElem?
        intro j
        by_cases hj : j < b.length * 2
        · rw [List.getElem?_take_of_lt hj, List.getElem?_take_of_lt hj, Array.getElem?_toList, Array.getElem?_toList]
          have hjs : j < (putCells id 0 (flatK obE 2 dk) cur).size := by simp [putCells, q3]; omega
          have := get_setMany ((Builtin.zeroCells #[.slice none 0 0, .int .i64 0] (d.size - L.length)).toList) (0 + L.length * 2) _ j hjs
          rw [if_neg (by omega), getElem!_pos _ j (by simpa using hjs), getElem!_pos _ j hjs] at this
          rw [Array.getElem?_eq_getElem (by simpa using hjs), Array.getElem?_eq_getElem hjs, this]
        · rw [List.getElem?_take_eq_none (by omega), List.getElem?_take_eq_none (by omega)]
    have hdl : flatK obE 2 L.toArray = ((flatK obE 2 dk).toList.take (b.length * 2)).toArray := by
      refine ext_get! (by simp [hLlen, hFs]; omega) fun t ht => ?_
      have ht : t < L.length * 2 := by simpa using ht
      rw [get_flatK _ _ _ t (by simpa using ht)]
      have e1 : (L.toArray)[t / 2]! = dk[t / 2]! := by
        have := hlow (t / 2) (by omega)
        rw [getElem!_pos _ (t / 2) (by simp; omega)]
        rw [List.getElem?_eq_getElem (by omega)] at this
        simpa using Option.some.inj this
      have e2 : (((flatK obE 2 dk).toList.take (b.length * 2)).toArray)[t]! = (flatK obE 2 dk)[t]! := by
        rw [getElem!_pos _ t (by simp [hFs]; omega), getElem!_pos _ t (by rw [hFs]; omega)]
        simp
      rw [e1, e2, get_flatK _ _ _ t (by rw [hdk]; omega)]
    obtain ⟨r1, r2⟩ := row47' L.toArray b (by simpa using hLb)
    rw [hdl] at r1 r2
    refine fin w' _ rfl ⟨(flatK obE 2 dk).toList.take (b.length * 2), ⟨by simpa using r1, .inr ⟨gb, cap, F, by rw [hLlen], hF1, by omega, q2, hF2, hF3⟩⟩, fun i hi => by simpa using r2 i hi⟩ hF4
theorem gv89 : Gv89 := fun g b hb => gv89a g.2.1 b hb
end Go.Proofs.YtghilkcphindjaaGreat
end
noncomputable section
set_option maxRecDepth 100000
namespace Go.Proofs.YtghilkcphindjaaGreat
open Go Go.Iv
open Go.IntKind (i64 u64)
abbrev E92 : Type := List Int
def d92 : Td 0 E92 := .c [] [2] (.t (TurnOk.s 2 [] 3) (.c [] [2] (.r 0 1 (ec 2 (qo 0) en) (sr 0 3 sn) (fun z => z.2.1) (fun x => (((), ()), (x, ()))) fun _ => rfl)))
def A92 := (lc (ql 3) ln)
def m92 (a0 : List Int) : Option E92 := if a0.length ≤ 1073741824 then some a0 else none
theorem fa92 : FnAn Tryz.prog or0 0 300 92 .no := fnAn_of (l := []) Tryz.func92 (bodyOf_eq (by kernel_rfl)) (by kernel_rfl) ob_nil
theorem ca92 (x : Int) (xs : List Int) : callR Tryz.prog or0 300 .no 92 [.sl 3 (x :: xs)] [] 0 d92.rd = if ([] ++ (x :: xs)).length ≤ 1073741824 then some ([] ++ (x :: xs)) else none := by kernel_rfl
theorem cb92 (c : Nat) : callR Tryz.prog or0 300 .no 92 [.lit (.slice none 0 c)] [] 0 d92.rd = some [] := by kernel_rfl
theorem cc92 (a : Addr) (c : Nat) : callR Tryz.prog or0 300 .no 92 [.lit (.slice (some a) 0 c)] [] 0 d92.rd = some [] := by kernel_rfl
theorem h92 : HL Tryz.prog 92 A92 d92 (fun g => m92 g.1) := fun g r h => by
 obtain ⟨a0, _⟩ := g
 have h : m92 a0 = some r := h
 cases a0 with
 | cons x xs => exact (fnY_of (out := fun p => outY Tryz.prog 92 0 (d92.pat p)) (p := r) or0_g fa92 d92.ok (fun p => by kernel_rfl) (ltd_of (by kernel_rfl)) (rltd_of (by kernel_rfl)) ((ca92 x xs).trans (by rw [List.nil_append]; exact h))).2
 | nil =>
  cases h
  exact fnY_nil (fun c => (fnY_of (out := fun p => outY Tryz.prog 92 0 (d92.pat p)) (p := []) or0_g fa92 d92.ok (fun p => by kernel_rfl) (ltd_of (by kernel_rfl)) (rltd_of (by kernel_rfl)) (cb92 c)).2) (fun a c => (fnY_of (out := fun p => outY Tryz.prog 92 0 (d92.pat p)) (p := []) or0_g fa92 d92.ok (fun p => by kernel_rfl) (ltd_of (by kernel_rfl)) (rltd_of (by kernel_rfl)) (cc92 a c)).2)
def e92 : Orc → Orc := eL Tryz.prog 92 false A92 d92 (fun g => m92 g.1)
theorem e92_ok {F : Orc} (h : OrcG Tryz.prog F) : OrcG Tryz.prog (e92 F) := eL_ok (sc := scU) scU_ok h92 ⟨_, Tryz.func92, by kernel_rfl, by kernel_rfl⟩ (fun _ => by kernel_rfl) (fun _ => by kernel_rfl) h
def B12 : Orc := e178 (e134 (e184 (e145 (e148 (e117 (e210 (e151 (e292 (e89 (e92 or0))))))))))
theorem B12_ok : OrcG Tryz.prog B12 := e178_ok (e134_ok (e184_ok (e145_ok (e148_ok (e117_ok (e210_ok (e151_ok (e292_ok (e89_okv gv89 (e92_ok or0_g))))))))))
theorem t12 : callN Tryz.prog B12 (fun f => Nat.beq f 178 || Nat.beq f 134 || Nat.beq f 184 || Nat.beq f 145 || Nat.beq f 148 || Nat.beq f 117 || Nat.beq f 210 || Nat.beq f 151 || Nat.beq f 292 || Nat.beq f 89 || Nat.beq f 92) 300 60 Bool 12 [] [] 0 (kRes asB) = some true := by kernel_rfl
abbrev E12 : Type := Bool
def d12 : Td 0 E12 := .c [] [0] (.r 0 0 (ec 0 qb en) sn (fun z => z.1.1) (fun x => ((x, ()), (()))) fun _ => rfl)
def A12 := ln
def m12 : E12 := true
def Gv12 : Prop := HL Tryz.prog 12 A12 d12 (fun _ => some m12)
def e12 : Orc → Orc := eL Tryz.prog 12 false A12 d12 (fun _ => some m12)
theorem e12_okv (hv : Gv12) {F : Orc} (h : OrcG Tryz.prog F) : OrcG Tryz.prog (e12 F) := eL_ok (sc := scU) scU_ok hv ⟨_, Tryz.func12, by kernel_rfl, by kernel_rfl⟩ (fun _ => by kernel_rfl) (fun _ => by kernel_rfl) h
theorem e12_pure {F : Orc} {f : Nat} (h : PureF F f) : PureF (e12 F) f := orL_pure h (fun _ => by kernel_rfl)
theorem fnY_ofFn12 {P : Program} {f : FuncId} {xs : List AV} {d : AV} (h : Iv.Fn P f xs [] (fun a s => a = d ∧ s = [])) (ha : ∀ ρ : Gh, xs.map (AVq.sub ρ) = xs) (hd : ∀ ρ : Gh, d.sub ρ = d) : FnY P f xs [] 0 ⟨d, [], 0⟩ := fun ρ => by
 rw [ha ρ]
 exact h.mono fun a s ⟨h1, h2⟩ => ⟨ρ, fun _ _ => ⟨rfl, rfl⟩, by rw [h1]; exact (hd ρ).symm, by rw [h2]; exact List.Perm.refl _⟩
theorem o12_eq : outY Tryz.prog 12 0 (d12.pat m12) = ⟨.b true, [], 0⟩ := by kernel_rfl
theorem gv12 : Gv12 := fun g b hb => by
 cases hb
 rw [o12_eq]
 exact fnY_ofFn12 (fn_run (callN_ok (P := Tryz.prog) B12_ok.ok B12_ok.nat 300 60) P0.b rfl (fun d hd => by cases hd) t12).2 (fun _ => rfl) (fun ρ => cloB_sub 2 (by kernel_rfl))
def F3 : Orc := (e17 (e16 (e15 (e14 (e13 (e12 or0))))))
theorem F3_ok : OrcG Tryz.prog F3 := (e17_ok (e16_ok (e15_ok (e14_ok (e13_ok (e12_okv gv12 or0_g))))))
abbrev E3 : Type := Bool
def d3 : Td 0 E3 := .c [] [2] (.r 0 0 (ec 2 qb en) sn (fun z => z.1.1) (fun x => ((x, ()), (()))) fun _ => rfl)
def A3 := (lc (qg 26) ln)
def an3 : An := (.two .no (.two .no (.two .no (.two .no (.two (.two .no (.two .no (.two (.two (.rb [17] 2) .no) .no))) (.two .no (.two (.rb [17] 2) .no)))))))
theorem pu3  : ∀ f ∈ ([17] : List Nat), PureF (F3) f := (ob_cons (e17_pure (e16_skip (f := 17) rfl (e15_pure (e14_skip (f := 17) rfl (e13_pure (e12_pure or0_pure)))))) ob_nil)
theorem fa3 : FnAn Tryz.prog (F3) 0 300 3 (an3) := fnAn_of (l := [(.skip, (.rb [17] 2)), (.skip, (.rb [17] 2))]) Tryz.func3 (bodyOf_eq (by kernel_rfl)) (by kernel_rfl) (ob_cons pu3 (ob_cons pu3 ob_nil))
def m3 (a0 : Flat) : Option E3 :=
 bif bif m12 then false else true then some (false) else match m13 a0 (20) (200) with | none => none | some r1 => bif bif r1 then false else true then some (true) else match m14 a0 with | none => none | some r2 => match m15 a0 with | none => none | some r3 => bif bif decide (r3 = 0) then false else true then match bif decide (r2.snd = r3) then some (decide ((↑r2.fst.length : Int) = 0)) else some (false) with | none => none | some r4 => some (r4) else match m16 a0 with | none => none | some r5 => match bif decide (r2.snd = 0) then match m17 r2.fst r5.fst with | none => none | some r6 => some (r6) else some (false) with | none => none | some r7 => some (r7)
theorem c3 (a0 : Flat) : callR Tryz.prog (F3) 300 (an3) 3 (A3.c (a0, ())) [] 0 d3.rd = m3 a0 := by kernel_rfl
theorem h3 : HL Tryz.prog 3 A3 d3 (fun g => m3 g.1) := (hl_of F3_ok fa3 (fun _ => by kernel_rfl) (fun _ => by kernel_rfl) fun g => c3 g.1)
abbrev E6 : Type := Bool
def d6 : Td 0 E6 := .c [] [6] (.r 0 0 (ec 6 qb en) sn (fun z => z.1.1) (fun x => ((x, ()), (()))) fun _ => rfl)
theorem m3_true (f : Flat) : m3 f = some true := by
  have h12 : m12 = true := rfl
  unfold m3
  rw [h12, m13_eq f 20 200 (by omega) (by omega) (by omega) (by omega)]
  by_cases hf : few f 20 200 = true
  · obtain ⟨r2, r3, e2, e3, g1, g2⟩ := law3 f hf
    by_cases hc : r3 = 0
    · obtain ⟨k1, r5, e5, e6⟩ := g2 hc
      simp only [hf, e2, e3, hc, e5, e6, k1, decide_true, cond_true, cond_false]
    · obtain ⟨k1, k2⟩ := g1 hc
      simp only [hf, e2, e3, hc, k1, k2, decide_true, decide_false, cond_true, cond_false, List.length_nil, Int.ofNat_zero]
  · simp only [eq_false_of_ne_true hf, cond_true, cond_false]
end Go.Proofs.YtghilkcphindjaaGreat
end
noncomputable section
namespace Go.Iv
variable [U : Uni]
open Go Go.RowKit Go.Deep Go.ChangeShapes Go.WideShapes Go.Joins
theorem fn_law {P : Program} {f : FuncId} {args : List AV} (h : Iv.Fn P f args [] (fun a s => a = .b true ∧ s = [])) {A : Nat → Prop} {w : World} {vs : List Value} (hr : RelL A w args vs) :
  Calls P f vs.toArray w fun e w' => ∃ v, e = .returned v ∧ v = .bool true ∧ Below w.heap.size w w' :=
 (h w A vs hr ⟨fun r hr => by simp at hr, fun b hb => by simp [blks] at hb⟩ (by simp [blks])).mono fun e w' ⟨v, av, σ', h1, ⟨h2, h3⟩, h4, h5⟩ => by
  subst h2
  exact ⟨v, h1, h5.litEq, h4.kp.below⟩
abbrev anyB : Nat → Prop := fun _ => True
def Opn {α : Type} {H : Type} (enc : TypeId × Value → H) (P : Program) (w : World) (t : TypeId) (c : α → List AV) (ok : α → Prop) : Prop :=
 ∀ (base : Nat) (fuel : Nat) (cs : List Value) (x : DataW H × List MemPlace), DataW.trod enc P w base (fun _ => true) true fuel t cs = some x → ∃ a, ok a ∧ RelL anyB w (c a) cs
section
variable {α : Type} {H : Type} {enc : TypeId × Value → H} {P : Program} {w : World} {t e : TypeId}
theorem Opn.int {k : IntKind} (ht : P.underlying t = some (.int k)) : Opn enc P w t (cN k) (fun n => (Lit.int k n).wf = true) := fun base fuel cs x h => by
 obtain ⟨n, rfl, _, hw⟩ := DataW.trod_int ht h
 exact ⟨n, hw, RelL.cons (.lit _) RelL.nil⟩
theorem Opn.slice {ok : U.Dat e → Prop} {sz : Nat} (ht : P.underlying t = some (.slice e)) (hc : P.cellsOf e = sz + 1) (hs : U.sz e = sz + 1) (he : Opn enc P w e (U.cells e) ok) :
    Opn enc P w t (fun l : List (U.Dat e) => [.sl e l]) (fun l => l.length ≤ 9223372036854775807 ∧ ∀ a ∈ l, ok a) := fun base fuel cs x h => by
  rcases open_slice ht h with ⟨rfl, _⟩ | ⟨a, len, cp, m, n, D, Pl, hcs, hb, hl, hm, hmm, _, hx⟩
  · refine ⟨[], ⟨by simp, by simp⟩, RelL.cons ?_ RelL.nil⟩
    exact .sl e ([] : List (U.Dat e)) none 0 (fun _ _ => default) (by simp) (by simp) (fun i hi => by simp at hi) (fun i hi => by simp at hi) (fun i j a hi => by simp at hi)
  · subst hcs
    have hmm : m = cp := by rw [hmm]; rfl
    rw [hc] at hx
    have hmx : cp ≤ 9223372036854775807 := by unfold maxLen at hm; omega
    obtain ⟨CS, hCS⟩ := choose_lt (α := List Value × U.Dat e) (p := fun i y => w.cells? base (a.add (i * (sz + 1))) (sz + 1) = some y.1 ∧ ok y.2 ∧ RelL anyB w (U.cells e y.2) y.1) (n := len) (fun i hi => by
      obtain ⟨cs', h1, h2⟩ := hx i (by omega)
      obtain ⟨y, h3, h4⟩ := he _ _ _ _ h2
      exact ⟨(cs', y), h1, h3, h4⟩)
    obtain ⟨l, hld⟩ : ∃ l : List (U.Dat e), l = (List.range len).map fun i => (CS i).2 := ⟨_, rfl⟩
    have hln : l.length = len := by rw [hld]; simp
    have hget : ∀ i, i < len → l[i]! = (CS i).2 := fun i hi => by
      rw [getElem!_pos l i (by omega)]; simp [hld]
    refine ⟨l, ⟨by omega, fun y hy => ?_⟩, RelL.cons ?_ RelL.nil⟩
    · rw [hld, List.mem_map] at hy
      obtain ⟨i, hi, rfl⟩ := hy
      exact (hCS i (by simpa using hi)).2.1
    · rw [← hln]
      refine .sl e l (some a) cp (fun i j => (CS i).1[j]!) (by omega) (by omega) (fun i hi => ?_) (fun i hi => ?_) (fun i j av hi hj => ?_)
      · rw [hln] at hi
        obtain ⟨h1, _, h3⟩ := hCS i hi
        obtain ⟨_, h5, _⟩ := World.cells?_some h1
        rw [hget i hi, ← h3.1, h5, hs]
      · rw [hln] at hi
        obtain ⟨h1, _, h3⟩ := hCS i hi
        obtain ⟨_, h5, h6⟩ := World.cells?_some h1
        have hj : ∀ j, j < sz + 1 → w.cell? ((a.add (i * (sz + 1))).add j) = some (CS i).1[j]! := fun j hj => by
          rw [h6 j hj, getElem!_pos _ j (by omega), List.getElem?_eq_getElem (by omega)]
        obtain ⟨b, off, spot⟩ := a
        have hs : spot = none := by
          obtain ⟨g1, _, _⟩ := hCS 0 (by omega)
          obtain ⟨_, g5, g6⟩ := World.cells?_some g1
          have := World.cell?_spot (v := (CS 0).1[0]!) (w := w) (a := ((⟨b, off, spot⟩ : Addr).add (0 * (sz + 1))).add 0) (by rw [g6 0 (by omega), getElem!_pos _ 0 (by omega), List.getElem?_eq_getElem (by omega)])
          simpa [Addr.add] using this
        subst hs
        have hj' : ∀ j, j < sz + 1 → w.cell? ⟨b, off + i * (sz + 1) + j, none⟩ = some (CS i).1[j]! := fun j hlt => by
          have := hj j hlt
          have ap : ∀ o i : Nat, (⟨b, o, none⟩ : Addr).add i = ⟨b, o + i, none⟩ := fun o i => by
            unfold Addr.add
            split
            · rename_i h0; simp only [h0, Nat.add_zero]
            · rfl
          rw [ap, ap] at this
          exact this
        exact ⟨b, off, rfl, World.block_lt_of_cell? w _ (hj' 0 (by omega)), trivial, by rw [hs]; exact hj'⟩
      · rw [hln] at hi
        rw [hget i hi] at hj
        obtain ⟨h1, _, h3⟩ := hCS i hi
        obtain ⟨v, q1, q2⟩ := h3.get hj
        show Rel anyB w av (CS i).1[j]!
        obtain ⟨q3, q4⟩ := List.getElem?_eq_some_iff.1 q1
        rw [getElem!_pos _ j q3, q4]
        exact q2
theorem Opn.agg {c : α → List AV} {ok : α → Prop} {v : Value} {cs : Array Value} {d : DataW H} {p : List MemPlace} (he : Opn enc P w t c ok) (hv : v = .agg cs) (h : DataW.Trod enc P w 0 (fun _ => true) true t v d p) : ∃ a, ok a ∧ Rel anyB w (.agg (c a)) v := by
 obtain ⟨fuel, hf⟩ := h
 subst hv
 obtain ⟨l⟩ := cs
 obtain ⟨a, h1, h2⟩ := he _ _ _ _ hf
 exact ⟨a, h1, Rel.aggL h2⟩
end
theorem FnY.law [L : UniL] {P : Program} {f : FuncId} {args : List AV} {x : Out} (h : FnY P f args [] 0 x) (hx : x = ⟨.b true, [], 0⟩) (ha : args.all (cloB 2) = true) : Iv.Fn P f args [] (fun a s => a = .b true ∧ s = []) := by
 subst hx
 have h1 := h ⟨fun _ => undef, fun _ => 0⟩
 have : args.map (AVq.sub ⟨fun _ => undef, fun _ => 0⟩) = args.map id := List.map_congr_left fun c hcm => cloB_sub 2 (List.all_eq_true.1 ha c hcm)
 rw [this, List.map_id] at h1
 exact h1.mono fun a s ⟨ρ', _, e1, e2⟩ => ⟨by rw [e1]; exact cloB_sub 2 rfl, List.Perm.eq_nil e2⟩
theorem relSplit {A : Nat → Prop} {w : World} {xs bs : List AV} {us : List Value} {n : Nat} (h : RelL A w xs (us.take n)) (h' : RelL A w bs (us.drop n)) : RelL A w (xs ++ bs) us := by
 have := h.app h'
 rwa [List.take_append_drop] at this
def OpnB (B : Nat) {α : Type} {H : Type} (enc : TypeId × Value → H) (P : Program) (w : World) (t : TypeId) (c : α → List AV) (ok : α → Prop) : Prop :=
 ∀ (base : Nat) (fuel : Nat), fuel < B → ∀ (cs : List Value) (x : DataW H × List MemPlace), DataW.trod enc P w base (fun _ => true) true fuel t cs = some x → ∃ a, ok a ∧ RelL anyB w (c a) cs
section
variable {α : Type} {H : Type} {enc : TypeId × Value → H} {P : Program} {w : World} {t e : TypeId}
theorem Opn.ofB {c : α → List AV} {ok : α → Prop} (h : ∀ B, OpnB B enc P w t c ok) : Opn enc P w t c ok := fun base fuel cs x hx => h (fuel + 1) base fuel (Nat.lt_succ_self _) cs x hx
theorem Opn.str (ht : P.underlying t = some .string) : Opn enc P w t (fun s => [.s s]) (fun _ => True) := fun base fuel cs x h => by
 obtain ⟨b, rfl, _⟩ := DataW.trod_string ht h
 exact ⟨b, trivial, RelL.cons (.lit _) RelL.nil⟩
theorem Opn.any {c : α → List AV} {ok : α → Prop} (h : Opn enc P w t c ok) : Opn enc P w t c (fun _ => True) := fun base fuel cs x hx => by
 obtain ⟨a, _, r⟩ := h base fuel cs x hx
 exact ⟨a, trivial, r⟩
theorem OpnB.slice {B : Nat} {ok : U.Dat e → Prop} {sz : Nat} (ht : P.underlying t = some (.slice e)) (hc : P.cellsOf e = sz + 1) (hs : U.sz e = sz + 1) (he : OpnB B enc P w e (U.cells e) ok) :
    OpnB B enc P w t (fun l : List (U.Dat e) => [.sl e l]) (fun l => l.length ≤ 9223372036854775807 ∧ ∀ a ∈ l, ok a) := fun base fuel hB cs x h => by
  rcases DataW.trod_slice ht h with ⟨rfl, _⟩ | ⟨a, len, cp, elems, rest, n, hfu, hcs, _, hb, hl, hm, hlen, hx, _, _⟩
  · refine ⟨[], ⟨by simp, by simp⟩, RelL.cons ?_ RelL.nil⟩
    exact .sl e ([] : List (U.Dat e)) none 0 (fun _ _ => default) (by simp) (by simp) (fun i hi => by simp at hi) (fun i hi => by simp at hi) (fun i j a hi => by simp at hi)
  · subst hcs
    rw [hc] at hx
    have hmx : cp ≤ 9223372036854775807 := by unfold maxLen at hm; omega
    obtain ⟨CS, hCS⟩ := choose_lt (α := List Value × U.Dat e) (p := fun i y => w.cells? base (a.add (i * (sz + 1))) (sz + 1) = some y.1 ∧ ok y.2 ∧ RelL anyB w (U.cells e y.2) y.1) (n := len) (fun i hi => by
      have hk := hx i hi
      rw [List.getElem?_eq_getElem (show i < elems.length by omega)] at hk
      obtain ⟨cs', h1, h2⟩ := Option.bind_eq_some_iff.1 hk
      obtain ⟨y, h3, h4⟩ := he _ n (by omega) _ _ h2
      exact ⟨(cs', y), h1, h3, h4⟩)
    obtain ⟨l, hld⟩ : ∃ l : List (U.Dat e), l = (List.range len).map fun i => (CS i).2 := ⟨_, rfl⟩
    have hln : l.length = len := by rw [hld]; simp
    have hget : ∀ i, i < len → l[i]! = (CS i).2 := fun i hi => by
      rw [getElem!_pos l i (by omega)]; simp [hld]
    refine ⟨l, ⟨by omega, fun y hy => ?_⟩, RelL.cons ?_ RelL.nil⟩
    · rw [hld, List.mem_map] at hy
      obtain ⟨i, hi, rfl⟩ := hy
      exact (hCS i (by simpa using hi)).2.1
    · rw [← hln]
      refine .sl e l (some a) cp (fun i j => (CS i).1[j]!) (by omega) (by omega) (fun i hi => ?_) (fun i hi => ?_) (fun i j av hi hj => ?_)
      · rw [hln] at hi
        obtain ⟨h1, _, h3⟩ := hCS i hi
        obtain ⟨_, h5, _⟩ := World.cells?_some h1
        rw [hget i hi, ← h3.1, h5, hs]
      · rw [hln] at hi
        obtain ⟨h1, _, h3⟩ := hCS i hi
        obtain ⟨_, h5, h6⟩ := World.cells?_some h1
        have hj : ∀ j, j < sz + 1 → w.cell? ((a.add (i * (sz + 1))).add j) = some (CS i).1[j]! := fun j hj => by
          rw [h6 j hj, getElem!_pos _ j (by omega), List.getElem?_eq_getElem (by omega)]
        obtain ⟨b, off, spot⟩ := a
        have hs : spot = none := by
          obtain ⟨g1, _, _⟩ := hCS 0 (by omega)
          obtain ⟨_, g5, g6⟩ := World.cells?_some g1
          have := World.cell?_spot (v := (CS 0).1[0]!) (w := w) (a := ((⟨b, off, spot⟩ : Addr).add (0 * (sz + 1))).add 0) (by rw [g6 0 (by omega), getElem!_pos _ 0 (by omega), List.getElem?_eq_getElem (by omega)])
          simpa [Addr.add] using this
        subst hs
        have hj' : ∀ j, j < sz + 1 → w.cell? ⟨b, off + i * (sz + 1) + j, none⟩ = some (CS i).1[j]! := fun j hlt => by
          have := hj j hlt
          have ap : ∀ o i : Nat, (⟨b, o, none⟩ : Addr).add i = ⟨b, o + i, none⟩ := fun o i => by
            unfold Addr.add
            split
            · rename_i h0; simp only [h0, Nat.add_zero]
            · rfl
          rw [ap, ap] at this
          exact this
        exact ⟨b, off, rfl, World.block_lt_of_cell? w _ (hj' 0 (by omega)), trivial, by rw [hs]; exact hj'⟩
      · rw [hln] at hi
        rw [hget i hi] at hj
        obtain ⟨h1, _, h3⟩ := hCS i hi
        obtain ⟨v, q1, q2⟩ := h3.get hj
        show Rel anyB w av (CS i).1[j]!
        obtain ⟨q3, q4⟩ := List.getElem?_eq_some_iff.1 q1
        rw [getElem!_pos _ j q3, q4]
        exact q2
end
end Go.Iv
end
noncomputable section
set_option maxRecDepth 100000
namespace Go.Proofs.YtghilkcphindjaaGreat
open Go Go.Iv Go.RowKit Go.Deep Go.ChangeShapes Go.WideShapes Go.Joins
section
variable {H : Type} {enc : TypeId × Value → H} {w : World}
theorem og9 : Opn enc Tryz.prog w 9 (fun s => [.s s]) (fun _ => True) := Opn.str Tryz.underlying9
theorem og65 : Opn enc Tryz.prog w 65 (cN .i64) (fun _ => True) := (Opn.int Tryz.underlying65).any
theorem og3 : Opn enc Tryz.prog w 3 (cN .i64) (fun _ => True) := (Opn.int Tryz.underlying3).any
theorem og108 : Opn enc Tryz.prog w 108 (uni.cells 108) (fun _ => True) := fun base fuel cs x h => by
 obtain ⟨xs, n, hfu, rfl, hl, hlen, hf⟩ := DataW.trod_struct Tryz.underlying108 h
 rw [show Tryz.prog.cellsOf 108 = 5 from by kernel_rfl] at hl
 have hlen : xs.length = 5 := hlen
 have f0 : DataW.trod enc Tryz.prog w base (fun _ => true) true n 9 ((cs.drop 0).take (Tryz.prog.cellsOf 9)) = xs[0]? := hf 0 _ rfl
 rw [show Tryz.prog.cellsOf 9 = 1 from by kernel_rfl, List.getElem?_eq_getElem (show 0 < xs.length by omega)] at f0
 obtain ⟨a0, _, r0⟩ := og9 _ _ _ _ f0
 have f1 : DataW.trod enc Tryz.prog w base (fun _ => true) true n 65 ((cs.drop 1).take (Tryz.prog.cellsOf 65)) = xs[1]? := hf 1 _ rfl
 rw [show Tryz.prog.cellsOf 65 = 1 from by kernel_rfl, List.getElem?_eq_getElem (show 1 < xs.length by omega)] at f1
 obtain ⟨a1, _, r1⟩ := og65 _ _ _ _ f1
 have f2 : DataW.trod enc Tryz.prog w base (fun _ => true) true n 3 ((cs.drop 2).take (Tryz.prog.cellsOf 3)) = xs[2]? := hf 2 _ rfl
 rw [show Tryz.prog.cellsOf 3 = 1 from by kernel_rfl, List.getElem?_eq_getElem (show 2 < xs.length by omega)] at f2
 obtain ⟨a2, _, r2⟩ := og3 _ _ _ _ f2
 have f3 : DataW.trod enc Tryz.prog w base (fun _ => true) true n 3 ((cs.drop 3).take (Tryz.prog.cellsOf 3)) = xs[3]? := hf 3 _ rfl
 rw [show Tryz.prog.cellsOf 3 = 1 from by kernel_rfl, List.getElem?_eq_getElem (show 3 < xs.length by omega)] at f3
 obtain ⟨a3, _, r3⟩ := og3 _ _ _ _ f3
 have f4 : DataW.trod enc Tryz.prog w base (fun _ => true) true n 3 ((cs.drop 4).take (Tryz.prog.cellsOf 3)) = xs[4]? := hf 4 _ rfl
 rw [show Tryz.prog.cellsOf 3 = 1 from by kernel_rfl, List.getElem?_eq_getElem (show 4 < xs.length by omega)] at f4
 obtain ⟨a4, _, r4⟩ := og3 _ _ _ _ f4
 have e : RelL anyB w [] (cs.drop 5) := by rw [List.drop_of_length_le (by omega)]; exact RelL.nil
 have s4 := relSplit (us := cs.drop 4) r4 (by rw [List.drop_drop]; exact e)
 have s3 := relSplit (us := cs.drop 3) r3 (by rw [List.drop_drop]; exact s4)
 have s2 := relSplit (us := cs.drop 2) r2 (by rw [List.drop_drop]; exact s3)
 have s1 := relSplit (us := cs.drop 1) r1 (by rw [List.drop_drop]; exact s2)
 have s0 := relSplit (us := cs.drop 0) r0 (by rw [List.drop_drop]; exact s1)
 exact ⟨(⟨a0, a1, a2, a3, a4⟩ : GVar), trivial, s0⟩
theorem og22 : Opn enc Tryz.prog w 22 (fun l : List (uni.Dat 108) => [.sl 108 l]) (fun l => l.length ≤ 9223372036854775807 ∧ ∀ a ∈ l, True) := Opn.slice (e := 108) (sz := 4) Tryz.underlying22 (by kernel_rfl) rfl og108
theorem og103 : Opn enc Tryz.prog w 103 (cN .i64) (fun _ => True) := (Opn.int Tryz.underlying103).any
theorem ogB106 : ∀ B, OpnB B enc Tryz.prog w 106 (uni.cells 106) (fun _ => True)
 | 0 => fun base fuel hB => absurd hB (Nat.not_lt_zero _)
 | B + 1 => fun base fuel hB cs x h => by
  have ih := ogB106 B
  obtain ⟨xs, n, hfu, rfl, hl, hlen, hf⟩ := DataW.trod_struct Tryz.underlying106 h
  rw [show Tryz.prog.cellsOf 106 = 3 from by kernel_rfl] at hl
  have hlen : xs.length = 3 := hlen
  have f0 : DataW.trod enc Tryz.prog w base (fun _ => true) true n 103 ((cs.drop 0).take (Tryz.prog.cellsOf 103)) = xs[0]? := hf 0 _ rfl
  rw [show Tryz.prog.cellsOf 103 = 1 from by kernel_rfl, List.getElem?_eq_getElem (show 0 < xs.length by omega)] at f0
  obtain ⟨a0, _, r0⟩ := og103 _ _ _ _ f0
  have f1 : DataW.trod enc Tryz.prog w base (fun _ => true) true n 3 ((cs.drop 1).take (Tryz.prog.cellsOf 3)) = xs[1]? := hf 1 _ rfl
  rw [show Tryz.prog.cellsOf 3 = 1 from by kernel_rfl, List.getElem?_eq_getElem (show 1 < xs.length by omega)] at f1
  obtain ⟨a1, _, r1⟩ := og3 _ _ _ _ f1
  have f2 : DataW.trod enc Tryz.prog w base (fun _ => true) true n 104 ((cs.drop 2).take (Tryz.prog.cellsOf 104)) = xs[2]? := hf 2 _ rfl
  rw [show Tryz.prog.cellsOf 104 = 1 from by kernel_rfl, List.getElem?_eq_getElem (show 2 < xs.length by omega)] at f2
  obtain ⟨a2, _, r2⟩ := OpnB.slice (t := 104) (e := 106) (sz := 2) Tryz.underlying104 (by kernel_rfl) rfl ih base n (by omega) _ _ f2
  have e : RelL anyB w [] (cs.drop 3) := by rw [List.drop_of_length_le (by omega)]; exact RelL.nil
  have s2 := relSplit (us := cs.drop 2) r2 (by rw [List.drop_drop]; exact e)
  have s1 := relSplit (us := cs.drop 1) r1 (by rw [List.drop_drop]; exact s2)
  have s0 := relSplit (us := cs.drop 0) r0 (by rw [List.drop_drop]; exact s1)
  exact ⟨(⟨a0, a1, a2⟩ : GTerm), trivial, s0⟩
theorem og106 : Opn enc Tryz.prog w 106 (uni.cells 106) (fun _ => True) := Opn.ofB ogB106
theorem og116 : Opn enc Tryz.prog w 116 (uni.cells 116) (fun _ => True) := fun base fuel cs x h => by
 obtain ⟨xs, n, hfu, rfl, hl, hlen, hf⟩ := DataW.trod_struct Tryz.underlying116 h
 rw [show Tryz.prog.cellsOf 116 = 6 from by kernel_rfl] at hl
 have hlen : xs.length = 4 := hlen
 have f0 : DataW.trod enc Tryz.prog w base (fun _ => true) true n 9 ((cs.drop 0).take (Tryz.prog.cellsOf 9)) = xs[0]? := hf 0 _ rfl
 rw [show Tryz.prog.cellsOf 9 = 1 from by kernel_rfl, List.getElem?_eq_getElem (show 0 < xs.length by omega)] at f0
 obtain ⟨a0, _, r0⟩ := og9 _ _ _ _ f0
 have f1 : DataW.trod enc Tryz.prog w base (fun _ => true) true n 3 ((cs.drop 1).take (Tryz.prog.cellsOf 3)) = xs[1]? := hf 1 _ rfl
 rw [show Tryz.prog.cellsOf 3 = 1 from by kernel_rfl, List.getElem?_eq_getElem (show 1 < xs.length by omega)] at f1
 obtain ⟨a1, _, r1⟩ := og3 _ _ _ _ f1
 have f2 : DataW.trod enc Tryz.prog w base (fun _ => true) true n 3 ((cs.drop 2).take (Tryz.prog.cellsOf 3)) = xs[2]? := hf 2 _ rfl
 rw [show Tryz.prog.cellsOf 3 = 1 from by kernel_rfl, List.getElem?_eq_getElem (show 2 < xs.length by omega)] at f2
 obtain ⟨a2, _, r2⟩ := og3 _ _ _ _ f2
 have f3 : DataW.trod enc Tryz.prog w base (fun _ => true) true n 106 ((cs.drop 3).take (Tryz.prog.cellsOf 106)) = xs[3]? := hf 3 _ rfl
 rw [show Tryz.prog.cellsOf 106 = 3 from by kernel_rfl, List.getElem?_eq_getElem (show 3 < xs.length by omega)] at f3
 obtain ⟨a3, _, r3⟩ := og106 _ _ _ _ f3
 have e : RelL anyB w [] (cs.drop 6) := by rw [List.drop_of_length_le (by omega)]; exact RelL.nil
 have s3 := relSplit (us := cs.drop 3) r3 (by rw [List.drop_drop]; exact e)
 have s2 := relSplit (us := cs.drop 2) r2 (by rw [List.drop_drop]; exact s3)
 have s1 := relSplit (us := cs.drop 1) r1 (by rw [List.drop_drop]; exact s2)
 have s0 := relSplit (us := cs.drop 0) r0 (by rw [List.drop_drop]; exact s1)
 exact ⟨(⟨a0, a1, a2, a3⟩ : Hatch), trivial, s0⟩
theorem og23 : Opn enc Tryz.prog w 23 (fun l : List (uni.Dat 116) => [.sl 116 l]) (fun l => l.length ≤ 9223372036854775807 ∧ ∀ a ∈ l, True) := Opn.slice (e := 116) (sz := 5) Tryz.underlying23 (by kernel_rfl) rfl og116
theorem og109 : Opn enc Tryz.prog w 109 (cN .i64) (fun _ => True) := (Opn.int Tryz.underlying109).any
theorem og46 : Opn enc Tryz.prog w 46 (fun l : List (uni.Dat 3) => [.sl 3 l]) (fun l => l.length ≤ 9223372036854775807 ∧ ∀ a ∈ l, True) := Opn.slice (e := 3) (sz := 0) Tryz.underlying46 (by kernel_rfl) rfl og3
theorem ogB111 : ∀ B, OpnB B enc Tryz.prog w 111 (uni.cells 111) (fun _ => True)
 | 0 => fun base fuel hB => absurd hB (Nat.not_lt_zero _)
 | B + 1 => fun base fuel hB cs x h => by
  have ih := ogB111 B
  obtain ⟨xs, n, hfu, rfl, hl, hlen, hf⟩ := DataW.trod_struct Tryz.underlying111 h
  rw [show Tryz.prog.cellsOf 111 = 10 from by kernel_rfl] at hl
  have hlen : xs.length = 8 := hlen
  have f0 : DataW.trod enc Tryz.prog w base (fun _ => true) true n 109 ((cs.drop 0).take (Tryz.prog.cellsOf 109)) = xs[0]? := hf 0 _ rfl
  rw [show Tryz.prog.cellsOf 109 = 1 from by kernel_rfl, List.getElem?_eq_getElem (show 0 < xs.length by omega)] at f0
  obtain ⟨a0, _, r0⟩ := og109 _ _ _ _ f0
  have f1 : DataW.trod enc Tryz.prog w base (fun _ => true) true n 3 ((cs.drop 1).take (Tryz.prog.cellsOf 3)) = xs[1]? := hf 1 _ rfl
  rw [show Tryz.prog.cellsOf 3 = 1 from by kernel_rfl, List.getElem?_eq_getElem (show 1 < xs.length by omega)] at f1
  obtain ⟨a1, _, r1⟩ := og3 _ _ _ _ f1
  have f2 : DataW.trod enc Tryz.prog w base (fun _ => true) true n 3 ((cs.drop 2).take (Tryz.prog.cellsOf 3)) = xs[2]? := hf 2 _ rfl
  rw [show Tryz.prog.cellsOf 3 = 1 from by kernel_rfl, List.getElem?_eq_getElem (show 2 < xs.length by omega)] at f2
  obtain ⟨a2, _, r2⟩ := og3 _ _ _ _ f2
  have f3 : DataW.trod enc Tryz.prog w base (fun _ => true) true n 3 ((cs.drop 3).take (Tryz.prog.cellsOf 3)) = xs[3]? := hf 3 _ rfl
  rw [show Tryz.prog.cellsOf 3 = 1 from by kernel_rfl, List.getElem?_eq_getElem (show 3 < xs.length by omega)] at f3
  obtain ⟨a3, _, r3⟩ := og3 _ _ _ _ f3
  have f4 : DataW.trod enc Tryz.prog w base (fun _ => true) true n 106 ((cs.drop 4).take (Tryz.prog.cellsOf 106)) = xs[4]? := hf 4 _ rfl
  rw [show Tryz.prog.cellsOf 106 = 3 from by kernel_rfl, List.getElem?_eq_getElem (show 4 < xs.length by omega)] at f4
  obtain ⟨a4, _, r4⟩ := og106 _ _ _ _ f4
  have f5 : DataW.trod enc Tryz.prog w base (fun _ => true) true n 24 ((cs.drop 7).take (Tryz.prog.cellsOf 24)) = xs[5]? := hf 5 _ rfl
  rw [show Tryz.prog.cellsOf 24 = 1 from by kernel_rfl, List.getElem?_eq_getElem (show 5 < xs.length by omega)] at f5
  obtain ⟨a5, _, r5⟩ := OpnB.slice (t := 24) (e := 111) (sz := 9) Tryz.underlying24 (by kernel_rfl) rfl ih base n (by omega) _ _ f5
  have f6 : DataW.trod enc Tryz.prog w base (fun _ => true) true n 24 ((cs.drop 8).take (Tryz.prog.cellsOf 24)) = xs[6]? := hf 6 _ rfl
  rw [show Tryz.prog.cellsOf 24 = 1 from by kernel_rfl, List.getElem?_eq_getElem (show 6 < xs.length by omega)] at f6
  obtain ⟨a6, _, r6⟩ := OpnB.slice (t := 24) (e := 111) (sz := 9) Tryz.underlying24 (by kernel_rfl) rfl ih base n (by omega) _ _ f6
  have f7 : DataW.trod enc Tryz.prog w base (fun _ => true) true n 46 ((cs.drop 9).take (Tryz.prog.cellsOf 46)) = xs[7]? := hf 7 _ rfl
  rw [show Tryz.prog.cellsOf 46 = 1 from by kernel_rfl, List.getElem?_eq_getElem (show 7 < xs.length by omega)] at f7
  obtain ⟨a7, _, r7⟩ := og46 _ _ _ _ f7
  have e : RelL anyB w [] (cs.drop 10) := by rw [List.drop_of_length_le (by omega)]; exact RelL.nil
  have s7 := relSplit (us := cs.drop 9) r7 (by rw [List.drop_drop]; exact e)
  have s6 := relSplit (us := cs.drop 8) r6 (by rw [List.drop_drop]; exact s7)
  have s5 := relSplit (us := cs.drop 7) r5 (by rw [List.drop_drop]; exact s6)
  have s4 := relSplit (us := cs.drop 4) r4 (by rw [List.drop_drop]; exact s5)
  have s3 := relSplit (us := cs.drop 3) r3 (by rw [List.drop_drop]; exact s4)
  have s2 := relSplit (us := cs.drop 2) r2 (by rw [List.drop_drop]; exact s3)
  have s1 := relSplit (us := cs.drop 1) r1 (by rw [List.drop_drop]; exact s2)
  have s0 := relSplit (us := cs.drop 0) r0 (by rw [List.drop_drop]; exact s1)
  exact ⟨(⟨a0, a1, a2, a3, a4, a5, a6, a7⟩ : GStep), trivial, s0⟩
theorem og111 : Opn enc Tryz.prog w 111 (uni.cells 111) (fun _ => True) := Opn.ofB ogB111
theorem og24 : Opn enc Tryz.prog w 24 (fun l : List (uni.Dat 111) => [.sl 111 l]) (fun l => l.length ≤ 9223372036854775807 ∧ ∀ a ∈ l, True) := Opn.slice (e := 111) (sz := 9) Tryz.underlying24 (by kernel_rfl) rfl og111
theorem og26 : Opn enc Tryz.prog w 26 (uni.cells 26) (fun _ => True) := fun base fuel cs x h => by
 obtain ⟨xs, n, hfu, rfl, hl, hlen, hf⟩ := DataW.trod_struct Tryz.underlying26 h
 rw [show Tryz.prog.cellsOf 26 = 3 from by kernel_rfl] at hl
 have hlen : xs.length = 3 := hlen
 have f0 : DataW.trod enc Tryz.prog w base (fun _ => true) true n 22 ((cs.drop 0).take (Tryz.prog.cellsOf 22)) = xs[0]? := hf 0 _ rfl
 rw [show Tryz.prog.cellsOf 22 = 1 from by kernel_rfl, List.getElem?_eq_getElem (show 0 < xs.length by omega)] at f0
 obtain ⟨a0, _, r0⟩ := og22 _ _ _ _ f0
 have f1 : DataW.trod enc Tryz.prog w base (fun _ => true) true n 23 ((cs.drop 1).take (Tryz.prog.cellsOf 23)) = xs[1]? := hf 1 _ rfl
 rw [show Tryz.prog.cellsOf 23 = 1 from by kernel_rfl, List.getElem?_eq_getElem (show 1 < xs.length by omega)] at f1
 obtain ⟨a1, _, r1⟩ := og23 _ _ _ _ f1
 have f2 : DataW.trod enc Tryz.prog w base (fun _ => true) true n 24 ((cs.drop 2).take (Tryz.prog.cellsOf 24)) = xs[2]? := hf 2 _ rfl
 rw [show Tryz.prog.cellsOf 24 = 1 from by kernel_rfl, List.getElem?_eq_getElem (show 2 < xs.length by omega)] at f2
 obtain ⟨a2, _, r2⟩ := og24 _ _ _ _ f2
 have e : RelL anyB w [] (cs.drop 3) := by rw [List.drop_of_length_le (by omega)]; exact RelL.nil
 have s2 := relSplit (us := cs.drop 2) r2 (by rw [List.drop_drop]; exact e)
 have s1 := relSplit (us := cs.drop 1) r1 (by rw [List.drop_drop]; exact s2)
 have s0 := relSplit (us := cs.drop 0) r0 (by rw [List.drop_drop]; exact s1)
 exact ⟨(⟨a0, a1, a2⟩ : Flat), trivial, s0⟩
end
end Go.Proofs.YtghilkcphindjaaGreat
end
noncomputable section
set_option maxRecDepth 100000
namespace Go.Proofs.YtghilkcphindjaaGreat
open Go Go.Iv
open Go.IntKind (i64 u64)
theorem o3_eq : outY Tryz.prog 3 0 (d3.pat true) = ⟨.b true, [], 0⟩ := by kernel_rfl
theorem claw3 (f : Flat) : Iv.Fn Tryz.prog 3 [.agg (uni.cells 26 f)] [] (fun a s => a = .b true ∧ s = []) := (h3 (f, ()) true (m3_true f)).law o3_eq (by kernel_rfl)
end Go.Proofs.YtghilkcphindjaaGreat
end
