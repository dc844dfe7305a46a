/- Merged: Pv3, Pv1b, Pv2, Pv2b, Pv4, Pv5, Pv6, Pv7, Ns4, Ns5, Ns6, Sg, Gq, Ns7, Ns8, Ns9, Ns10, Ns11, Ns12, Ns13, Ns14, Ivr, Vl, Hka, Hkb, Sw, Sv. -/
import Derived.Test.YtghilkcphindjaaGreatM4SymbolicDecodes
import Derived.Test.YtghilkcphindjaaGreatM3SymbolicDecodes
import Derived.Shelf.Spec.SlicesGrow
import Derived.Test.YtghilkcphindjaaGreatM2SymbolicDecodes
import Derived.RangeFuncBound
import Derived.RangeFuncCalls
import Derived.RangeFuncLeaves
import Derived.Shelf.Abstract
import Derived.Shelf.RegionOpen
import Derived.WalkKit
import Derived.OwnWalkIn
import Derived.TacticsInMore
import Derived.LoopNIn
import Derived.LoopIn
import Derived.Shelf.SlSortCmp.KitK
import Derived.Sort.WalkB12
import Derived.Deep.LoopGhost
import Derived.Lib.SliceRun
import Derived.Lib.QuietBelow
set_option linter.unusedSectionVars false
set_option linter.unusedVariables false
set_option linter.unusedSimpArgs false
set_option linter.defProp false
noncomputable section
set_option maxRecDepth 100000
namespace Go.Proofs.YtghilkcphindjaaGreat
open Go Go.Iv
open Go.IntKind (i64 u64)
theorem nTs_app (a b : List GTerm) : nTs (a ++ b) = nTs a + nTs b := by simp [nTs]
theorem nTs_take (l : List GTerm) (i : Nat) : nTs (l.take i) ≤ nTs l := by
 have := nTs_app (l.take i) (l.drop i)
 rw [List.take_append_drop] at this
 omega
theorem nTs_len (l : List GTerm) : l.length ≤ nTs l := by
 induction l with
 | nil => simp
 | cons a l ih => rw [nTs_cons]; have := nT_pos a; simp; omega
theorem nSs_app (a b : List GStep) : nSs (a ++ b) = nSs a + nSs b := by simp [nSs]
theorem nSs_take (l : List GStep) (i : Nat) : nSs (l.take i) ≤ nSs l := by
 have := nSs_app (l.take i) (l.drop i)
 rw [List.take_append_drop] at this
 omega
theorem nS_pos (s : GStep) : 0 < nS s := by rw [nS_eq]; omega
theorem nSs_len (l : List GStep) : l.length ≤ nSs l := by
 induction l with
 | nil => simp
 | cons a l ih => rw [nSs_cons]; have := nS_pos a; simp; omega
theorem nTs_step {l : List GTerm} {i : Nat} (hi : i < l.length) : nTs (l.take i) + nT l[i]! ≤ nTs l := by
 have := nTs_take l (i + 1)
 rw [take_succL hi, nTs_snoc] at this
 omega
theorem nSs_step {l : List GStep} {i : Nat} (hi : i < l.length) : nSs (l.take i) + nS l[i]! ≤ nSs l := by
 have := nSs_take l (i + 1)
 rw [take_succL hi, nSs_snoc] at this
 omega
theorem dTs_le (l : List GTerm) (h : ∀ k ∈ l, dT k ≤ nT k) : ∀ i, i ≤ l.length → dTs (l.take i) ≤ nTs (l.take i) := by
 intro i
 induction i with
 | zero => intro _; simp [dTs]
 | succ i ih =>
  intro hi
  have h2 := h _ (get_memL (show i < l.length by omega))
  rw [take_succL (by omega), dTs_snoc, nTs_snoc]
  omega
theorem dT_le (t : GTerm) : dT t ≤ nT t := by
 have key : ∀ (n : Nat) (t : GTerm), SizeOf.sizeOf t < n → dT t ≤ nT t := by
  intro n
  induction n with
  | zero => intro t h; omega
  | succ n ih =>
   intro t h
   have := dTs_le t.fKids (fun k hk => ih k (by have := GTerm.kids_lt hk; omega)) t.fKids.length (Nat.le_refl _)
   rw [List.take_length] at this
   rw [dT_eq, nT_eq]
   omega
 exact key _ t (Nat.lt_succ_self _)
theorem dTs_take (l : List GTerm) (i : Nat) : dTs (l.take i) ≤ nTs l := by
  have h1 := nTs_take l i
  by_cases h : i ≤ l.length
  · have := dTs_le l (fun k _ => dT_le k) i h
    omega
  · have := dTs_le l (fun k _ => dT_le k) l.length (Nat.le_refl _)
    rw [List.take_length] at this
    rw [List.take_of_length_le (by omega)]
    omega
theorem dSs_le (l : List GStep) : dSs l ≤ nSs l := by
 have key : ∀ (n : Nat) (l : List GStep), SizeOf.sizeOf l < n → dSs l ≤ nSs l := by
  intro n
  induction n with
  | zero => intro t h; omega
  | succ n ih =>
   intro l h
   cases l with
   | nil => rw [dSs]; simp
   | cons s l =>
    have q1 := ih s.fThen (by have := sizeOf_then (l := s :: l) (List.mem_cons_self ..); omega)
    have q2 := ih s.fElse (by have := sizeOf_then (l := s :: l) (List.mem_cons_self ..); omega)
    have q3 := ih l (by have := size_tail s l; omega)
    rw [dSs, nSs_cons, nS_eq]
    omega
 exact key _ l (Nat.lt_succ_self _)
theorem s104_eq (M : GTerm → Option E104) (t : GTerm) (hM : ∀ k ∈ t.fKids, M k = some (nT k : Int)) (h : nT t ≤ 1000) : s104 M t = some (nT t : Int) := by
  have hN := nT_eq t
  have hL := nTs_len t.fKids
  obtain ⟨v, e1, hv⟩ := loopI (rnd := n104_0 M) t.fKids.length (fun i (b : Int) => ⟨b, (i : Int), t⟩) (fun i b => b = 1 + nTs (t.fKids.take i)) (fun i b hi hb => by
      have hs := nTs_step hi
      refine ⟨b + nT t.fKids[i]!, ?_, ?_⟩
      · have hk := hM _ (get_memL hi)
        have hw := w1L hi (by omega)
        have hw2 : i64.wrap (b + nT t.fKids[i]!) = b + nT t.fKids[i]! := wrap_id (by omega) (by omega)
        unfold n104_0
        simp only [GTerm.eta]
        grind
      · rw [take_succL hi, nTs_snoc]; omega) (fun b _ => by unfold n104_0; simp) (b := 1) (by simp [nTs])
  have e1' : a104_0 M ⟨1, 0, t⟩ = some ⟨v, (t.fKids.length : Int), t⟩ := e1
  unfold s104
  rw [GTerm.eta, e1', hN]
  simp [hv]
theorem m104_eq : ∀ (n : Nat) (t : GTerm), SizeOf.sizeOf t < n → nT t ≤ 1000 → m104 n t = some (nT t : Int)
 | 0, _, h, _ => by omega
 | n + 1, t, h, h2 => s104_eq (m104 n) t (fun k hk => m104_eq n k (by have := GTerm.kids_lt hk; omega) (by have := nTs_mem hk; have := nT_eq t; omega)) h2
theorem r104_eq (t : GTerm) (h : nT t ≤ 1000) : r104 t = some (nT t : Int) := lim_eq (SizeOf.sizeOf t + 1) fun n hn => m104_eq n t (by omega) h
theorem s105_eq (M : GTerm → Option E105) (t : GTerm) (hM : ∀ k ∈ t.fKids, M k = some (dT k)) (h : nT t ≤ 1000) : s105 M t = some (dT t) := by
  have hN := nT_eq t
  have hL := nTs_len t.fKids
  obtain ⟨v, e1, hv⟩ := loopI (rnd := n105_0 M) t.fKids.length (fun i (b : Int) => ⟨b, (i : Int), t⟩) (fun i b => b = dTs (t.fKids.take i)) (fun i b hi hb => by
      refine ⟨max b (dT t.fKids[i]!), ?_, ?_⟩
      · have hk := hM _ (get_memL hi)
        have hw := w1L hi (by omega)
        unfold n105_0
        simp only [Bool.cond_decide, GTerm.eta]
        grind
      · rw [take_succL hi, dTs_snoc, hb]) (fun b _ => by unfold n105_0; simp) (b := 0) (by simp [dTs])
  have e1' : a105_0 M ⟨0, 0, t⟩ = some ⟨v, (t.fKids.length : Int), t⟩ := e1
  unfold s105
  rw [GTerm.eta, e1', dT_eq]
  have hd := dTs_take t.fKids t.fKids.length
  have hp := dTs_pos t.fKids
  rw [List.take_length] at hv hd
  subst hv
  have hw2 : i64.wrap (dTs t.fKids + 1) = dTs t.fKids + 1 := wrap_id (by omega) (by omega)
  dsimp only
  rw [decide_eq_false (by omega)]
  show some (i64.wrap (dTs t.fKids + 1)) = _
  congr 1
  omega
theorem m105_eq : ∀ (n : Nat) (t : GTerm), SizeOf.sizeOf t < n → nT t ≤ 1000 → m105 n t = some (dT t)
 | 0, _, h, _ => by omega
 | n + 1, t, h, h2 => s105_eq (m105 n) t (fun k hk => m105_eq n k (by have := GTerm.kids_lt hk; omega) (by have := nTs_mem hk; have := nT_eq t; omega)) h2
theorem r105_eq (t : GTerm) (h : nT t ≤ 1000) : r105 t = some (dT t) := lim_eq (SizeOf.sizeOf t + 1) fun n hn => m105_eq n t (by omega) h
theorem nSs_mem {s : GStep} {l : List GStep} (h : s ∈ l) : nS s ≤ nSs l := by
  induction l with
  | nil => cases h
  | cons a l ih =>
    rw [nSs_cons]
    rcases List.mem_cons.1 h with rfl | h
    · omega
    · have := ih h; omega
def nodS : List GStep → Int
 | [] => 0
 | s :: l => 1 + nT s.fTerm + nodS s.fThen + nodS s.fElse + nodS l
termination_by l => SizeOf.sizeOf l
decreasing_by
  · exact (sizeOf_then (List.mem_cons_self ..)).1
  · exact (sizeOf_then (List.mem_cons_self ..)).2
  · exact size_tail _ _
theorem nodS_le (l : List GStep) : 0 ≤ nodS l ∧ nodS l ≤ nSs l := by
 have key : ∀ (n : Nat) (l : List GStep), SizeOf.sizeOf l < n → 0 ≤ nodS l ∧ nodS l ≤ nSs l := by
  intro n
  induction n with
  | zero => intro t h; omega
  | succ n ih =>
   intro l h
   cases l with
   | nil => rw [nodS]; simp
   | cons s l =>
    have q1 := ih s.fThen (by have := sizeOf_then (l := s :: l) (List.mem_cons_self ..); omega)
    have q2 := ih s.fElse (by have := sizeOf_then (l := s :: l) (List.mem_cons_self ..); omega)
    have q3 := ih l (by have := size_tail s l; omega)
    rw [nodS, nSs_cons, nS_eq]
    omega
 exact key _ l (Nat.lt_succ_self _)
theorem nodS_snoc (l : List GStep) (s : GStep) : nodS (l ++ [s]) = nodS l + (1 + nT s.fTerm + nodS s.fThen + nodS s.fElse) := by
 induction l with
 | nil => rw [List.nil_append, show nodS [] = 0 by rw [nodS], nodS, show nodS [] = 0 by rw [nodS]]; omega
 | cons a l ih => rw [List.cons_append, nodS, nodS, ih]; omega
theorem s103_eq (M : List GStep → Option E103) (l : List GStep) (hM : ∀ s ∈ l, M s.fThen = some (nodS s.fThen) ∧ M s.fElse = some (nodS s.fElse)) (h : nSs l ≤ 1000) : s103 M l = some (nodS l) := by
  have hL := nSs_len l
  obtain ⟨v, e1, hv⟩ := loopI (rnd := n103_0 M) l.length (fun i (b : Int) => ⟨l, b, (i : Int)⟩) (fun i b => b = nodS (l.take i)) (fun i b hi hb => by
      have hs := nSs_step hi
      have hE := nS_eq l[i]!
      obtain ⟨k1, k4⟩ := hM _ (get_memL hi)
      have k2 := nodS_le l[i]!.fThen
      have k3 := nodS_le l[i]!.fElse
      have k5 := nodS_le (l.take i)
      have hk := r104_eq l[i]!.fTerm (by omega)
      have hw := w1L hi (by omega)
      refine ⟨b + (1 + nT l[i]!.fTerm + nodS l[i]!.fThen + nodS l[i]!.fElse), ?_, ?_⟩
      · have w1 : i64.wrap (b + 1) = b + 1 := wrap_id (by omega) (by omega)
        have w2 : i64.wrap (b + 1 + nT l[i]!.fTerm) = b + 1 + nT l[i]!.fTerm := wrap_id (by omega) (by omega)
        have w3 : i64.wrap (b + 1 + nT l[i]!.fTerm + nodS l[i]!.fThen) = b + 1 + nT l[i]!.fTerm + nodS l[i]!.fThen := wrap_id (by omega) (by omega)
        have w4 : i64.wrap (b + 1 + nT l[i]!.fTerm + nodS l[i]!.fThen + nodS l[i]!.fElse) = b + (1 + nT l[i]!.fTerm + nodS l[i]!.fThen + nodS l[i]!.fElse) := by rw [wrap_id (by omega) (by omega)]; omega
        unfold n103_0
        simp only [GTerm.eta]
        grind
      · rw [take_succL hi, nodS_snoc]; omega) (fun b _ => by unfold n103_0; simp) (b := 0) (by simp [nodS])
  have e1' : a103_0 M ⟨l, 0, 0⟩ = some ⟨l, v, (l.length : Int)⟩ := e1
  unfold s103
  rw [e1']
  simp [hv]
theorem then_le {s : GStep} {l : List GStep} (h : s ∈ l) : nSs s.fThen ≤ nSs l ∧ nSs s.fElse ≤ nSs l := by
 have := nSs_mem h
 have := nS_eq s
 omega
theorem m103_eq : ∀ (n : Nat) (l : List GStep), SizeOf.sizeOf l < n → nSs l ≤ 1000 → m103 n l = some (nodS l)
 | 0, _, h, _ => by omega
 | n + 1, l, h, h2 => s103_eq (m103 n) l (fun s hs => ⟨m103_eq n _ (by have := sizeOf_then hs; omega) (by have := then_le hs; omega), m103_eq n _ (by have := sizeOf_then hs; omega) (by have := then_le hs; omega)⟩) h2
theorem r103_eq (l : List GStep) (h : nSs l ≤ 1000) : r103 l = some (nodS l) := lim_eq (SizeOf.sizeOf l + 1) fun n hn => m103_eq n l (by omega) h
theorem s106_eq (M : List GStep → Option E106) (l : List GStep) (hM : ∀ s ∈ l, M s.fThen = some (dSs s.fThen) ∧ M s.fElse = some (dSs s.fElse)) (h : nSs l ≤ 1000) : s106 M l = some (dSs l) := by
  have hL := nSs_len l
  obtain ⟨v, e1, hv⟩ := loopI (rnd := n106_0 M) l.length (fun i (b : Int) => ⟨l, b, (i : Int)⟩) (fun i b => b = dSs (l.take i)) (fun i b hi hb => by
      obtain ⟨k1, k4⟩ := hM _ (get_memL hi)
      have k2 := dSs_le l[i]!.fThen
      have k3 := dSs_le l[i]!.fElse
      have k5 := then_le (get_memL hi)
      have k6 := dSs_pos l[i]!.fThen
      have k7 := dSs_pos l[i]!.fElse
      have hw := w1L hi (by omega)
      refine ⟨max b (max (dSs l[i]!.fThen + 1) (dSs l[i]!.fElse + 1)), ?_, ?_⟩
      · have w1 : i64.wrap (dSs l[i]!.fThen + 1) = dSs l[i]!.fThen + 1 := wrap_id (by omega) (by omega)
        have w2 : i64.wrap (dSs l[i]!.fElse + 1) = dSs l[i]!.fElse + 1 := wrap_id (by omega) (by omega)
        unfold n106_0
        simp only [Int.toNat_natCast]
        grind
      · rw [take_succL hi, dSs_snoc]; omega) (fun b _ => by unfold n106_0; simp) (b := 0) (by simp [dSs])
  have e1' : a106_0 M ⟨l, 0, 0⟩ = some ⟨l, v, (l.length : Int)⟩ := e1
  unfold s106
  rw [e1']
  simp [hv]
theorem m106_eq : ∀ (n : Nat) (l : List GStep), SizeOf.sizeOf l < n → nSs l ≤ 1000 → m106 n l = some (dSs l)
 | 0, _, h, _ => by omega
 | n + 1, l, h, h2 => s106_eq (m106 n) l (fun s hs => ⟨m106_eq n _ (by have := sizeOf_then hs; omega) (by have := then_le hs; omega), m106_eq n _ (by have := sizeOf_then hs; omega) (by have := then_le hs; omega)⟩) h2
theorem r106_eq (l : List GStep) (h : nSs l ≤ 1000) : r106 l = some (dSs l) := lim_eq (SizeOf.sizeOf l + 1) fun n hn => m106_eq n l (by omega) h
def deep1 (s : GStep) : Bool := decide (12 < dT s.fTerm) || tDeep s.fThen || tDeep s.fElse
theorem tDeep_any (l : List GStep) : tDeep l = l.any deep1 := by
 induction l with
 | nil => rw [tDeep]; rfl
 | cons s l ih => rw [tDeep, ih, List.any_cons]; rfl
theorem s107_eq (M : List GStep → Option E107) (l : List GStep) (hM : ∀ s ∈ l, M s.fThen = some (tDeep s.fThen) ∧ M s.fElse = some (tDeep s.fElse)) (h : nSs l ≤ 1000) : s107 M l = some (tDeep l) := by
  have hL := nSs_len l
  have hT : ∀ i, i < l.length → r105 l[i]!.fTerm = some (dT l[i]!.fTerm) := fun i hi => r105_eq _ (by have := nSs_mem (get_memL hi); have := nS_eq l[i]!; omega)
  obtain ⟨i, e1, hc⟩ := loopB (rnd := n107_0 M) l (fun i => ⟨l, (i : Int)⟩) (fun _ s => !deep1 s) (fun i hi => by
      obtain ⟨k1, k4⟩ := hM _ (get_memL hi)
      have hk := hT i hi
      have hw := w1L hi (by omega)
      unfold n107_0 deep1
      simp only [Int.toNat_natCast, GTerm.eta, k1, k4]
      cases tDeep l[i]!.fThen <;> cases tDeep l[i]!.fElse <;> grind) (by unfold n107_0; simp)
  have e1' : a107_0 M ⟨l, 0⟩ = some ⟨l, (i : Int)⟩ := e1
  unfold s107
  rw [e1', tDeep_any]
  rcases hc with ⟨rfl, hc⟩ | ⟨hi, hc⟩
  · rw [not_any fun j hj => by have := hc j hj; simpa using this]
    simp
  · have hc' : deep1 l[i]! = true := by simpa using hc
    obtain ⟨k1, k4⟩ := hM _ (get_memL hi)
    have hk := hT i hi
    unfold deep1 at hc'
    simp only [Int.toNat_natCast, GTerm.eta, k1, k4]
    revert hc'
    cases tDeep l[i]!.fThen <;> cases tDeep l[i]!.fElse <;> grind
theorem m107_eq : ∀ (n : Nat) (l : List GStep), SizeOf.sizeOf l < n → nSs l ≤ 1000 → m107 n l = some (tDeep l)
 | 0, _, h, _ => by omega
 | n + 1, l, h, h2 => s107_eq (m107 n) l (fun s hs => ⟨m107_eq n _ (by have := sizeOf_then hs; omega) (by have := then_le hs; omega), m107_eq n _ (by have := sizeOf_then hs; omega) (by have := then_le hs; omega)⟩) h2
theorem r107_eq (l : List GStep) (h : nSs l ≤ 1000) : r107 l = some (tDeep l) := lim_eq (SizeOf.sizeOf l + 1) fun n hn => m107_eq n l (by omega) h
def overM (b : Measure) : Bool := b.fDeep || decide (1024 < b.fNodes)
theorem m96_eq (b : Measure) : m96 b = (overM b, b) := by
 rfl
def incM (d : Int) (b : Measure) : Measure := ⟨b.fNodes + 1, b.fDeep || decide (12 < d)⟩
def msT (t : GTerm) (d : Int) (b : Measure) : Measure := if overM (incM d b) = true then incM d b else t.fKids.attach.foldl (fun b k => msT k.1 (d + 1) b) (incM d b)
termination_by SizeOf.sizeOf t
decreasing_by exact GTerm.kids_lt k.2
def msTs (l : List GTerm) (d : Int) (b : Measure) : Measure := l.foldl (fun b k => msT k d b) b
theorem msT_eq (t : GTerm) (d : Int) (b : Measure) : msT t d b = if overM (incM d b) = true then incM d b else msTs t.fKids (d + 1) (incM d b) := by
 rw [msT, msTs]
 simp
theorem msTs_snoc (l : List GTerm) (k : GTerm) (d : Int) (b : Measure) : msTs (l ++ [k]) d b = msT k d (msTs l d b) := by simp [msTs]
def MsP (d0 : Int) (n : Int) (b r : Measure) : Prop := r.fDeep = (b.fDeep || decide (12 < d0)) ∧ b.fNodes ≤ r.fNodes ∧ r.fNodes ≤ b.fNodes + n
theorem msT_ok (t : GTerm) (d : Int) (b : Measure) (h0 : 0 ≤ d) (h1 : 0 ≤ b.fNodes) (h2 : b.fNodes + nT t ≤ 1000) : MsP (d - 1 + dT t) (nT t) b (msT t d b) := by
  have key : ∀ (n : Nat) (t : GTerm) (d : Int) (b : Measure), SizeOf.sizeOf t < n → 0 ≤ d → 0 ≤ b.fNodes → b.fNodes + nT t ≤ 1000 → MsP (d - 1 + dT t) (nT t) b (msT t d b) := by
    intro n
    induction n with
    | zero => intro t d b h; omega
    | succ n ih =>
      intro t d b h h0 h1 h2
      have hN := nT_eq t
      have hD := dT_eq t
      have hd0 := dTs_pos t.fKids
      rw [msT_eq]
      by_cases ho : overM (incM d b) = true
      · rw [if_pos ho]
        unfold overM incM at ho
        unfold MsP incM
        grind
      · rw [if_neg ho]
        have hi : ∀ i, i ≤ t.fKids.length → MsP (d + dTs (t.fKids.take i)) (nTs (t.fKids.take i)) (incM d b) (msTs (t.fKids.take i) (d + 1) (incM d b)) := by
          intro i
          induction i with
          | zero =>
            simp only [msTs, MsP, dTs, incM]
            grind
          | succ i ihi =>
            intro hi
            have q := ihi (by omega)
            have hs := nTs_step (show i < t.fKids.length by omega)
            have hm : t.fKids[i]! ∈ t.fKids := get_memL (by omega)
            have hp : (incM d b).fNodes = b.fNodes + 1 := rfl
            have q2 := ih t.fKids[i]! (d + 1) (msTs (t.fKids.take i) (d + 1) (incM d b)) (by have := GTerm.kids_lt hm; omega) (by omega) (by have := q.2.1; omega) (by have := q.2.2; omega)
            rw [take_succL (by omega), msTs_snoc, dTs_snoc, nTs_snoc]
            obtain ⟨a1, a2, a3⟩ := q
            obtain ⟨c1, c2, c3⟩ := q2
            refine ⟨?_, by omega, by omega⟩
            rw [c1, a1]
            rw [Bool.or_assoc]
            congr 1
            rw [← Bool.decide_or]
            apply decide_eq_decide.2
            omega
        have q := hi t.fKids.length (Nat.le_refl _)
        unfold MsP at q ⊢
        have hp : (incM d b).fNodes = b.fNodes + 1 := rfl
        have hp2 : (incM d b).fDeep = (b.fDeep || decide (12 < d)) := rfl
        grind
  exact key _ t d b (Nat.lt_succ_self _) h0 h1 h2
theorem s97_eq (M : GTerm → Int → Measure → Option E97) (t : GTerm) (hM : ∀ k ∈ t.fKids, ∀ (d : Int) (b : Measure), 0 ≤ d → d ≤ 13 → 0 ≤ b.fNodes → b.fNodes + nT k ≤ 1000 → M k d b = some (msT k d b)) (d : Int) (b : Measure) (h0 : 0 ≤ d) (hd : d ≤ 13) (h1 : 0 ≤ b.fNodes) (h2 : b.fNodes + nT t ≤ 1000) : s97 M t d b = some (msT t d b) := by
  have hN := nT_eq t
  have hL := nTs_len t.fKids
  have hw0 : i64.wrap (b.fNodes + 1) = b.fNodes + 1 := wrap_id (by omega) (by omega)
  have hw1 : i64.wrap (d + 1) = d + 1 := wrap_id (by omega) (by omega)
  have hinc : ∀ x, (⟨b.fNodes + 1, x⟩ : Measure) = incM d b ↔ x = (b.fDeep || decide (12 < d)) := fun x => by unfold incM; simp
  have key : overM (incM d b) = false → d ≤ 12 ∧ a97_0 M ⟨d, t.fKids, (t.fKids.length : Int), 0, incM d b⟩ = some ⟨d, t.fKids, (t.fKids.length : Int), (t.fKids.length : Int), msTs t.fKids (d + 1) (incM d b)⟩ := fun ho => by
    have hd2 : d ≤ 12 := by unfold overM incM at ho; grind
    refine ⟨hd2, ?_⟩
    obtain ⟨v, e1, hv, _⟩ := loopI (rnd := n97_0 M) t.fKids.length (fun i (x : Measure) => ⟨d, t.fKids, (t.fKids.length : Int), (i : Int), x⟩) (fun i x => x = msTs (t.fKids.take i) (d + 1) (incM d b) ∧ b.fNodes + 1 ≤ x.fNodes ∧ x.fNodes ≤ b.fNodes + 1 + nTs (t.fKids.take i)) (fun i x hi hx => by
        have hs := nTs_step hi
        have hk := hM _ (get_memL hi) (d + 1) x (by omega) (by omega) (by omega) (by omega)
        have hp := msT_ok t.fKids[i]! (d + 1) x (by omega) (by omega) (by omega)
        have hw := w1L hi (by omega)
        refine ⟨msT t.fKids[i]! (d + 1) x, ?_, ?_⟩
        · unfold n97_0
          simp only [GTerm.eta]
          grind
        · unfold MsP at hp
          rw [take_succL hi, msTs_snoc, ← hx.1, nTs_snoc]
          exact ⟨rfl, by omega, by omega⟩) (fun x _ => by unfold n97_0; simp) (b := incM d b) ⟨rfl, Int.le_refl _, by show b.fNodes + 1 ≤ _; simp [nTs]⟩
    rw [List.take_length] at hv
    rw [← hv]
    exact e1
  rw [msT_eq]
  unfold s97
  rw [hw0]
  have hm : ∀ x, x = (b.fDeep || decide (12 < d)) → m96 ⟨b.fNodes + 1, x⟩ = (overM (incM d b), incM d b) := fun x hx => by rw [m96_eq, (hinc x).2 hx]
  cases hb : b.fDeep with
  | true =>
    rw [hm true (by rw [hb]; rfl)]
    have ho : overM (incM d b) = true := by unfold overM incM; simp [hb]
    simp [ho]
  | false =>
    rw [hm (decide (12 < d)) (by rw [hb]; rfl)]
    cases ho : overM (incM d b) with
    | true => simp
    | false =>
      obtain ⟨_, e⟩ := key ho
      rw [e]
      simp
theorem m97_eq : ∀ (n : Nat) (t : GTerm) (d : Int) (b : Measure), SizeOf.sizeOf t < n → 0 ≤ d → d ≤ 13 → 0 ≤ b.fNodes → b.fNodes + nT t ≤ 1000 → m97 n t d b = some (msT t d b)
 | 0, _, _, _, h, _, _, _, _ => by omega
 | n + 1, t, d, b, h, h0, hd, h1, h2 => s97_eq (m97 n) t (fun k hk d b a1 a2 a3 a4 => m97_eq n k d b (by have := GTerm.kids_lt hk; omega) a1 a2 a3 a4) d b h0 hd h1 h2
theorem r97_eq (t : GTerm) (d : Int) (b : Measure) (h0 : 0 ≤ d) (hd : d ≤ 13) (h1 : 0 ≤ b.fNodes) (h2 : b.fNodes + nT t ≤ 1000) : r97 t d b = some (msT t d b) := lim_eq (SizeOf.sizeOf t + 1) fun n hn => m97_eq n t d b (by omega) h0 hd h1 h2
def msS (d : Int) : List GStep → Measure → Measure
 | [], b => b
 | s :: l, b => if overM (incM d b) = true then incM d b else msS d l (msS (d + 1) s.fElse (msS (d + 1) s.fThen (msT s.fTerm 1 (incM d b))))
termination_by l => SizeOf.sizeOf l
decreasing_by
  · exact (sizeOf_then (List.mem_cons_self ..)).1
  · exact (sizeOf_then (List.mem_cons_self ..)).2
  · exact size_tail _ _
theorem msS_ok (d : Int) (l : List GStep) (b : Measure) (h0 : 0 ≤ d) (hd : d ≤ 13) (h1 : 0 ≤ b.fNodes) (h2 : b.fNodes + nSs l ≤ 1000) : (msS d l b).fDeep = (b.fDeep || (decide (12 < d - 1 + dSs l) || tDeep l)) ∧ b.fNodes ≤ (msS d l b).fNodes ∧ (msS d l b).fNodes ≤ b.fNodes + nSs l := by
  have key : ∀ (n : Nat) (d : Int) (l : List GStep) (b : Measure), SizeOf.sizeOf l < n → 0 ≤ d → d ≤ 13 → 0 ≤ b.fNodes → b.fNodes + nSs l ≤ 1000 → (msS d l b).fDeep = (b.fDeep || (decide (12 < d - 1 + dSs l) || tDeep l)) ∧ b.fNodes ≤ (msS d l b).fNodes ∧ (msS d l b).fNodes ≤ b.fNodes + nSs l := by
    intro n
    induction n with
    | zero => intro d l b h; omega
    | succ n ih =>
      intro d l b h h0 hd h1 h2
      cases l with
      | nil =>
        rw [msS, dSs, tDeep]
        refine ⟨?_, by omega, by simp [nSs]⟩
        rw [decide_eq_false (by omega)]
        simp
      | cons s l =>
        have hz := sizeOf_then (l := s :: l) (List.mem_cons_self ..)
        have hz2 := size_tail s l
        have hN := nS_eq s
        have hC := nSs_cons s l
        have p1 := dSs_pos s.fThen
        have p2 := dSs_pos s.fElse
        have p3 := dSs_pos l
        have p4 := dT_pos s.fTerm
        have hp : (incM d b).fNodes = b.fNodes + 1 := rfl
        have hp2 : (incM d b).fDeep = (b.fDeep || decide (12 < d)) := rfl
        rw [msS, dSs, tDeep]
        by_cases ho : overM (incM d b) = true
        · rw [if_pos ho]
          unfold overM incM at ho
          unfold incM
          dsimp only at ho ⊢
          refine ⟨?_, by omega, by omega⟩
          grind
        · rw [if_neg ho]
          unfold overM at ho
          rw [hp, hp2] at ho
          have hb : b.fDeep = false := by grind
          have hd2 : d ≤ 12 := by grind
          obtain ⟨a1, a2, a3⟩ := msT_ok s.fTerm 1 (incM d b) (by omega) (by omega) (by omega)
          obtain ⟨c1, c2, c3⟩ := ih (d + 1) s.fThen (msT s.fTerm 1 (incM d b)) (by omega) (by omega) (by omega) (by omega) (by omega)
          obtain ⟨g1, g2, g3⟩ := ih (d + 1) s.fElse _ (by omega) (by omega) (by omega) (Int.le_trans (by omega) c2) (by omega)
          obtain ⟨k1, k2, k3⟩ := ih d l _ (by omega) h0 hd (Int.le_trans (by omega) g2) (by omega)
          refine ⟨?_, by omega, by omega⟩
          rw [k1, g1, c1, a1, hp2, hb]
          rw [decide_eq_false (show ¬ 12 < d by omega)]
          have e1 : decide (12 < 1 - 1 + dT s.fTerm) = decide (12 < dT s.fTerm) := by congr 1; rw [show (1 : Int) - 1 + dT s.fTerm = dT s.fTerm by omega]
          rw [e1]
          have e2 : decide (12 < d - 1 + max (max (dSs s.fThen + 1) (dSs s.fElse + 1)) (dSs l)) = (decide (12 < d + 1 - 1 + dSs s.fThen) || (decide (12 < d + 1 - 1 + dSs s.fElse) || decide (12 < d - 1 + dSs l))) := by
            rw [← Bool.decide_or, ← Bool.decide_or]
            apply decide_eq_decide.2
            omega
          rw [e2]
          generalize decide (12 < dT s.fTerm) = x1
          generalize decide (12 < d + 1 - 1 + dSs s.fThen) = x2
          generalize decide (12 < d + 1 - 1 + dSs s.fElse) = x3
          generalize decide (12 < d - 1 + dSs l) = x4
          generalize tDeep s.fThen = x5
          generalize tDeep s.fElse = x6
          generalize tDeep l = x7
          revert x1 x2 x3 x4 x5 x6 x7
          decide
  exact key _ d l b (Nat.lt_succ_self _) h0 hd h1 h2
theorem firstC_zero {α : Type} [Inhabited α] {c : Nat → α → Int} : ∀ (l : List α) (i : Nat), firstC c l i = 0 → ∀ j, j < l.length → c (i + j) l[j]! = 0
  | [], i, _, j, hj => by simp at hj
  | x :: xs, i, h, j, hj => by
    unfold firstC at h
    split at h
    · rename_i hx
      cases j with
      | zero => exact hx
      | succ j =>
        have := firstC_zero xs (i + 1) h j (by simpa using hj)
        rw [show i + 1 + j = i + (j + 1) by omega] at this
        assumption
    · omega
def VarsOk (vars : List GVar) : Prop := ∀ v ∈ vars, -1048576 ≤ v.fLow ∧ v.fLow ≤ v.fHigh ∧ v.fHigh ≤ 1048576
theorem varC_zero {vars : List GVar} {i : Nat} {v : GVar} (h : varC vars i v = 0) : -1048576 ≤ v.fLow ∧ v.fLow ≤ v.fHigh ∧ v.fHigh ≤ 1048576 := by
 unfold varC boundB at h
 grind
theorem varsOk_of {vars : List GVar} (h : firstC (varC vars) vars 0 = 0) : VarsOk vars := fun v hv => by
 obtain ⟨i, hi, e⟩ := List.getElem_of_mem hv
 have := firstC_zero _ _ h i hi
 rw [getElem!_pos vars i hi, e] at this
 exact varC_zero this
theorem spc_filter (kind : Int) : ∀ (l : List GVar) (i : Nat) (n : Int), goE (fun _ (n : Int) (v : GVar) => if 4096 < n * (v.fHigh - v.fLow + 1) then (.inr () : Int ⊕ Unit) else .inl (n * (v.fHigh - v.fLow + 1))) (fun _ => (none : Option Int)) some (l.filter fun v => decide (v.fKind = kind)) i n = spc kind l n
  | [], i, n => rfl
  | v :: vs, i, n => by
    unfold spc
    by_cases hv : v.fKind = kind
    · rw [List.filter_cons_of_pos (by simpa using hv), if_pos hv]
      by_cases h : 4096 < n * (v.fHigh - v.fLow + 1)
      · rw [if_pos h, goE_inr (r := ()) (by rw [if_pos h])]
      · rw [if_neg h, goE_inl (by rw [if_neg h])]
        exact spc_filter kind vs (i + 1) _
    · rw [List.filter_cons_of_neg (by simpa using hv), if_neg hv]
      exact spc_filter kind vs i n
theorem spc_skip (kind : Int) : ∀ (l : List GVar) (i : Nat) (n : Int), goE (fun _ (n : Int) (v : GVar) => if v.fKind = kind then (if 4096 < n * (v.fHigh - v.fLow + 1) then (.inr () : Int ⊕ Unit) else .inl (n * (v.fHigh - v.fLow + 1))) else .inl n) (fun _ => (none : Option Int)) some l i n = spc kind l n
  | [], i, n => rfl
  | v :: vs, i, n => by
    unfold spc
    by_cases hv : v.fKind = kind
    · rw [if_pos hv]
      by_cases h : 4096 < n * (v.fHigh - v.fLow + 1)
      · rw [if_pos h, goE_inr (r := ()) (by rw [if_pos hv, if_pos h])]
      · rw [if_neg h, goE_inl (b' := n * (v.fHigh - v.fLow + 1)) (by rw [if_pos hv, if_neg h])]
        exact spc_skip kind vs (i + 1) _
    · rw [if_neg hv, goE_inl (b' := n) (by rw [if_neg hv])]
      exact spc_skip kind vs (i + 1) n
theorem size_bd {v : GVar} (h : -1048576 ≤ v.fLow ∧ v.fLow ≤ v.fHigh ∧ v.fHigh ≤ 1048576) {n : Int} (h1 : 1 ≤ n) (h2 : n ≤ 4096) :
  1 ≤ n * (v.fHigh - v.fLow + 1) ∧ i64.wrap (v.fHigh - v.fLow) = v.fHigh - v.fLow ∧ i64.wrap (v.fHigh - v.fLow + 1) = v.fHigh - v.fLow + 1 ∧ i64.wrap (n * (v.fHigh - v.fLow + 1)) = n * (v.fHigh - v.fLow + 1) := by
 have e1 : 0 ≤ (n - 1) * (v.fHigh - v.fLow + 1) := Int.mul_nonneg (by omega) (by omega)
 have e2 : n * (v.fHigh - v.fLow + 1) ≤ 4096 * (v.fHigh - v.fLow + 1) := Int.mul_le_mul_of_nonneg_right h2 (by omega)
 have e3 : (n - 1) * (v.fHigh - v.fLow + 1) = n * (v.fHigh - v.fLow + 1) - (v.fHigh - v.fLow + 1) := by rw [Int.sub_mul, Int.one_mul]
 exact ⟨by omega, wrap_id (by omega) (by omega), wrap_id (by omega) (by omega), wrap_id (by omega) (by omega)⟩
theorem a226_0_eq (vars : List GVar) (hv : VarsOk vars) (hl : vars.length ≤ 1000000) (kind : Int) : a226_0 ⟨kind, [], vars, (vars.length : Int), 0⟩ = some ⟨kind, vars.filter (fun v => decide (v.fKind = kind)), vars, (vars.length : Int), (vars.length : Int)⟩ := by
  obtain ⟨v, e1, hV⟩ := loopI (rnd := n226_0) vars.length (fun i (b : List GVar) => ⟨kind, b, vars, (vars.length : Int), (i : Int)⟩) (fun i b => b = (vars.take i).filter fun v => decide (v.fKind = kind)) (fun i b hi hb => by
    have hw := w1L hi hl
    have hv := hv _ (get_memL hi)
    have hb2 : b.length ≤ i := by rw [hb]; exact Nat.le_trans (List.length_filter_le _ _) (by rw [List.length_take]; omega)
    rw [take_succL hi, List.filter_append, ← hb]
    by_cases hk : vars[i]!.fKind = kind
    · refine ⟨b ++ [vars[i]!], ?_, ?_⟩
      · have hl2 : (b ++ [vars[i]!]).length ≤ 1073741824 := by simp; omega
        unfold n226_0
        grind
      · revert hk
        generalize vars[i]! = x
        intro hk
        simp [hk]
    · refine ⟨b, ?_, ?_⟩
      · unfold n226_0
        grind
      · revert hk
        generalize vars[i]! = x
        intro hk
        simp [hk]) (fun b _ => by unfold n226_0; simp) (b := []) rfl
  rw [List.take_length] at hV
  rw [← hV]
  exact e1
theorem a226_1_eq (F : List GVar) (hv : VarsOk F) (hl : F.length ≤ 1000000) :
    ∃ (i : Nat) (n : Int), a226_1 ⟨F, 1, F, (F.length : Int), 0⟩ = some ⟨F, n, F, (F.length : Int), (i : Int)⟩ ∧ ((i = F.length ∧ goE (fun _ (n : Int) (v : GVar) => if 4096 < n * (v.fHigh - v.fLow + 1) then (.inr () : Int ⊕ Unit) else .inl (n * (v.fHigh - v.fLow + 1))) (fun _ => (none : Option Int)) some F 0 1 = some n) ∨
      (i < F.length ∧ 4096 < i64.wrap (n * m277 F[i]!) ∧ goE (fun _ (n : Int) (v : GVar) => if 4096 < n * (v.fHigh - v.fLow + 1) then (.inr () : Int ⊕ Unit) else .inl (n * (v.fHigh - v.fLow + 1))) (fun _ => (none : Option Int)) some F 0 1 = none)) := by
  have hm : ∀ (i : Nat) (n : Int), i < F.length → 1 ≤ n → n ≤ 4096 → i64.wrap (n * m277 F[i]!) = n * (F[i]!.fHigh - F[i]!.fLow + 1) := fun i n hi h1 h2 => by
    obtain ⟨a, b, c, d⟩ := size_bd (hv _ (get_memL hi)) h1 h2
    unfold m277
    rw [b, c, d]
  obtain ⟨i, n, e1, hI, hc⟩ := loopV (rnd := n226_1) F (fun i (n : Int) => ⟨F, n, F, (F.length : Int), (i : Int)⟩) (fun _ (n : Int) (v : GVar) => if 4096 < n * (v.fHigh - v.fLow + 1) then (.inr () : Int ⊕ Unit) else .inl (n * (v.fHigh - v.fLow + 1))) (fun _ => (none : Option Int)) some (fun i n => 1 ≤ n ∧ n ≤ 4096) (fun i n hi hI => by
    have hw := w1L hi hl
    have h1 := hm i n hi hI.1 hI.2
    have h2 := (size_bd (hv _ (get_memL hi)) hI.1 hI.2).1
    unfold n226_1
    simp only [Int.toNat_natCast]
    grind) (fun b _ => by unfold n226_1; simp) (b := 1) ⟨by omega, by omega⟩
  refine ⟨i, n, e1, ?_⟩
  rcases hc with ⟨h1, h2⟩ | ⟨h1, r, h2, h3⟩
  · exact .inl ⟨h1, h2⟩
  · refine .inr ⟨h1, ?_, h3⟩
    rw [hm i n h1 hI.1 hI.2]
    by_cases h : 4096 < n * (F[i]!.fHigh - F[i]!.fLow + 1)
    · exact h
    · rw [if_neg h] at h2
      cases h2
theorem m166_eq (vars : List GVar) (hv : VarsOk vars) (hl : vars.length ≤ 1000000) (kind : Int) (hk : kind = 1 ∨ kind = 2 ∨ kind = 3) : m166 vars kind = some (match spc kind vars 1 with | some n => (n, 0) | none => (0, 4)) := by
  have e0 := a226_0_eq vars hv hl kind
  obtain ⟨i, n, e1, hc⟩ := a226_1_eq (vars.filter fun v => decide (v.fKind = kind)) (fun v h => hv v (List.mem_filter.1 h).1) (Nat.le_trans (List.length_filter_le _ _) hl)
  rw [spc_filter] at hc
  unfold m166 m226
  rcases hk with rfl | rfl | rfl
  all_goals
    simp only [e0, e1]
    rcases hc with ⟨rfl, hc⟩ | ⟨hi, h2, hc⟩
    · simp [hc]
    · simp only [Int.toNat_natCast, h2, hc]
      simp [hi]
theorem m108_eq (vars : List GVar) (hv : VarsOk vars) (hl : vars.length ≤ 1000000) (kind : Int) : m108 vars kind = some (match spc kind vars 1 with | some n => n | none => 4097) := by
  have hm : ∀ (i : Nat) (n : Int), i < vars.length → 1 ≤ n → n ≤ 4096 → i64.wrap (n * i64.wrap (i64.wrap (vars[i]!.fHigh - vars[i]!.fLow) + 1)) = n * (vars[i]!.fHigh - vars[i]!.fLow + 1) := fun i n hi h1 h2 => by
    obtain ⟨a, b, c, d⟩ := size_bd (hv _ (get_memL hi)) h1 h2
    rw [b, c, d]
  obtain ⟨i, n, e1, hI, hc⟩ := loopV (rnd := n108_0) vars (fun i (n : Int) => ⟨vars, kind, n, (i : Int)⟩) (fun _ (n : Int) (v : GVar) => if v.fKind = kind then (if 4096 < n * (v.fHigh - v.fLow + 1) then (.inr () : Int ⊕ Unit) else .inl (n * (v.fHigh - v.fLow + 1))) else .inl n) (fun _ => (none : Option Int)) some (fun i n => 1 ≤ n ∧ n ≤ 4096) (fun i n hi hI => by
    have hw := w1L hi hl
    have h1 := hm i n hi hI.1 hI.2
    have h2 := (size_bd (hv _ (get_memL hi)) hI.1 hI.2).1
    unfold n108_0
    simp only [Int.toNat_natCast]
    grind) (fun b _ => by unfold n108_0; simp) (b := 1) ⟨by omega, by omega⟩
  rw [spc_skip] at hc
  have e1' : a108_0 ⟨vars, kind, 1, 0⟩ = some ⟨vars, kind, n, (i : Int)⟩ := e1
  unfold m108
  rw [e1']
  rcases hc with ⟨rfl, hc⟩ | ⟨hi, r, h2, hc⟩
  · simp [hc]
  · have h1 := hm i n hi hI.1 hI.2
    grind
theorem spc_bd (kind : Int) : ∀ (l : List GVar) (n m : Int), n ≤ 4096 → spc kind l n = some m → m ≤ 4096
  | [], n, m, h, e => by unfold spc at e; cases e; exact h
  | v :: vs, n, m, h, e => by
    unfold spc at e
    split at e
    · split at e
      · cases e
      · exact spc_bd kind vs _ m (by omega) e
    · exact spc_bd kind vs n m h e
theorem round111 (vars : List GVar) (hl : vars.length ≤ 1000000) (i : Nat) (hi : i < vars.length) : (varC vars i vars[i]! = 0 → n98_0 ⟨vars, vars, (vars.length : Int), (i : Int)⟩ = some (some ⟨vars, vars, (vars.length : Int), ((i + 1 : Nat) : Int)⟩)) ∧ (varC vars i vars[i]! ≠ 0 → n98_0 ⟨vars, vars, (vars.length : Int), (i : Int)⟩ = some none) := by
 have hw := w1L hi hl
 have h1 := m163_eq vars[i]!.fName
 have h2 := m164_eq (vars.take i) (by rw [List.length_take]; omega) vars[i]!
 unfold n98_0 varC
 simp only [Int.toNat_natCast, m165_eq, h1, h2]
 generalize nameB vars[i]!.fName = B
 generalize ((vars.take i).any fun w => w.fName.toList == vars[i]!.fName.toList) = A
 generalize boundB vars[i]!.fLow vars[i]!.fHigh = C
 cases A <;> cases B <;> cases C <;> simp only [cond_true] <;> grind
theorem m98_eq (vars : List GVar) (hl : vars.length ≤ 1000000) : m98 vars = some (varsC vars) := by
  obtain ⟨i, e1, hc⟩ := loopC (rnd := n98_0) vars (fun i => ⟨vars, vars, (vars.length : Int), (i : Int)⟩) (varC vars) (fun i hi => round111 vars hl i hi) (by unfold n98_0; simp)
  have e1' : a98_0 ⟨vars, vars, (vars.length : Int), 0⟩ = some ⟨vars, vars, (vars.length : Int), (i : Int)⟩ := e1
  unfold m98 varsC
  rw [e1']
  dsimp only
  rcases hc with ⟨rfl, hc⟩ | ⟨hi, h0, hc⟩
  · have hv := varsOk_of hc
    rw [decide_eq_false (by omega), cond_false, if_neg (by rw [hc]; simp)]
    have hr : ∀ k : Nat, k < 3 → i64.wrap ((k : Int) + 1) = ((k + 1 : Nat) : Int) := fun k hk => w1L hk (by decide)
    have k1 := m166_eq vars hv hl 1 (.inl rfl)
    have k2 := m166_eq vars hv hl 2 (.inr (.inl rfl))
    have k3 := m166_eq vars hv hl 3 (.inr (.inr rfl))
    have r1 : n98_1 ⟨vars, [1, 2, 3], 3, 0⟩ = match spc 1 vars 1 with | some _ => some (some ⟨vars, [1, 2, 3], 3, 1⟩) | none => some none := by
      unfold n98_1
      simp [k1]
      cases spc 1 vars 1 with
      | none => simp
      | some n => simp; exact hr 0 (by decide)
    have r2 : n98_1 ⟨vars, [1, 2, 3], 3, 1⟩ = match spc 2 vars 1 with | some _ => some (some ⟨vars, [1, 2, 3], 3, 2⟩) | none => some none := by
      unfold n98_1
      simp [k2]
      cases spc 2 vars 1 with
      | none => simp
      | some n => simp; exact hr 1 (by decide)
    have r3 : n98_1 ⟨vars, [1, 2, 3], 3, 2⟩ = match spc 3 vars 1 with | some n => if 256 < n then some none else some (some ⟨vars, [1, 2, 3], 3, 3⟩) | none => some none := by
      unfold n98_1
      simp [k3]
      cases spc 3 vars 1 with
      | none => simp
      | some n =>
        by_cases h : 256 < n
        · simp [h]
        · simp [h]; exact hr 2 (by decide)
    unfold spaceB
    cases s1 : spc 1 vars 1 with
    | none =>
      rw [s1] at r1 k1
      have e : a98_1 ⟨vars, [1, 2, 3], 3, 0⟩ = some ⟨vars, [1, 2, 3], 3, 0⟩ := advG_stop fun r => by rw [r1]; simp
      rw [show ((↑(3 : Int) : Int)) = 3 from rfl, e]
      simp [k1]
    | some n1 =>
      rw [s1] at r1 k1
      cases s2 : spc 2 vars 1 with
      | none =>
        rw [s2] at r2 k2
        have e : a98_1 ⟨vars, [1, 2, 3], 3, 0⟩ = some ⟨vars, [1, 2, 3], 3, 1⟩ := (advG_step r1).trans (advG_stop fun r => by rw [r2]; simp)
        rw [show ((↑(3 : Int) : Int)) = 3 from rfl, e]
        simp [k2]
      | some n2 =>
        rw [s2] at r2 k2
        cases s3 : spc 3 vars 1 with
        | none =>
          rw [s3] at r3 k3
          have e : a98_1 ⟨vars, [1, 2, 3], 3, 0⟩ = some ⟨vars, [1, 2, 3], 3, 2⟩ := (advG_step r1).trans ((advG_step r2).trans (advG_stop fun r => by rw [r3]; simp))
          rw [show ((↑(3 : Int) : Int)) = 3 from rfl, e]
          simp [k3]
        | some n3 =>
          rw [s3] at r3 k3
          dsimp only at r3
          by_cases h : 256 < n3
          · rw [if_pos h] at r3
            have e : a98_1 ⟨vars, [1, 2, 3], 3, 0⟩ = some ⟨vars, [1, 2, 3], 3, 2⟩ := (advG_step r1).trans ((advG_step r2).trans (advG_stop fun r => by rw [r3]; simp))
            rw [show ((↑(3 : Int) : Int)) = 3 from rfl, e]
            simp [k3, h]
          · rw [if_neg h] at r3
            have e : a98_1 ⟨vars, [1, 2, 3], 3, 0⟩ = some ⟨vars, [1, 2, 3], 3, 3⟩ := (advG_step r1).trans ((advG_step r2).trans ((advG_step r3).trans (advG_stop fun r => by unfold n98_1; simp)))
            rw [show ((↑(3 : Int) : Int)) = 3 from rfl, e]
            simp [h]
  · have h1 := m163_eq vars[i]!.fName
    have h2 := m164_eq (vars.take i) (by rw [List.length_take]; omega) vars[i]!
    rw [hc, if_pos h0]
    revert h0
    unfold varC
    simp only [Bool.cond_decide, Int.toNat_natCast, m165_eq, h1, h2]
    generalize nameB vars[i]!.fName = B
    generalize ((vars.take i).any fun w => w.fName.toList == vars[i]!.fName.toList) = A
    generalize boundB vars[i]!.fLow vars[i]!.fHigh = C
    intro h0
    cases A <;> cases B <;> cases C <;> simp only [cond_true, cond_false] at h0 ⊢ <;> grind
theorem round59 (vars : List GVar) (hl : vars.length ≤ 1000000) (i : Nat) (hi : i < vars.length) : (varC vars i vars[i]! = 0 → n51_0 ⟨vars, (i : Int)⟩ = some (some ⟨vars, ((i + 1 : Nat) : Int)⟩)) ∧ (varC vars i vars[i]! ≠ 0 → n51_0 ⟨vars, (i : Int)⟩ = some none) := by
  have hw := w1L hi hl
  have h1 := m52_eq vars[i]!.fName
  obtain ⟨j, h2, h3⟩ := a51_1_eq vars hl i (by omega) vars[i]!
  unfold n51_0 varC
  simp only [Int.toNat_natCast, m53_eq, h1, h2]
  generalize nameB vars[i]!.fName = B
  generalize ((vars.take i).any fun w => w.fName.toList == vars[i]!.fName.toList) = A at h3
  generalize boundB vars[i]!.fLow vars[i]!.fHigh = C
  rcases h3 with ⟨rfl, rfl⟩ | ⟨hj, h4, rfl⟩
  · cases B <;> cases C <;> simp only [cond_true] <;> grind
  · simp only
    cases B <;> cases C <;> simp only [cond_true] <;> grind
theorem m51_eq (vars : List GVar) (hl : vars.length ≤ 1000000) : m51 vars = some (varsC vars) := by
  obtain ⟨i, e1, hc⟩ := loopC (rnd := n51_0) vars (fun i => ⟨vars, (i : Int)⟩) (varC vars) (fun i hi => round59 vars hl i hi) (by unfold n51_0; simp)
  have e1' : a51_0 ⟨vars, 0⟩ = some ⟨vars, (i : Int)⟩ := e1
  unfold m51 varsC
  rw [e1']
  dsimp only
  rcases hc with ⟨rfl, hc⟩ | ⟨hi, h0, hc⟩
  · have hv := varsOk_of hc
    rw [m108_eq vars hv hl 1, m108_eq vars hv hl 2, m108_eq vars hv hl 3]
    have b1 := spc_bd 1 vars 1
    have b2 := spc_bd 2 vars 1
    unfold spaceB
    revert b1 b2
    cases spc 1 vars 1 <;> cases spc 2 vars 1 <;> cases spc 3 vars 1 <;> intro b1 b2 <;> simp only [Option.isSome_none, Option.isSome_some] <;> (try have c1 := b1 _ (by omega) rfl) <;> (try have c2 := b2 _ (by omega) rfl) <;> grind
  · have h1 := m52_eq vars[i]!.fName
    obtain ⟨j, h2, h3⟩ := a51_1_eq vars hl i (by omega) vars[i]!
    rw [hc, if_pos h0]
    revert h0
    unfold varC
    simp only [Int.toNat_natCast, m53_eq, h1, h2]
    generalize nameB vars[i]!.fName = B
    generalize ((vars.take i).any fun w => w.fName.toList == vars[i]!.fName.toList) = A at h3
    generalize boundB vars[i]!.fLow vars[i]!.fHigh = C
    intro h0
    rcases h3 with ⟨rfl, rfl⟩ | ⟨hj, h4, rfl⟩
    · cases B <;> cases C <;> simp only [cond_true] at h0 ⊢ <;> grind
    · simp only [h4]
      cases B <;> cases C <;> simp only [cond_true, cond_false] at h0 ⊢ <;> grind
theorem m278_eq (o : Int) : m278 o = kidsN o := by
 unfold m278 kidsN
 grind
theorem m174_eq (o : Int) : m174 o = if o = 25 then -2 else (kidsN o).1 := by
 unfold m174 kidsN
 grind (splits := 40)
theorem s228_eq (M : List GVar → GTerm → Bool → Option E228) (vars : List GVar) (inp : Bool) (t : GTerm) (hM : ∀ k ∈ t.fKids, M vars k inp = some (formS vars inp k)) : s228 M vars t inp = some (formS vars inp t) := by
  have key : t.fKids.length ≤ 1000000 → ∃ i : Nat, a228_0 M ⟨vars, inp, t.fKids, (t.fKids.length : Int), 0⟩ = some ⟨vars, inp, t.fKids, (t.fKids.length : Int), (i : Int)⟩ ∧ ((i = t.fKids.length ∧ t.fKids.all (formS vars inp) = true) ∨ (i < t.fKids.length ∧ formS vars inp t.fKids[i]! = false ∧ t.fKids.all (formS vars inp) = false)) := fun hl => by
    obtain ⟨i, e1, hc⟩ := loopB (rnd := n228_0 M) t.fKids (fun i => ⟨vars, inp, t.fKids, (t.fKids.length : Int), (i : Int)⟩) (fun _ k => formS vars inp k) (fun i hi => by
      have hw := w1L hi hl
      have hk := hM _ (get_memL hi)
      unfold n228_0
      simp only [Int.toNat_natCast, GTerm.eta, hk, hw]
      cases formS vars inp t.fKids[i]! <;> simp [hi]) (by unfold n228_0; simp)
    refine ⟨i, e1, ?_⟩
    rcases hc with ⟨rfl, hc⟩ | ⟨hi, hc⟩
    · exact .inl ⟨rfl, all_of hc⟩
    · exact .inr ⟨hi, hc, not_all hi hc⟩
  unfold s228
  rw [m278_eq, formS_eq]
  unfold form0
  by_cases hn : 0 ≤ (kidsN t.fOp).1 ∧ (kidsN t.fOp).1 ≤ t.fKids.length ∧ (t.fKids.length : Int) ≤ (kidsN t.fOp).2
  · have h33 : (kidsN t.fOp).2 ≤ 33 := by unfold kidsN; grind
    obtain ⟨i, e, hc⟩ := key (by omega)
    rw [decide_eq_true hn, decide_eq_false (show ¬ (kidsN t.fOp).1 < 0 by omega), decide_eq_false (show ¬ (t.fKids.length : Int) < (kidsN t.fOp).1 by omega), decide_eq_false (show ¬ (kidsN t.fOp).2 < (t.fKids.length : Int) by omega), e]
    generalize t.fKids.all (formS vars inp) = A at hc
    simp only [Int.toNat_natCast]
    rcases hc with ⟨rfl, rfl⟩ | ⟨hi, h2, rfl⟩
    · cases inp <;> grind
    · have hk := hM _ (get_memL hi)
      simp only [GTerm.eta]
      cases inp <;> grind
  · rw [decide_eq_false hn]
    grind
theorem m228_eq (vars : List GVar) (inp : Bool) : ∀ (n : Nat) (t : GTerm), SizeOf.sizeOf t < n → m228 n vars t inp = some (formS vars inp t)
 | 0, _, h => by omega
 | n + 1, t, h => s228_eq (m228 n) vars inp t (fun k hk => m228_eq vars inp n k (by have := GTerm.kids_lt hk; omega))
theorem r228_eq (vars : List GVar) (inp : Bool) (t : GTerm) : r228 vars t inp = some (formS vars inp t) := lim_eq (SizeOf.sizeOf t + 1) fun n hn => m228_eq vars inp n t (by omega)
theorem s109_eq (M : List GVar → GTerm → Bool → Option E109) (vars : List GVar) (inp : Bool) (t : GTerm) (hM : ∀ k ∈ t.fKids, M vars k inp = some (formS vars inp k)) : s109 M vars t inp = some (formS vars inp t) := by
  have key : t.fKids.length ≤ 1000000 → ∃ i : Nat, a109_0 M ⟨vars, inp, 0, t⟩ = some ⟨vars, inp, (i : Int), t⟩ ∧ ((i = t.fKids.length ∧ t.fKids.all (formS vars inp) = true) ∨ (i < t.fKids.length ∧ formS vars inp t.fKids[i]! = false ∧ t.fKids.all (formS vars inp) = false)) := fun hl => by
    obtain ⟨i, e1, hc⟩ := loopB (rnd := n109_0 M) t.fKids (fun i => ⟨vars, inp, (i : Int), t⟩) (fun _ k => formS vars inp k) (fun i hi => by
      have hw := w1L hi hl
      have hk := hM _ (get_memL hi)
      unfold n109_0
      dsimp only
      simp only [Int.toNat_natCast, GTerm.eta, hk, hw]
      cases formS vars inp t.fKids[i]! <;> simp [hi]) (by unfold n109_0; simp)
    refine ⟨i, e1, ?_⟩
    rcases hc with ⟨rfl, hc⟩ | ⟨hi, hc⟩
    · exact .inl ⟨rfl, all_of hc⟩
    · exact .inr ⟨hi, hc, not_all hi hc⟩
  unfold s109
  rw [m174_eq, formS_eq]
  unfold form0
  have hk0 : (kidsN t.fOp).1 = -1 ∨ 0 ≤ (kidsN t.fOp).1 := by unfold kidsN; grind
  have hk1 : t.fOp ≠ 25 → (kidsN t.fOp).1 = (kidsN t.fOp).2 := by unfold kidsN; grind
  have hk2 : t.fOp = 25 → kidsN t.fOp = (2, 33) := by unfold kidsN; grind
  have h33 : (kidsN t.fOp).2 ≤ 33 := by unfold kidsN; grind
  have hk3 : t.fOp = 25 → (kidsN t.fOp).1 = 2 ∧ (kidsN t.fOp).2 = 33 := fun h => by rw [hk2 h]; exact ⟨rfl, rfl⟩
  generalize (kidsN t.fOp).1 = a at *
  generalize (kidsN t.fOp).2 = b at *
  by_cases hn : 0 ≤ a ∧ a ≤ t.fKids.length ∧ (t.fKids.length : Int) ≤ b
  · obtain ⟨i, e, hc⟩ := key (by omega)
    rw [decide_eq_true hn, GTerm.eta, e]
    generalize t.fKids.all (formS vars inp) = A at hc
    simp only [Bool.cond_decide, Int.toNat_natCast]
    rcases hc with ⟨rfl, rfl⟩ | ⟨hi, h2, rfl⟩
    · cases inp <;> grind
    · have hk := hM _ (get_memL hi)
      simp only [GTerm.eta, hk, h2]
      by_cases h25 : t.fOp = 25
      · rw [if_pos h25, h25]
        cases inp <;> grind (splits := 30)
      · rw [if_neg h25]
        cases inp <;> grind (splits := 30)
  · rw [decide_eq_false hn]
    grind
theorem m109_eq (vars : List GVar) (inp : Bool) : ∀ (n : Nat) (t : GTerm), SizeOf.sizeOf t < n → m109 n vars t inp = some (formS vars inp t)
 | 0, _, h => by omega
 | n + 1, t, h => s109_eq (m109 n) vars inp t (fun k hk => m109_eq vars inp n k (by have := GTerm.kids_lt hk; omega))
theorem r109_eq (vars : List GVar) (inp : Bool) (t : GTerm) : r109 vars t inp = some (formS vars inp t) := lim_eq (SizeOf.sizeOf t + 1) fun n hn => m109_eq vars inp n t (by omega)
def InS (s : Span) : Prop := -1048576 ≤ s.fLow ∧ s.fLow ≤ s.fHigh ∧ s.fHigh ≤ 1048576
theorem m299_eq (a b : Span) : m299 a b = hull a b := rfl
theorem mul_bd {a b : Int} (h1 : -1048576 ≤ a) (h2 : a ≤ 1048576) (h3 : -1048576 ≤ b) (h4 : b ≤ 1048576) : -1099511627776 ≤ a * b ∧ a * b ≤ 1099511627776 := by
 have e1 : (1048576 - a) * (1048576 - b) ≥ 0 := Int.mul_nonneg (by omega) (by omega)
 have e2 : (1048576 + a) * (1048576 + b) ≥ 0 := Int.mul_nonneg (by omega) (by omega)
 have e3 : (1048576 - a) * (1048576 + b) ≥ 0 := Int.mul_nonneg (by omega) (by omega)
 have e4 : (1048576 + a) * (1048576 - b) ≥ 0 := Int.mul_nonneg (by omega) (by omega)
 grind
theorem m297_eq (a b : Span) (ha : InS a) (hb : InS b) : m297 a b = some (hull (hull (hull ⟨a.fLow * b.fLow, a.fLow * b.fLow⟩ ⟨a.fLow * b.fHigh, a.fLow * b.fHigh⟩) ⟨a.fHigh * b.fLow, a.fHigh * b.fLow⟩) ⟨a.fHigh * b.fHigh, a.fHigh * b.fHigh⟩) := by
 unfold InS at ha hb
 have w1 : m298 a.fLow b.fLow = a.fLow * b.fLow := by have := mul_bd (a := a.fLow) (b := b.fLow) (by omega) (by omega) (by omega) (by omega); exact wrap_id (by omega) (by omega)
 have w2 : m298 a.fLow b.fHigh = a.fLow * b.fHigh := by have := mul_bd (a := a.fLow) (b := b.fHigh) (by omega) (by omega) (by omega) (by omega); exact wrap_id (by omega) (by omega)
 have w3 : m298 a.fHigh b.fLow = a.fHigh * b.fLow := by have := mul_bd (a := a.fHigh) (b := b.fLow) (by omega) (by omega) (by omega) (by omega); exact wrap_id (by omega) (by omega)
 have w4 : m298 a.fHigh b.fHigh = a.fHigh * b.fHigh := by have := mul_bd (a := a.fHigh) (b := b.fHigh) (by omega) (by omega) (by omega) (by omega); exact wrap_id (by omega) (by omega)
 unfold m297
 rw [w1, w2, w3, w4]
 generalize a.fLow * b.fLow = p
 generalize a.fLow * b.fHigh = q
 generalize a.fHigh * b.fLow = r
 generalize a.fHigh * b.fHigh = s
 have e : a297_0 ⟨[q, r, s], (3 : Int), 0, ⟨0, 0⟩, ⟨p, p⟩⟩ = some ⟨[q, r, s], 3, 3, ⟨0, 0⟩, hull (hull (hull ⟨p, p⟩ ⟨q, q⟩) ⟨r, r⟩) ⟨s, s⟩⟩ := by
  have k1 : n297_0 ⟨[q, r, s], (3 : Int), 0, ⟨0, 0⟩, ⟨p, p⟩⟩ = some (some ⟨[q, r, s], (3 : Int), 1, ⟨0, 0⟩, hull ⟨p, p⟩ ⟨q, q⟩⟩) := by unfold n297_0; simp [m299_eq, wrap_id]
  have k2 : n297_0 ⟨[q, r, s], (3 : Int), 1, ⟨0, 0⟩, hull ⟨p, p⟩ ⟨q, q⟩⟩ = some (some ⟨[q, r, s], (3 : Int), 2, ⟨0, 0⟩, hull (hull ⟨p, p⟩ ⟨q, q⟩) ⟨r, r⟩⟩) := by unfold n297_0; simp [m299_eq, wrap_id]
  have k3 : n297_0 ⟨[q, r, s], (3 : Int), 2, ⟨0, 0⟩, hull (hull ⟨p, p⟩ ⟨q, q⟩) ⟨r, r⟩⟩ = some (some ⟨[q, r, s], (3 : Int), 3, ⟨0, 0⟩, hull (hull (hull ⟨p, p⟩ ⟨q, q⟩) ⟨r, r⟩) ⟨s, s⟩⟩) := by unfold n297_0; simp [m299_eq, wrap_id]
  unfold a297_0
  rw [advG_step k1, advG_step k2, advG_step k3]
  exact advG_stop fun r => by unfold n297_0; simp
 rw [show (([q, r, s] : List Int).length : Int) = 3 from rfl, e]
 simp
theorem hull_in {a b : Span} (ha : InS a) (hb : InS b) : InS (hull a b) := by
 unfold InS hull at *
 grind
theorem foldl_hull_in : ∀ (l : List Span) (a : Span), InS a → (∀ x ∈ l, InS x) → InS (l.foldl hull a)
 | [], a, ha, _ => ha
 | x :: l, a, ha, h => foldl_hull_in l (hull a x) (hull_in ha (h x (List.mem_cons_self ..))) fun y hy => h y (List.mem_cons_of_mem _ hy)
theorem a279_0_eq (l : List Span) (hl : l.length ≤ 1000000) (z a : Span) : a279_0 ⟨l, (l.length : Int), 0, z, a⟩ = some ⟨l, (l.length : Int), (l.length : Int), z, l.foldl hull a⟩ := by
  obtain ⟨v, e1, hv⟩ := loopI (rnd := n279_0) l.length (fun i (b : Span) => ⟨l, (l.length : Int), (i : Int), z, b⟩) (fun i b => b = (l.take i).foldl hull a) (fun i b hi hb => by
    have hw := w1L hi hl
    refine ⟨hull b l[i]!, ?_, ?_⟩
    · unfold n279_0
      simp only [m299_eq]
      grind
    · rw [take_succL hi, List.foldl_append, hb]; rfl) (fun b _ => by unfold n279_0; simp) (b := a) rfl
  rw [List.take_length] at hv
  rw [← hv]
  exact e1
def KidsOk (vars : List GVar) (t : GTerm) (k : List Span) : Prop := (0 ≤ (kidsN t.fOp).1 ∧ (kidsN t.fOp).1 ≤ k.length ∧ (k.length : Int) ≤ (kidsN t.fOp).2) ∧ (t.fOp = 24 → 0 ≤ t.fN ∧ t.fN < vars.length) ∧ ∀ s ∈ k, InS s
theorem m279_eq (vars : List GVar) (t : GTerm) (k : List Span) (h : KidsOk vars t k) : m279 vars t k = some (ruleS vars t k) := by
  obtain ⟨hk, h24, hI⟩ := h
  have h0 : 1 ≤ (kidsN t.fOp).1 → InS k[0]! := fun h => hI _ (get_memL (by omega))
  have h1 : 2 ≤ (kidsN t.fOp).1 → InS k[1]! := fun h => hI _ (get_memL (by omega))
  have h33 : (kidsN t.fOp).2 ≤ 33 := by unfold kidsN; grind
  have hd : (k.drop 2).length ≤ 1000000 := by rw [List.length_drop]; omega
  have W : ∀ n : Int, -8796093022208 ≤ n → n ≤ 8796093022208 → i64.wrap n = n := fun n a b => wrap_id (by omega) (by omega)
  unfold m279 ruleS
  rw [a279_0_eq _ hd]
  have cs : t.fOp = 0 ∨ t.fOp = 24 ∨ t.fOp = 6 ∨ t.fOp = 8 ∨ t.fOp = 9 ∨ t.fOp = 10 ∨ t.fOp = 11 ∨ t.fOp = 12 ∨ t.fOp = 21 ∨ t.fOp = 22 ∨ t.fOp = 23 ∨ t.fOp = 25 ∨ (t.fOp ≠ 0 ∧ t.fOp ≠ 24 ∧ t.fOp ≠ 6 ∧ t.fOp ≠ 8 ∧ t.fOp ≠ 9 ∧ t.fOp ≠ 10 ∧ t.fOp ≠ 11 ∧ t.fOp ≠ 12 ∧ t.fOp ≠ 21 ∧ t.fOp ≠ 22 ∧ t.fOp ≠ 23 ∧ t.fOp ≠ 25) := by omega
  rcases cs with h | h | h | h | h | h | h | h | h | h | h | h | h
  · simp [h]
  · simp [h, h24 h]
  · have hl : 1 ≤ (kidsN t.fOp).1 := by rw [h]; decide
    obtain ⟨a1, a2, a3⟩ := h0 hl
    have w1 : i64.wrap ((0 : Int) - k[0]!.fHigh) = -k[0]!.fHigh := by rw [W _ (by omega) (by omega)]; omega
    have w2 : i64.wrap ((0 : Int) - k[0]!.fLow) = -k[0]!.fLow := by rw [W _ (by omega) (by omega)]; omega
    have i0 : (0 : Int) < (k.length : Int) := by omega
    simp only [Z0, h, Bool.cond_decide, Int.reduceEq, reduceIte, i0, w1, w2, Int.le_refl, and_self]
  · have hl : 2 ≤ (kidsN t.fOp).1 := by rw [h]; decide
    obtain ⟨a1, a2, a3⟩ := h0 (by omega)
    obtain ⟨b1, b2, b3⟩ := h1 hl
    have w1 := W (k[0]!.fLow + k[1]!.fLow) (by omega) (by omega)
    have w2 := W (k[0]!.fHigh + k[1]!.fHigh) (by omega) (by omega)
    have i0 : (0 : Int) < (k.length : Int) := by omega
    have i1 : (1 : Int) < (k.length : Int) := by omega
    simp only [Z0, h, Bool.cond_decide, Int.reduceEq, Int.reduceLE, reduceIte, i0, i1, w1, w2, Int.le_refl, and_self, if_true]
  · have hl : 2 ≤ (kidsN t.fOp).1 := by rw [h]; decide
    obtain ⟨a1, a2, a3⟩ := h0 (by omega)
    obtain ⟨b1, b2, b3⟩ := h1 hl
    have w1 := W (k[0]!.fLow - k[1]!.fHigh) (by omega) (by omega)
    have w2 := W (k[0]!.fHigh - k[1]!.fLow) (by omega) (by omega)
    have i0 : (0 : Int) < (k.length : Int) := by omega
    have i1 : (1 : Int) < (k.length : Int) := by omega
    simp only [Z0, h, Bool.cond_decide, Int.reduceEq, Int.reduceLE, reduceIte, i0, i1, w1, w2, Int.le_refl, and_self, if_true]
  · have hl : 2 ≤ (kidsN t.fOp).1 := by rw [h]; decide
    have e18 := m297_eq _ _ (h0 (by omega)) (h1 hl)
    have i0 : (0 : Int) < (k.length : Int) := by omega
    have i1 : (1 : Int) < (k.length : Int) := by omega
    simp only [Z0, h, Bool.cond_decide, Int.reduceEq, Int.reduceLE, reduceIte, i0, i1, e18, Int.le_refl, and_self, if_true]
  · have hl : 2 ≤ (kidsN t.fOp).1 := by rw [h]; decide
    obtain ⟨a1, a2, a3⟩ := h0 (by omega)
    obtain ⟨b1, b2, b3⟩ := h1 hl
    have w1 : i64.wrap ((0 : Int) - k[0]!.fLow) = -k[0]!.fLow := by rw [W _ (by omega) (by omega)]; omega
    have w2 : i64.wrap ((0 : Int) - if k[0]!.fHigh < -k[0]!.fLow then -k[0]!.fLow else k[0]!.fHigh) = -(if k[0]!.fHigh < -k[0]!.fLow then -k[0]!.fLow else k[0]!.fHigh) := by split <;> (rw [W _ (by omega) (by omega)]; omega)
    have i0 : (0 : Int) < (k.length : Int) := by omega
    have i1 : (1 : Int) < (k.length : Int) := by omega
    simp only [Z0, h, Bool.cond_decide, Int.reduceEq, Int.reduceLE, reduceIte, i0, i1, w1, w2, Int.le_refl, and_self, if_true]
    by_cases c1 : (0 : Int) ≤ k[0]!.fLow <;> by_cases c2 : (0 : Int) ≤ k[1]!.fLow <;> simp only [c1, c2, if_true, if_false, decide_true, decide_false, cond_true, cond_false, and_self, and_true, and_false]
  · have hl : 2 ≤ (kidsN t.fOp).1 := by rw [h]; decide
    obtain ⟨b1, b2, b3⟩ := h1 hl
    have w1 := W (k[1]!.fLow + 1) (by omega) (by omega)
    have w2 := W (k[1]!.fHigh - 1) (by omega) (by omega)
    have i1 : (1 : Int) < (k.length : Int) := by omega
    simp only [Z0, h, Bool.cond_decide, Int.reduceEq, Int.reduceLE, reduceIte, i1, w1, w2, Int.le_refl, and_self, if_true]
    by_cases c1 : k[1]!.fLow < 0 <;> by_cases c2 : (0 : Int) < k[1]!.fHigh <;> simp only [c1, c2, if_true, if_false]
    · rw [if_neg (by omega), if_neg (by omega)]
    · rw [if_neg (by omega)]
    · rw [if_neg (by omega)]
  · have hl : 2 ≤ (kidsN t.fOp).1 := by rw [h]; decide
    have i0 : (0 : Int) < (k.length : Int) := by omega
    have i1 : (1 : Int) < (k.length : Int) := by omega
    simp only [Z0, h, Bool.cond_decide, Int.reduceEq, Int.reduceLE, reduceIte, i0, i1, Int.le_refl, and_self, if_true]
  · have hl : 2 ≤ (kidsN t.fOp).1 := by rw [h]; decide
    have i0 : (0 : Int) < (k.length : Int) := by omega
    have i1 : (1 : Int) < (k.length : Int) := by omega
    simp only [Z0, h, Bool.cond_decide, Int.reduceEq, Int.reduceLE, reduceIte, i0, i1, Int.le_refl, and_self, if_true]
  · have hl : 2 ≤ (kidsN t.fOp).1 := by rw [h]; decide
    have i1 : (1 : Int) < (k.length : Int) := by omega
    have i2 : (2 : Int) ≤ (k.length : Int) := by omega
    simp only [Z0, h, Bool.cond_decide, Int.reduceEq, Int.reduceLE, reduceIte, i1, i2, Int.le_refl, and_self, if_true, Int.lt_irrefl, if_false, true_or]
  · have hl : 2 ≤ (kidsN t.fOp).1 := by rw [h]; decide
    have i1 : (1 : Int) < (k.length : Int) := by omega
    have i2 : (2 : Int) ≤ (k.length : Int) := by omega
    simp only [Z0, h, Bool.cond_decide, Int.reduceEq, Int.reduceLE, reduceIte, i1, i2, Int.le_refl, and_self, if_true, Int.lt_irrefl, if_false, or_true]
  · obtain ⟨c1, c2, c3, c4, c5, c6, c7, c8, c9, c18, c11, c12⟩ := h
    simp only [c1, c2, c3, c4, c5, c6, c7, c8, c9, c18, c11, c12, Bool.cond_decide, if_false, or_self]
theorem rule_ord (vars : List GVar) (hv : VarsOk vars) (t : GTerm) (k : List Span) (h : KidsOk vars t k) : (ruleS vars t k).fLow ≤ (ruleS vars t k).fHigh := by
  obtain ⟨hk, h24, hI⟩ := h
  have h0 : 1 ≤ (kidsN t.fOp).1 → InS k[0]! := fun h => hI _ (get_memL (by omega))
  have h1 : 2 ≤ (kidsN t.fOp).1 → InS k[1]! := fun h => hI _ (get_memL (by omega))
  unfold ruleS
  have cs : t.fOp = 0 ∨ t.fOp = 24 ∨ t.fOp = 6 ∨ t.fOp = 8 ∨ t.fOp = 9 ∨ t.fOp = 10 ∨ t.fOp = 11 ∨ t.fOp = 12 ∨ t.fOp = 21 ∨ t.fOp = 22 ∨ t.fOp = 23 ∨ t.fOp = 25 ∨ (t.fOp ≠ 0 ∧ t.fOp ≠ 24 ∧ t.fOp ≠ 6 ∧ t.fOp ≠ 8 ∧ t.fOp ≠ 9 ∧ t.fOp ≠ 10 ∧ t.fOp ≠ 11 ∧ t.fOp ≠ 12 ∧ t.fOp ≠ 21 ∧ t.fOp ≠ 22 ∧ t.fOp ≠ 23 ∧ t.fOp ≠ 25) := by omega
  rcases cs with h | h | h | h | h | h | h | h | h | h | h | h | h
  · simp [h]
  · have hm : vars[t.fN.toNat]! ∈ vars := get_memL (by have := h24 h; omega)
    have := hv _ hm
    simp only [h, Int.reduceEq, reduceIte]
    omega
  · obtain ⟨a1, a2, a3⟩ := h0 (by rw [h]; decide)
    simp only [h, Int.reduceEq, reduceIte]
    omega
  · obtain ⟨a1, a2, a3⟩ := h0 (by rw [h]; decide)
    obtain ⟨b1, b2, b3⟩ := h1 (by rw [h]; decide)
    simp only [h, Int.reduceEq, reduceIte]
    omega
  · obtain ⟨a1, a2, a3⟩ := h0 (by rw [h]; decide)
    obtain ⟨b1, b2, b3⟩ := h1 (by rw [h]; decide)
    simp only [h, Int.reduceEq, reduceIte]
    omega
  · simp only [h, Int.reduceEq, reduceIte, hull]
    omega
  · obtain ⟨a1, a2, a3⟩ := h0 (by rw [h]; decide)
    grind
  · simp only [h]
    grind
  · obtain ⟨a1, a2, a3⟩ := h0 (by rw [h]; decide)
    obtain ⟨b1, b2, b3⟩ := h1 (by rw [h]; decide)
    simp only [h, Int.reduceEq]
    grind
  · obtain ⟨a1, a2, a3⟩ := h0 (by rw [h]; decide)
    obtain ⟨b1, b2, b3⟩ := h1 (by rw [h]; decide)
    simp only [h, Int.reduceEq, reduceIte]
    grind
  · have := foldl_hull_in (k.drop 2) k[1]! (h1 (by rw [h]; decide)) fun x hx => hI x (List.mem_of_mem_drop hx)
    simp only [h, Int.reduceEq, reduceIte, true_or, if_true]
    exact this.2.1
  · have := foldl_hull_in (k.drop 2) k[1]! (h1 (by rw [h]; decide)) fun x hx => hI x (List.mem_of_mem_drop hx)
    simp only [h, Int.reduceEq, reduceIte, or_true, if_true]
    exact this.2.1
  · obtain ⟨c1, c2, c3, c4, c5, c6, c7, c8, c9, c18, c11, c12⟩ := h
    simp only [c1, c2, c3, c4, c5, c6, c7, c8, c9, c18, c11, c12, if_false, or_self]
    decide
theorem allS_some : ∀ {l : List (Option Span)} {r : List Span}, allS l = some r → l = r.map some
 | [], r, h => by unfold allS at h; cases h; rfl
 | none :: l, r, h => by unfold allS at h; cases h
 | some s :: l, r, h => by
  unfold allS at h
  cases hl : allS l with
  | none => rw [hl] at h; cases h
  | some q => rw [hl] at h; cases h; rw [allS_some hl]; rfl
theorem allS_map (l : List Span) : allS (l.map some) = some l := by
 induction l with
 | nil => rfl
 | cons s l ih => rw [List.map_cons, allS, ih]
theorem allS_none : ∀ {l : List (Option Span)}, none ∈ l → allS l = none
 | none :: l, h => rfl
 | some s :: l, h => by
  unfold allS
  rw [allS_none (by simpa using h)]
theorem kidsOk_of {vars : List GVar} {inp : Bool} {t : GTerm} {k : List Span} (hf : form0 vars inp t = true) (hl : k.length = t.fKids.length) (hI : ∀ s ∈ k, InS s) : KidsOk vars t k := by
  unfold form0 at hf
  refine ⟨?_, ?_, hI⟩
  · simp_all
  · intro h
    simp_all
theorem rngS_in (vars : List GVar) (hv : VarsOk vars) (inp : Bool) (t : GTerm) (s : Span) (hf : formS vars inp t = true) (h : rngS vars t = some s) : InS s := by
  have key : ∀ (n : Nat) (t : GTerm) (s : Span), SizeOf.sizeOf t < n → formS vars inp t = true → rngS vars t = some s → InS s := by
    intro n
    induction n with
    | zero => intro t s h; omega
    | succ n ih =>
      intro t s hz hf h
      rw [formS_eq, Bool.and_eq_true, List.all_eq_true] at hf
      rw [rngS_eq] at h
      cases ha : allS (t.fKids.map (rngS vars)) with
      | none => rw [ha] at h; cases h
      | some k =>
        rw [ha] at h
        dsimp only at h
        have hm := allS_some ha
        have hl : k.length = t.fKids.length := by have := congrArg List.length hm; simpa using this.symm
        have hI : ∀ s ∈ k, InS s := fun x hx => by
          have : some x ∈ t.fKids.map (rngS vars) := by rw [hm]; exact List.mem_map_of_mem hx
          obtain ⟨c, hc, e⟩ := List.mem_map.1 this
          exact ih c x (by have := GTerm.kids_lt hc; omega) (hf.2 c hc) e
        have ho := rule_ord vars hv t k (kidsOk_of hf.1 hl hI)
        split at h
        · rename_i hlim
          unfold limS at hlim
          unfold InS
          grind
        · cases h
  exact key _ t s (Nat.lt_succ_self _) hf h
def rngX (vars : List GVar) (t : GTerm) : Span × Bool := match allS (t.fKids.map (rngS vars)) with
 | none => (⟨0, 0⟩, false)
 | some l => (ruleS vars t l, limS (ruleS vars t l))
theorem rngX_eq (vars : List GVar) (t : GTerm) : rngS vars t = if (rngX vars t).2 = true then some (rngX vars t).1 else none := by
 rw [rngS_eq, rngX]
 grind
theorem kids_all {vars : List GVar} (hv : VarsOk vars) {inp : Bool} {t : GTerm} {k : List Span} (hf : formS vars inp t = true) (ha : allS (t.fKids.map (rngS vars)) = some k) : KidsOk vars t k := by
 rw [formS_eq, Bool.and_eq_true, List.all_eq_true] at hf
 have hm := allS_some ha
 refine kidsOk_of hf.1 (by have := congrArg List.length hm; simpa using this.symm) fun x hx => ?_
 have : some x ∈ t.fKids.map (rngS vars) := by rw [hm]; exact List.mem_map_of_mem hx
 obtain ⟨c, hc, e⟩ := List.mem_map.1 this
 exact rngS_in vars hv inp c x (hf.2 c hc) e
theorem form_len {vars : List GVar} {inp : Bool} {t : GTerm} (hf : formS vars inp t = true) : t.fKids.length ≤ 33 := by
 rw [formS_eq, Bool.and_eq_true] at hf
 have := hf.1
 unfold form0 at this
 have h33 : (kidsN t.fOp).2 ≤ 33 := by unfold kidsN; grind
 simp only [Bool.and_eq_true, decide_eq_true_eq] at this
 omega
theorem form_kid {vars : List GVar} {inp : Bool} {t k : GTerm} (hf : formS vars inp t = true) (hk : k ∈ t.fKids) : formS vars inp k = true := by
 rw [formS_eq, Bool.and_eq_true, List.all_eq_true] at hf
 simp_all
theorem s229_eq (M : List GVar → GTerm → Option E229) (vars : List GVar) (hv : VarsOk vars) (inp : Bool) (t : GTerm) (hf : formS vars inp t = true) (hM : ∀ k ∈ t.fKids, M vars k = some (rngX vars k)) : s229 M vars t = some (rngX vars t) := by
  have h33 := form_len hf
  obtain ⟨i, b, e1, hI, hc⟩ := loopJ (rnd := n229_0 M) t.fKids.length (fun i (b : List Span) => ⟨vars, b, t.fKids, (t.fKids.length : Int), (i : Int), t, ⟨0, 0⟩⟩) (fun i b => (t.fKids.take i).map (rngS vars) = b.map some) (fun i _ => (rngX vars t.fKids[i]!).2 = false) (fun i b hi hb => by
    have hw := w1L hi (by omega)
    have hk := hM _ (get_memL hi)
    have hlen : b.length = i := by have := congrArg List.length hb; simp at this; omega
    cases hx : (rngX vars t.fKids[i]!).2 with
    | true =>
      refine .inl ⟨b ++ [(rngX vars t.fKids[i]!).1], ?_, ?_⟩
      · have hl2 : (b ++ [(rngX vars t.fKids[i]!).1]).length ≤ 1073741824 := by simp; omega
        unfold n229_0
        simp only [Int.toNat_natCast, GTerm.eta, hk, hx, hl2, hw]
        simp [hi]
      · rw [take_succL hi, List.map_append, hb, List.map_append]
        rw [List.map_cons, List.map_cons, rngX_eq, if_pos hx]
        rfl
    | false =>
      unfold n229_0
      simp only [Int.toNat_natCast, GTerm.eta, hk, hx]
      simp [hi]) (fun b _ => by unfold n229_0; simp) (b := []) rfl
  have e1' : a229_0 M ⟨vars, [], t.fKids, (t.fKids.length : Int), 0, t, ⟨0, 0⟩⟩ = some ⟨vars, b, t.fKids, (t.fKids.length : Int), (i : Int), t, ⟨0, 0⟩⟩ := e1
  unfold s229
  rw [GTerm.eta, e1']
  dsimp only
  rcases hc with rfl | ⟨hi, hx⟩
  · rw [List.take_length] at hI
    have ha : allS (t.fKids.map (rngS vars)) = some b := by rw [hI]; exact allS_map b
    rw [decide_eq_false (by omega), cond_false, GTerm.eta, m279_eq vars t b (kids_all hv hf ha)]
    unfold rngX
    unfold limS
    grind
  · have hk := hM _ (get_memL hi)
    have ha : allS (t.fKids.map (rngS vars)) = none := allS_none (List.mem_map.2 ⟨t.fKids[i]!, get_memL hi, by rw [rngX_eq, hx]; simp⟩)
    rw [decide_eq_true (by omega), cond_true, if_pos ⟨by omega, by omega⟩]
    simp only [Int.toNat_natCast, GTerm.eta, hk, hx, cond_true, cond_false]
    unfold rngX
    rw [ha]
theorem m229_eq (vars : List GVar) (hv : VarsOk vars) (inp : Bool) : ∀ (n : Nat) (t : GTerm), SizeOf.sizeOf t < n → formS vars inp t = true → m229 n vars t = some (rngX vars t)
 | 0, _, h, _ => by omega
 | n + 1, t, h, hf => s229_eq (m229 n) vars hv inp t hf (fun k hk => m229_eq vars hv inp n k (by have := GTerm.kids_lt hk; omega) (form_kid hf hk))
theorem r229_eq (vars : List GVar) (hv : VarsOk vars) (inp : Bool) (t : GTerm) (hf : formS vars inp t = true) : r229 vars t = some (rngX vars t) := lim_eq (SizeOf.sizeOf t + 1) fun n hn => m229_eq vars hv inp n t (by omega) hf
theorem m169_eq (vars : List GVar) (hv : VarsOk vars) (inp : Bool) (t : GTerm) : m169 vars t inp = some (termC vars inp t) := by
 unfold m169 termC
 rw [GTerm.eta, r228_eq]
 cases hf : formS vars inp t with
 | false => rfl
 | true =>
  rw [r229_eq vars hv inp t hf, rngX_eq]
  dsimp only
  cases (rngX vars t).2 <;> rfl
def rule2 (vars : List GVar) (t : GTerm) (k : List Span) : Span := if t.fOp = 0 ∧ (t.fN < -1048576 ∨ 1048576 < t.fN) then ⟨-1048577, 1048577⟩ else ruleS vars t k
theorem rule2_lim (vars : List GVar) (t : GTerm) (k : List Span) : limS (rule2 vars t k) = limS (ruleS vars t k) ∧ (limS (ruleS vars t k) = true → rule2 vars t k = ruleS vars t k) := by
  unfold rule2
  by_cases h : t.fOp = 0 ∧ (t.fN < -1048576 ∨ 1048576 < t.fN)
  · have e : limS (ruleS vars t k) = false := by
      unfold limS ruleS
      rw [if_pos h.1]
      simp
      omega
    rw [if_pos h, e]
    exact ⟨by decide, fun h => by cases h⟩
  · rw [if_neg h]
    simp
theorem m113_eq (a b : Int) : m113 a b = if a < b then a else b := by
 unfold m113
 simp
theorem m112_eq (a b : Int) : m112 a b = if b < a then a else b := by
 unfold m112
 simp
theorem getLow {k : List Span} {i : Nat} (h : i < k.length) : (k.map (·.fLow))[i]! = k[i]!.fLow := by
  rw [getElem!_pos _ i (by simpa using h), getElem!_pos k i h, List.getElem_map]
theorem getHigh {k : List Span} {i : Nat} (h : i < k.length) : (k.map (·.fHigh))[i]! = k[i]!.fHigh := by
  rw [getElem!_pos _ i (by simpa using h), getElem!_pos k i h, List.getElem_map]
theorem a175_0_eq (k : List Span) (hl : k.length ≤ 1000000) (h2 : 2 ≤ k.length) (a : Span) : a175_0 ⟨k.map (·.fLow), k.map (·.fHigh), a.fLow, a.fHigh, 2⟩ = some ⟨k.map (·.fLow), k.map (·.fHigh), ((k.drop 2).foldl hull a).fLow, ((k.drop 2).foldl hull a).fHigh, (k.length : Int)⟩ := by
  have hlen : (k.drop 2).length = k.length - 2 := List.length_drop ..
  have hget : ∀ i, i < k.length - 2 → (k.drop 2)[i]! = k[i + 2]! := fun i hi => by
    grind
  obtain ⟨v, e1, hv⟩ := loopI (rnd := n175_0) (k.length - 2) (fun i (b : Span) => ⟨k.map (·.fLow), k.map (·.fHigh), b.fLow, b.fHigh, ((i + 2 : Nat) : Int)⟩) (fun i b => b = ((k.drop 2).take i).foldl hull a) (fun i b hi hb => by
    have hw := w1L (show i + 2 < k.length by omega) hl
    refine ⟨hull b k[i + 2]!, ?_, ?_⟩
    · unfold n175_0
      simp only [Int.toNat_natCast, m113_eq, m112_eq]
      unfold hull
      congr 3 <;> grind
    · rw [take_succL (by omega), List.foldl_append, hb, hget i hi]; rfl) (fun b _ => by
      unfold n175_0
      simp only [List.length_map, Bool.cond_decide]
      rw [if_neg (by omega)]) (b := a) rfl
  rw [← hlen, List.take_length] at hv
  rw [← hv]
  rw [show k.length - 2 + 2 = k.length by omega] at e1
  exact e1
theorem m175_eq (vars : List GVar) (t : GTerm) (k : List Span) (h : KidsOk vars t k) : m175 vars t (k.map (·.fLow)) (k.map (·.fHigh)) = some ((rule2 vars t k).fLow, (rule2 vars t k).fHigh) := by
  obtain ⟨hk, h24, hI⟩ := h
  have h0 : 1 ≤ (kidsN t.fOp).1 → InS k[0]! := fun h => hI _ (get_memL (by omega))
  have h1 : 2 ≤ (kidsN t.fOp).1 → InS k[1]! := fun h => hI _ (get_memL (by omega))
  have h33 : (kidsN t.fOp).2 ≤ 33 := by unfold kidsN; grind
  have W : ∀ n : Int, -8796093022208 ≤ n → n ≤ 8796093022208 → i64.wrap n = n := fun n a b => wrap_id (by omega) (by omega)
  unfold m175 rule2 ruleS
  have cs : t.fOp = 0 ∨ t.fOp = 24 ∨ t.fOp = 6 ∨ t.fOp = 8 ∨ t.fOp = 9 ∨ t.fOp = 10 ∨ t.fOp = 11 ∨ t.fOp = 12 ∨ t.fOp = 21 ∨ t.fOp = 22 ∨ t.fOp = 23 ∨ t.fOp = 25 ∨ (t.fOp ≠ 0 ∧ t.fOp ≠ 24 ∧ t.fOp ≠ 6 ∧ t.fOp ≠ 8 ∧ t.fOp ≠ 9 ∧ t.fOp ≠ 10 ∧ t.fOp ≠ 11 ∧ t.fOp ≠ 12 ∧ t.fOp ≠ 21 ∧ t.fOp ≠ 22 ∧ t.fOp ≠ 23 ∧ t.fOp ≠ 25) := by omega
  rcases cs with h | h | h | h | h | h | h | h | h | h | h | h | h
  · simp only [Z0]
    grind
  · simp [h, h24 h]
  · have hl : 1 ≤ (kidsN t.fOp).1 := by rw [h]; decide
    obtain ⟨a1, a2, a3⟩ := h0 hl
    have w1 : i64.wrap ((0 : Int) - k[0]!.fHigh) = -k[0]!.fHigh := by rw [W _ (by omega) (by omega)]; omega
    have w2 : i64.wrap ((0 : Int) - k[0]!.fLow) = -k[0]!.fLow := by rw [W _ (by omega) (by omega)]; omega
    have i0 : (0 : Int) < (k.length : Int) := by omega
    simp only [Z0, h, Bool.cond_decide, Int.reduceEq, reduceIte, List.length_map, i0, getLow (show 0 < k.length by omega), getHigh (show 0 < k.length by omega), w1, w2, Int.le_refl, and_self, if_true, false_and, if_false]
  · have hl : 2 ≤ (kidsN t.fOp).1 := by rw [h]; decide
    obtain ⟨a1, a2, a3⟩ := h0 (by omega)
    obtain ⟨b1, b2, b3⟩ := h1 hl
    have w1 := W (k[0]!.fLow + k[1]!.fLow) (by omega) (by omega)
    have w2 := W (k[0]!.fHigh + k[1]!.fHigh) (by omega) (by omega)
    have i0 : (0 : Int) < (k.length : Int) := by omega
    have i1 : (1 : Int) < (k.length : Int) := by omega
    simp only [Z0, h, Bool.cond_decide, Int.reduceEq, Int.reduceLE, reduceIte, List.length_map, getLow (show 0 < k.length by omega), getHigh (show 0 < k.length by omega), getLow (show 1 < k.length by omega), getHigh (show 1 < k.length by omega), i0, i1, w1, w2, Int.le_refl, and_self, if_true, false_and, if_false]
  · have hl : 2 ≤ (kidsN t.fOp).1 := by rw [h]; decide
    obtain ⟨a1, a2, a3⟩ := h0 (by omega)
    obtain ⟨b1, b2, b3⟩ := h1 hl
    have w1 := W (k[0]!.fLow - k[1]!.fHigh) (by omega) (by omega)
    have w2 := W (k[0]!.fHigh - k[1]!.fLow) (by omega) (by omega)
    have i0 : (0 : Int) < (k.length : Int) := by omega
    have i1 : (1 : Int) < (k.length : Int) := by omega
    simp only [Z0, h, Bool.cond_decide, Int.reduceEq, Int.reduceLE, reduceIte, List.length_map, getLow (show 0 < k.length by omega), getHigh (show 0 < k.length by omega), getLow (show 1 < k.length by omega), getHigh (show 1 < k.length by omega), i0, i1, w1, w2, Int.le_refl, and_self, if_true, false_and, if_false]
  · have hl : 2 ≤ (kidsN t.fOp).1 := by rw [h]; decide
    obtain ⟨a1, a2, a3⟩ := h0 (by omega)
    obtain ⟨b1, b2, b3⟩ := h1 hl
    have m1 := mul_bd (a := k[0]!.fLow) (b := k[1]!.fLow) (by omega) (by omega) (by omega) (by omega)
    have m2 := mul_bd (a := k[0]!.fLow) (b := k[1]!.fHigh) (by omega) (by omega) (by omega) (by omega)
    have m3 := mul_bd (a := k[0]!.fHigh) (b := k[1]!.fLow) (by omega) (by omega) (by omega) (by omega)
    have m4 := mul_bd (a := k[0]!.fHigh) (b := k[1]!.fHigh) (by omega) (by omega) (by omega) (by omega)
    have w1 := W _ (show -8796093022208 ≤ k[0]!.fLow * k[1]!.fLow by omega) (by omega)
    have w2 := W _ (show -8796093022208 ≤ k[0]!.fLow * k[1]!.fHigh by omega) (by omega)
    have w3 := W _ (show -8796093022208 ≤ k[0]!.fHigh * k[1]!.fLow by omega) (by omega)
    have w4 := W _ (show -8796093022208 ≤ k[0]!.fHigh * k[1]!.fHigh by omega) (by omega)
    have i0 : (0 : Int) < (k.length : Int) := by omega
    have i1 : (1 : Int) < (k.length : Int) := by omega
    simp only [Z0, h, Bool.cond_decide, Int.reduceEq, Int.reduceLE, reduceIte, List.length_map, getLow (show 0 < k.length by omega), getHigh (show 0 < k.length by omega), getLow (show 1 < k.length by omega), getHigh (show 1 < k.length by omega), i0, i1, w1, w2, w3, w4, Int.le_refl, and_self, if_true, false_and, if_false, m113_eq, m112_eq, hull]
    generalize k[0]!.fLow * k[1]!.fLow = p
    generalize k[0]!.fLow * k[1]!.fHigh = q
    generalize k[0]!.fHigh * k[1]!.fLow = r
    generalize k[0]!.fHigh * k[1]!.fHigh = s
    congr 2 <;> grind
  · have hl : 2 ≤ (kidsN t.fOp).1 := by rw [h]; decide
    obtain ⟨a1, a2, a3⟩ := h0 (by omega)
    obtain ⟨b1, b2, b3⟩ := h1 hl
    have z0 : Int.toNat 0 = 0 := rfl
    have z1 : Int.toNat 1 = 1 := rfl
    have e235 : ∀ x : Int, -1048576 ≤ x → x ≤ 1048576 → m235 x = if x < 0 then -x else x := fun x q1 q2 => by
      unfold m235
      rw [W _ (by omega) (by omega)]
      simp only [Bool.cond_decide]
      grind
    have e112 : m112 (m235 k[0]!.fLow) (m235 k[0]!.fHigh) = if k[0]!.fHigh < -k[0]!.fLow then -k[0]!.fLow else k[0]!.fHigh := by
      rw [e235 _ (by omega) (by omega), e235 _ (by omega) (by omega), m112_eq]
      grind
    have w2 : i64.wrap ((0 : Int) - if k[0]!.fHigh < -k[0]!.fLow then -k[0]!.fLow else k[0]!.fHigh) = -(if k[0]!.fHigh < -k[0]!.fLow then -k[0]!.fLow else k[0]!.fHigh) := by split <;> (rw [W _ (by omega) (by omega)]; omega)
    have i0 : (0 : Int) < (k.length : Int) := by omega
    have i1 : (1 : Int) < (k.length : Int) := by omega
    simp only [Z0, h, Bool.cond_decide, Int.reduceEq, Int.reduceLE, reduceIte, List.length_map, z0, z1, getLow (show 0 < k.length by omega), getHigh (show 0 < k.length by omega), getLow (show 1 < k.length by omega), getHigh (show 1 < k.length by omega), i0, i1, e112, w2, Int.le_refl, and_self, if_true, false_and, if_false]
    by_cases c1 : (0 : Int) ≤ k[0]!.fLow <;> by_cases c2 : (0 : Int) ≤ k[1]!.fLow <;> simp only [c1, c2, if_true, if_false, decide_true, decide_false, cond_true, cond_false, and_self, and_true, and_false]
  · have hl : 2 ≤ (kidsN t.fOp).1 := by rw [h]; decide
    obtain ⟨b1, b2, b3⟩ := h1 hl
    have w1 := W (k[1]!.fLow + 1) (by omega) (by omega)
    have w2 := W (k[1]!.fHigh - 1) (by omega) (by omega)
    have i1 : (1 : Int) < (k.length : Int) := by omega
    simp only [Z0, h, Bool.cond_decide, Int.reduceEq, Int.reduceLE, reduceIte, List.length_map, getLow (show 1 < k.length by omega), getHigh (show 1 < k.length by omega), i1, Int.le_refl, and_self, if_true, false_and, if_false, m236, w1, w2, m113_eq, m112_eq]
    congr 1
    by_cases c1 : k[1]!.fLow < 0 <;> by_cases c2 : (0 : Int) < k[1]!.fHigh <;> simp only [c1, c2, if_true, if_false, Prod.mk.injEq, and_true, true_and] <;> grind
  · have hl : 2 ≤ (kidsN t.fOp).1 := by rw [h]; decide
    have i0 : (0 : Int) < (k.length : Int) := by omega
    have i1 : (1 : Int) < (k.length : Int) := by omega
    simp only [Z0, h, Bool.cond_decide, Int.reduceEq, Int.reduceLE, reduceIte, List.length_map, getLow (show 0 < k.length by omega), getHigh (show 0 < k.length by omega), getLow (show 1 < k.length by omega), getHigh (show 1 < k.length by omega), i0, i1, Int.le_refl, and_self, if_true, false_and, if_false, m113_eq, m112_eq]
    congr 2 <;> grind
  · have hl : 2 ≤ (kidsN t.fOp).1 := by rw [h]; decide
    have i0 : (0 : Int) < (k.length : Int) := by omega
    have i1 : (1 : Int) < (k.length : Int) := by omega
    simp only [Z0, h, Bool.cond_decide, Int.reduceEq, Int.reduceLE, reduceIte, List.length_map, getLow (show 0 < k.length by omega), getHigh (show 0 < k.length by omega), getLow (show 1 < k.length by omega), getHigh (show 1 < k.length by omega), i0, i1, Int.le_refl, and_self, if_true, false_and, if_false, m113_eq, m112_eq]
    congr 2 <;> grind
  · have hl : 2 ≤ (kidsN t.fOp).1 := by rw [h]; decide
    have i1 : (1 : Int) < (k.length : Int) := by omega
    have e := a175_0_eq k (by omega) (by omega) k[1]!
    simp only [Z0, h, Bool.cond_decide, Int.reduceEq, Int.reduceLE, reduceIte, List.length_map, getLow (show 1 < k.length by omega), getHigh (show 1 < k.length by omega), e, i1, Int.le_refl, and_self, if_true, Int.lt_irrefl, if_false, true_or, false_and]
  · have hl : 2 ≤ (kidsN t.fOp).1 := by rw [h]; decide
    have i1 : (1 : Int) < (k.length : Int) := by omega
    have e := a175_0_eq k (by omega) (by omega) k[1]!
    simp only [Z0, h, Bool.cond_decide, Int.reduceEq, Int.reduceLE, reduceIte, List.length_map, getLow (show 1 < k.length by omega), getHigh (show 1 < k.length by omega), e, i1, Int.le_refl, and_self, if_true, Int.lt_irrefl, if_false, or_true, false_and]
  · obtain ⟨c1, c2, c3, c4, c5, c6, c7, c8, c9, c18, c11, c12⟩ := h
    simp only [c1, c2, c3, c4, c5, c6, c7, c8, c9, c18, c11, c12, Bool.cond_decide, if_false, or_self, false_and]
def rngY (vars : List GVar) (t : GTerm) : Int × Int × Bool := match allS (t.fKids.map (rngS vars)) with
 | none => (0, 0, false)
 | some l => ((rule2 vars t l).fLow, (rule2 vars t l).fHigh, limS (rule2 vars t l))
theorem rngY_eq (vars : List GVar) (t : GTerm) : rngS vars t = if (rngY vars t).2.2 = true then some ⟨(rngY vars t).1, (rngY vars t).2.1⟩ else none := by
 rw [rngS_eq, rngY]
 cases h : allS (t.fKids.map (rngS vars)) with
 | none => rfl
 | some l =>
  obtain ⟨h1, h2⟩ := rule2_lim vars t l
  simp_all
theorem s110_eq (M : List GVar → GTerm → Option E110) (vars : List GVar) (hv : VarsOk vars) (inp : Bool) (t : GTerm) (hf : formS vars inp t = true) (hM : ∀ k ∈ t.fKids, M vars k = some (rngY vars k)) : s110 M vars t = some (rngY vars t) := by
  have h33 := form_len hf
  obtain ⟨i, b, e1, hI, hc⟩ := loopJ (rnd := n110_0 M) t.fKids.length (fun i (b : List Span) => ⟨vars, b.map (·.fLow), b.map (·.fHigh), (i : Int), t⟩) (fun i b => (t.fKids.take i).map (rngS vars) = b.map some) (fun i _ => (rngY vars t.fKids[i]!).2.2 = false) (fun i b hi hb => by
    have hw := w1L hi (by omega)
    have hk := hM _ (get_memL hi)
    have hlen : b.length = i := by have := congrArg List.length hb; simp at this; omega
    cases hx : (rngY vars t.fKids[i]!).2.2 with
    | true =>
      refine .inl ⟨b ++ [⟨(rngY vars t.fKids[i]!).1, (rngY vars t.fKids[i]!).2.1⟩], ?_, ?_⟩
      · have hl2 : (b.map (·.fLow) ++ [(rngY vars t.fKids[i]!).1]).length ≤ 1073741824 := by simp; omega
        have hl3 : (b.map (·.fHigh) ++ [(rngY vars t.fKids[i]!).2.1]).length ≤ 1073741824 := by simp; omega
        unfold n110_0
        simp only [Int.toNat_natCast, GTerm.eta, hk, hx, hl2, hl3, hw]
        simp [hi]
      · rw [take_succL hi, List.map_append, hb, List.map_append]
        rw [List.map_cons, List.map_cons, rngY_eq, if_pos hx]
        rfl
    | false =>
      unfold n110_0
      simp only [Int.toNat_natCast, GTerm.eta, hk, hx]
      simp [hi]) (fun b _ => by unfold n110_0; simp) (b := []) rfl
  have e1' : a110_0 M ⟨vars, [], [], 0, t⟩ = some ⟨vars, b.map (·.fLow), b.map (·.fHigh), (i : Int), t⟩ := e1
  unfold s110
  rw [GTerm.eta, e1']
  dsimp only
  rcases hc with rfl | ⟨hi, hx⟩
  · rw [List.take_length] at hI
    have ha : allS (t.fKids.map (rngS vars)) = some b := by rw [hI]; exact allS_map b
    rw [decide_eq_false (by omega), cond_false, GTerm.eta, m175_eq vars t b (kids_all hv hf ha)]
    unfold rngY
    unfold limS
    grind
  · have hk := hM _ (get_memL hi)
    have ha : allS (t.fKids.map (rngS vars)) = none := allS_none (List.mem_map.2 ⟨t.fKids[i]!, get_memL hi, by rw [rngY_eq, hx]; simp⟩)
    rw [decide_eq_true (by omega), cond_true, if_pos ⟨by omega, by omega⟩]
    simp only [Int.toNat_natCast, GTerm.eta, hk, hx, cond_true, cond_false]
    unfold rngY
    rw [ha]
theorem m110_eq (vars : List GVar) (hv : VarsOk vars) (inp : Bool) : ∀ (n : Nat) (t : GTerm), SizeOf.sizeOf t < n → formS vars inp t = true → m110 n vars t = some (rngY vars t)
 | 0, _, h, _ => by omega
 | n + 1, t, h, hf => s110_eq (m110 n) vars hv inp t hf (fun k hk => m110_eq vars hv inp n k (by have := GTerm.kids_lt hk; omega) (form_kid hf hk))
theorem r110_eq (vars : List GVar) (hv : VarsOk vars) (inp : Bool) (t : GTerm) (hf : formS vars inp t = true) : r110 vars t = some (rngY vars t) := lim_eq (SizeOf.sizeOf t + 1) fun n hn => m110_eq vars hv inp n t (by omega) hf
theorem m54_eq (vars : List GVar) (hv : VarsOk vars) (inp : Bool) (t : GTerm) : m54 vars t inp = some (termC vars inp t) := by
 unfold m54 termC
 rw [GTerm.eta, r109_eq]
 cases hf : formS vars inp t with
 | false => rfl
 | true =>
  rw [r110_eq vars hv inp t hf, rngY_eq]
  dsimp only
  cases (rngY vars t).2.2 <;> rfl
theorem Hatch.eta (h : Hatch) : Hatch.mk h.fName h.fLow h.fHigh h.fTerm = h := by cases h; rfl
theorem m168_eq (l : List Hatch) (hl : l.length ≤ 1000000) (v : Hatch) : m168 l v = some (l.any fun w => w.fName.toList == v.fName.toList) := by
  obtain ⟨i, e1, hc⟩ := loopB (rnd := n227_0) l (fun i => ⟨l, v.fName, v.fLow, v.fHigh, v.fTerm.fOp, v.fTerm.fN, v.fTerm.fKids, (l.length : Int), (i : Int)⟩) (fun _ w => !(w.fName.toList == v.fName.toList)) (fun i hi => by
    have hw := w1L hi hl
    unfold n227_0 m167
    grind) (by unfold n227_0; simp)
  have e1' : a227_0 ⟨l, v.fName, v.fLow, v.fHigh, v.fTerm.fOp, v.fTerm.fN, v.fTerm.fKids, (l.length : Int), 0⟩ = some ⟨l, v.fName, v.fLow, v.fHigh, v.fTerm.fOp, v.fTerm.fN, v.fTerm.fKids, (l.length : Int), (i : Int)⟩ := e1
  unfold m168 m227
  rw [e1']
  rcases hc with ⟨rfl, hc⟩ | ⟨hi, hc⟩
  · rw [not_any fun j hj => by have := hc j hj; simpa using this]
    simp
  · have hc' : (l[i]!.fName.toList == v.fName.toList) = true := by simpa using hc
    rw [is_any hi hc']
    unfold m167
    simp only [Int.toNat_natCast, hc']
    simp [hi]
theorem a15_1_eq (f : Flat) (hl : f.fHatches.length ≤ 1000000) (n : Nat) (hn : n ≤ f.fHatches.length) (v : Hatch) :
    ∃ i : Nat, a15_1 ⟨n, 0, f, v⟩ = some ⟨n, (i : Int), f, v⟩ ∧ ((i = n ∧ ((f.fHatches.take n).any fun w => w.fName.toList == v.fName.toList) = false) ∨ (i < n ∧ (f.fHatches[i]!.fName.toList == v.fName.toList) = true ∧ ((f.fHatches.take n).any fun w => w.fName.toList == v.fName.toList) = true)) := by
  have hlen : (f.fHatches.take n).length = n := by rw [List.length_take]; omega
  have hget : ∀ i, i < n → (f.fHatches.take n)[i]! = f.fHatches[i]! := fun i hi => by
    rw [getElem!_pos _ i (by omega), getElem!_pos _ i (by omega), List.getElem_take]
  obtain ⟨i, e1, hc⟩ := loopB (rnd := n15_1) (f.fHatches.take n) (fun i => ⟨(n : Int), (i : Int), f, v⟩) (fun _ w => !(w.fName.toList == v.fName.toList)) (fun i hi => by
    have hw := w1L hi (by omega)
    unfold n15_1
    simp only [GTerm.eta, Hatch.eta]
    grind) (by rw [hlen]; unfold n15_1; simp)
  refine ⟨i, e1, ?_⟩
  rw [hlen] at hc
  rcases hc with ⟨rfl, hc⟩ | ⟨hi, hc⟩
  · exact .inl ⟨rfl, not_any fun j hj => by have := hc j (by omega); simpa using this⟩
  · have hc' : ((f.fHatches.take n)[i]!.fName.toList == v.fName.toList) = true := by simpa using hc
    exact .inr ⟨hi, by rw [← hget i hi]; exact hc', is_any (by omega) hc'⟩
theorem m233_eq (t : GTerm) : m233 t = zeroT t := by
 unfold m233 zeroT
 simp
theorem m176_eq (t : GTerm) : m176 t = zeroT t := by
 unfold m176 zeroT
 simp
theorem riseB_get : ∀ (l : List Int), riseB l = true ↔ ∀ i, i + 1 < l.length → l[i]! < l[i + 1]!
  | [] => by simp [riseB]
  | [a] => by simp [riseB]
  | a :: b :: l => by
    unfold riseB
    rw [Bool.and_eq_true, riseB_get (b :: l), decide_eq_true_iff]
    constructor
    · rintro ⟨h1, h2⟩ i hi
      cases i with
      | zero => exact h1
      | succ i => exact h2 i (by simpa using hi)
    · intro h
      exact ⟨h 0 (by simp), fun i hi => h (i + 1) (by simpa using hi)⟩
theorem m234_eq (l : List Int) (hl : l.length ≤ 1000000) : m234 l = some (riseB l) := by
  obtain ⟨i, e1, hc⟩ := loopB (rnd := n234_0) l (fun i => ⟨l, (l.length : Int), (i : Int)⟩) (fun i x => decide (i = 0) || decide (l[i - 1]! < x)) (fun i hi => by
    have hw := w1L hi hl
    have hw2 : i64.wrap ((i : Int) - 1) = (i : Int) - 1 := wrap_id (by omega) (by omega)
    have hw3 : ((i : Int) - 1).toNat = i - 1 := by omega
    unfold n234_0
    grind) (by unfold n234_0; simp)
  have e1' : a234_0 ⟨l, (l.length : Int), 0⟩ = some ⟨l, (l.length : Int), (i : Int)⟩ := e1
  unfold m234
  rw [e1']
  rcases hc with ⟨rfl, hc⟩ | ⟨hi, hc⟩
  · have : riseB l = true := (riseB_get l).2 fun i hi => by
      have := hc (i + 1) hi
      simpa using this
    rw [this]
    simp
  · have hc' : i ≠ 0 ∧ ¬ l[i - 1]! < l[i]! := by
      simp only [Bool.or_eq_false_iff, decide_eq_false_iff_not] at hc
      exact hc
    have : riseB l = false := by
      cases hr : riseB l with
      | false => rfl
      | true =>
        have := (riseB_get l).1 hr (i - 1) (by omega)
        rw [show i - 1 + 1 = i by omega] at this
        omega
    have hw2 : i64.wrap ((i : Int) - 1) = (i : Int) - 1 := wrap_id (by omega) (by omega)
    have hw3 : ((i : Int) - 1).toNat = i - 1 := by omega
    grind
theorem m177_eq (l : List Int) (hl : l.length ≤ 1000000) : m177 l = some (decide (1 ≤ l.length ∧ l.length ≤ 32) && decide ((0 : Int) ≤ l[0]!) && riseB l) := by
  unfold m177
  by_cases h1 : 1 ≤ l.length ∧ l.length ≤ 32
  case neg =>
    rw [decide_eq_false h1]
    try simp only
    grind
  rw [decide_eq_true h1, decide_eq_false (show ¬ (l.length : Int) < 1 by omega), decide_eq_false (show ¬ 32 < (l.length : Int) by omega), if_pos (⟨Int.le_refl _, by omega⟩ : (0 : Int) ≤ 0 ∧ (0 : Int) < (l.length : Int))]
  have hz : l[Int.toNat 0]! = l[0]! := rfl
  rw [hz]
  by_cases h0 : (0 : Int) ≤ l[0]!
  case neg =>
    rw [decide_eq_false h0, decide_eq_true (show l[0]! < 0 by omega)]
    rfl
  rw [decide_eq_true h0, decide_eq_false (show ¬ l[0]! < 0 by omega)]
  dsimp only [cond_false]
  have hlen : (l.drop 1).length = l.length - 1 := List.length_drop ..
  have hget : ∀ i, i < l.length - 1 → (l.drop 1)[i]! = l[i + 1]! := fun i hi => by
    simp
  obtain ⟨i, e1, hc⟩ := loopB (rnd := n177_0) (l.drop 1) (fun i => ⟨l, ((i + 1 : Nat) : Int)⟩) (fun i x => decide (l[i]! < x)) (fun i hi => by
    have hw := w1L (show i + 1 < l.length by omega) hl
    have hw2 : i64.wrap (((i + 1 : Nat) : Int) - 1) = (i : Int) := by rw [wrap_id (by omega) (by omega)]; omega
    unfold n177_0
    grind) (by
      unfold n177_0
      simp only [Bool.cond_decide]
      rw [if_neg (by omega)])
  have e1' : a177_0 ⟨l, 1⟩ = some ⟨l, ((i + 1 : Nat) : Int)⟩ := e1
  rw [e1']
  dsimp only
  rw [hlen] at hc
  rcases hc with ⟨rfl, hc⟩ | ⟨hi, hc⟩
  · have : riseB l = true := (riseB_get l).2 fun i hi => by
      have := hc i (by omega)
      simpa using this
    rw [this, decide_eq_false (show ¬ (((l.length - 1 + 1 : Nat) : Int) < (l.length : Int)) by omega)]
    rfl
  · rw [hget i hi] at hc
    have hc' : ¬ l[i]! < l[i + 1]! := by simpa using hc
    have : riseB l = false := by
      cases hr : riseB l with
      | false => rfl
      | true => exact absurd ((riseB_get l).1 hr i (by omega)) hc'
    have hw2 : i64.wrap (((i + 1 : Nat) : Int) - 1) = (i : Int) := by rw [wrap_id (by omega) (by omega)]; omega
    grind
theorem m170_eq (f : Flat) (s : GStep) (last : Bool) : m170 f s last = some (shapeB f s last) := by
 have h199 : s.fBounds.length ≤ 32 → m234 s.fBounds = some (riseB s.fBounds) := fun h => m234_eq _ (by omega)
 have hz : s.fBounds[Int.toNat 0]! = s.fBounds[0]! := rfl
 unfold m170 m230 m231 m232
 rw [GTerm.eta, m233_eq, hz]
 obtain ⟨X, hX⟩ : ∃ X, X = shapeB f s last := ⟨_, rfl⟩
 have hX1 : X = true ↔ shapeB f s last = true := by rw [hX]
 unfold shapeB localB at hX1
 generalize zeroT s.fTerm = Z at *
 have cs : s.fDo = 0 ∨ s.fDo = 1 ∨ s.fDo = 2 ∨ s.fDo = 3 ∨ s.fDo = 4 ∨ s.fDo = 5 ∨ s.fDo = 6 ∨ s.fDo < 0 ∨ 6 < s.fDo := by omega
 rcases cs with h | h | h | h | h | h | h | h | h
 case inr.inr.inr.inr.inr.inr.inr.inl => rw [decide_eq_true h]; dsimp only [cond_true]; cases X <;> grind
 case inr.inr.inr.inr.inr.inr.inr.inr => rw [decide_eq_true h, decide_eq_false (by omega)]; dsimp only [cond_true, cond_false]; cases X <;> grind
 all_goals
  rw [h] at hX1 ⊢
  cases X <;> cases Z <;> simp only [Int.reduceEq, Int.reduceLT, decide_true, decide_false, cond_true, cond_false, if_true, if_false, Bool.cond_decide, reduceIte, Bool.and_eq_true] at hX1 ⊢ <;> grind (splits := 40)
theorem bif_some (a b : Bool) : (bif a then some b else some false) = some (a && b) := by cases a <;> rfl
theorem m111_eq (f : Flat) (s : GStep) (last : Bool) (hb : s.fBounds.length ≤ 1000000) : m111 f s last = some (shapeB f s last) := by
 have h173 := m177_eq s.fBounds hb
 have e1 : (bif decide ((s.fThen.length : Int) = 0) then some (decide ((s.fElse.length : Int) = 0)) else some false) = some (decide (s.fThen.length = 0 ∧ s.fElse.length = 0)) := by
  by_cases a1 : s.fThen.length = 0 <;> by_cases a2 : s.fElse.length = 0 <;> simp [a1]
 have e2 : (bif decide (0 ≤ s.fVar) then bif decide (s.fVar < (f.fVars.length : Int)) then if (0 : Int) ≤ s.fVar ∧ s.fVar < (f.fVars.length : Int) then some (decide (f.fVars[s.fVar.toNat]!.fKind = 0)) else none else some false else some false) = some (localB f s) := by
  unfold localB
  by_cases a1 : 0 ≤ s.fVar <;> by_cases a2 : s.fVar < (f.fVars.length : Int) <;> simp [a1, a2]
 unfold m111
 rw [GTerm.eta, m176_eq, h173, e1, e2]
 unfold shapeB
 generalize decide (s.fThen.length = 0 ∧ s.fElse.length = 0) = F
 have hi : ((s.fBounds.length : Int) = 0) ↔ s.fBounds.length = 0 := by omega
 have hi2 : ((s.fElse.length : Int) = 0) ↔ s.fElse.length = 0 := by omega
 simp only [hi, hi2]
 have cs : s.fDo = 0 ∨ s.fDo = 1 ∨ s.fDo = 2 ∨ s.fDo = 3 ∨ s.fDo = 4 ∨ s.fDo = 5 ∨ s.fDo = 6 ∨ (s.fDo ≠ 0 ∧ s.fDo ≠ 1 ∧ s.fDo ≠ 2 ∧ s.fDo ≠ 3 ∧ s.fDo ≠ 4 ∧ s.fDo ≠ 5 ∧ s.fDo ≠ 6) := by omega
 rcases cs with h | h | h | h | h | h | h | ⟨h0, h1, h2, h3, h4, h5, h6⟩
 case inr.inr.inr.inr.inr.inr.inr => simp only [h0, h1, h2, h3, h4, h5, h6, decide_false, cond_false, if_false]
 all_goals
  rw [h]
  simp only [Int.reduceEq, decide_false, cond_false]
  try rw [Bool.decide_and]
  simp only [bif_some]
  first | done | (congr 1; ac_rfl)
theorem m171_eq (s : GStep) (hb : s.fDo = 6 → 1 ≤ s.fBounds.length ∧ s.fBounds.length ≤ 32) : m171 s = some (numB s) := by
  unfold m171 numB
  by_cases h6 : s.fDo = 6
  · obtain ⟨b1, b2⟩ := hb h6
    have hw : i64.wrap ((s.fBounds.length : Int) - 1) = (s.fBounds.length : Int) - 1 := wrap_id (by omega) (by omega)
    have hw2 : ((s.fBounds.length : Int) - 1).toNat = s.fBounds.length - 1 := by omega
    grind (splits := 30)
  · rw [decide_eq_false h6, if_neg h6]
    by_cases h2 : s.fDo = 2
    · rw [h2]
      grind (splits := 30)
    · rw [decide_eq_false h2, if_neg h2]
      grind (splits := 30)
theorem shape_bounds {f : Flat} {s : GStep} {last : Bool} (h : shapeB f s last = true) : (s.fDo = 6 → 1 ≤ s.fBounds.length ∧ s.fBounds.length ≤ 32) ∧ (s.fDo ≠ 6 → s.fBounds.length = 0) ∧ (s.fDo ≠ 3 → s.fDo ≠ 4 → s.fThen = []) ∧ (s.fDo ≠ 3 → s.fElse = []) ∧ (s.fDo ≠ 4 → 0 ≤ s.fN) := by
 unfold shapeB at h
 have e1 : s.fThen.length = 0 → s.fThen = [] := List.length_eq_zero_iff.1
 have e2 : s.fElse.length = 0 → s.fElse = [] := List.length_eq_zero_iff.1
 refine ⟨fun h6 => ?_, fun h6 => ?_, fun h3 h4 => e1 ?_, fun h3 => e2 ?_, fun h4 => ?_⟩ <;> grind (splits := 40)
theorem a100_1_eq (M : Flat → List GStep → Bool → Option E100) (f : Flat) (l A B : List GStep) (top : Bool) (n i a b : Int) (ha : M f A false = some a) (hb : M f B false = some b) :
    a100_1 M ⟨l, top, l, n, i, [A, B], 2, 0, f⟩ = some ⟨l, top, l, n, i, [A, B], 2, if a ≠ 0 then 0 else if b ≠ 0 then 1 else 2, f⟩ := by
  have w0 : i64.wrap 1 = 1 := rfl
  have w1 : i64.wrap 2 = 2 := rfl
  have r1 : n100_1 M ⟨l, top, l, n, i, [A, B], 2, 0, f⟩ = if a ≠ 0 then some none else some (some ⟨l, top, l, n, i, [A, B], 2, 1, f⟩) := by
    unfold n100_1
    by_cases h : a = 0 <;> simp [ha, w0]
  have r2 : n100_1 M ⟨l, top, l, n, i, [A, B], 2, 1, f⟩ = if b ≠ 0 then some none else some (some ⟨l, top, l, n, i, [A, B], 2, 2, f⟩) := by
    unfold n100_1
    by_cases h : b = 0 <;> simp [hb, w1]
  have r3 : n100_1 M ⟨l, top, l, n, i, [A, B], 2, 2, f⟩ = some none := by
    rfl
  unfold a100_1
  by_cases h1 : a ≠ 0
  · rw [if_pos h1] at r1 ⊢
    exact advG_stop fun r => by rw [r1]; simp
  · rw [if_neg h1] at r1 ⊢
    rw [advG_step r1]
    by_cases h2 : b ≠ 0
    · rw [if_pos h2] at r2 ⊢
      exact advG_stop fun r => by rw [r2]; simp
    · rw [if_neg h2] at r2 ⊢
      rw [advG_step r2]
      exact advG_stop fun r => by rw [r3]; simp
theorem lastB (n i : Nat) (hn : n ≤ 1000000) : decide ((i : Int) = i64.wrap ((n : Int) - 1)) = decide (i + 1 = n) := by
 rw [wrap_id (by omega) (by omega)]
 apply decide_eq_decide.2
 omega
theorem round113 (M : Flat → List GStep → Bool → Option E100) (f : Flat) (hv : VarsOk f.fVars) (l : List GStep) (hl : l.length ≤ 1000000) (top : Bool) (hM : ∀ s ∈ l, M f s.fThen false = some (stepC f false s.fThen) ∧ M f s.fElse false = some (stepC f false s.fElse)) (i : Nat) (hi : i < l.length) :
    (stC f top l.length i l[i]! = 0 → n100_0 M ⟨l, top, l, (l.length : Int), (i : Int), f⟩ = some (some ⟨l, top, l, (l.length : Int), ((i + 1 : Nat) : Int), f⟩)) ∧ (stC f top l.length i l[i]! ≠ 0 → n100_0 M ⟨l, top, l, (l.length : Int), (i : Int), f⟩ = some none) := by
  have hw := w1L hi hl
  obtain ⟨k1, k2⟩ := hM _ (get_memL hi)
  have hin := a100_1_eq M f l l[i]!.fThen l[i]!.fElse top (l.length : Int) (i : Int) _ _ k1 k2
  have hlen : (([l[i]!.fThen, l[i]!.fElse] : List (List GStep)).length : Int) = 2 := rfl
  have hi1 : (i : Int) < (l.length : Int) := by omega
  have hi0 : (0 : Int) ≤ (i : Int) := by omega
  unfold n100_0 stC ownC
  simp only [Int.toNat_natCast, GTerm.eta, GStep.eta, m170_eq, lastB l.length i hl, m169_eq f.fVars hv, hlen, hin, hi1]
  have e1' : (bif top then some (bif shapeB f l[i]! (decide (i + 1 = l.length)) then false else true) else some (bif shapeB f l[i]! false then false else true)) = some (bif shapeB f l[i]! (top && decide (i + 1 = l.length)) then false else true) := by cases top <;> rfl
  rw [e1']
  have hS : shapeB f l[i]! (top && decide (i + 1 = l.length)) = true → m171 l[i]! = some (numB l[i]!) := fun h => m171_eq _ (shape_bounds h).1
  revert hS
  generalize shapeB f l[i]! (top && decide (i + 1 = l.length)) = S
  intro hS
  generalize l[i]!.fThen = A at k1 hin ⊢
  generalize l[i]!.fElse = B at k2 hin ⊢
  cases S with
  | false => simp
  | true =>
    rw [hS rfl]
    generalize numB l[i]! = N
    cases N with
    | false => simp
    | true =>
      generalize termC f.fVars false l[i]!.fTerm = T
      generalize stepC f false A = a at *
      generalize stepC f false B = b at *
      by_cases hT : T = 0
      · by_cases ha : a = 0
        · by_cases hb : b = 0
          · simp [hT, ha, hb, hw]
          · simp [hT, ha, hb, k2]
        · simp [hT, ha, k1]
      · simp [hT]
theorem s100_eq (M : Flat → List GStep → Bool → Option E100) (f : Flat) (hv : VarsOk f.fVars) (l : List GStep) (hl : l.length ≤ 1000000) (top : Bool) (hM : ∀ s ∈ l, M f s.fThen false = some (stepC f false s.fThen) ∧ M f s.fElse false = some (stepC f false s.fElse)) : s100 M f l top = some (stepC f top l) := by
  obtain ⟨i, e1, hc⟩ := loopC (rnd := n100_0 M) l (fun i => ⟨l, top, l, (l.length : Int), (i : Int), f⟩) (stC f top l.length) (fun i hi => round113 M f hv l hl top hM i hi) (by unfold n100_0; simp)
  have e1' : a100_0 M ⟨l, top, l, (l.length : Int), 0, f⟩ = some ⟨l, top, l, (l.length : Int), (i : Int), f⟩ := e1
  rw [stepC_first f top l.length l 0 (by omega)] at hc
  unfold s100
  rw [e1']
  rcases hc with ⟨rfl, hc⟩ | ⟨hi, h0, hc⟩
  · rw [hc]
    simp
  · rw [hc]
    obtain ⟨k1, k2⟩ := hM _ (get_memL hi)
    have hin := a100_1_eq M f l l[i]!.fThen l[i]!.fElse top (l.length : Int) (i : Int) _ _ k1 k2
    have hlen : (([l[i]!.fThen, l[i]!.fElse] : List (List GStep)).length : Int) = 2 := rfl
    have hi1 : (i : Int) < (l.length : Int) := by omega
    have hi0 : (0 : Int) ≤ (i : Int) := by omega
    revert h0
    unfold stC ownC
    simp only [Int.toNat_natCast, GTerm.eta, GStep.eta, m170_eq, lastB l.length i hl, m169_eq f.fVars hv, hlen, hin, hi1]
    have e1' : (bif top then some (bif shapeB f l[i]! (decide (i + 1 = l.length)) then false else true) else some (bif shapeB f l[i]! false then false else true)) = some (bif shapeB f l[i]! (top && decide (i + 1 = l.length)) then false else true) := by cases top <;> rfl
    rw [e1']
    have hS : shapeB f l[i]! (top && decide (i + 1 = l.length)) = true → m171 l[i]! = some (numB l[i]!) := fun h => m171_eq _ (shape_bounds h).1
    revert hS
    generalize shapeB f l[i]! (top && decide (i + 1 = l.length)) = S
    intro hS
    generalize l[i]!.fThen = A at k1 hin ⊢
    generalize l[i]!.fElse = B at k2 hin ⊢
    cases S with
    | false => simp
    | true =>
      rw [hS rfl]
      generalize numB l[i]! = N
      cases N with
      | false => simp
      | true =>
        generalize termC f.fVars false l[i]!.fTerm = T
        generalize stepC f false A = a at *
        generalize stepC f false B = b at *
        by_cases hT : T = 0
        · by_cases ha : a = 0
          · by_cases hb : b = 0
            · simp [hT, ha, hb]
            · simp [hT, ha, hb, k2]
          · simp [hT, ha, k1]
        · simp [hT]
theorem m100_eq (f : Flat) (hv : VarsOk f.fVars) : ∀ (n : Nat) (l : List GStep) (top : Bool), SizeOf.sizeOf l < n → nSs l ≤ 1000 → m100 n f l top = some (stepC f top l)
 | 0, _, _, h, _ => by omega
 | n + 1, l, top, h, h2 => s100_eq (m100 n) f hv l (by have := nSs_len l; omega) top (fun s hs => ⟨m100_eq f hv n _ _ (by have := sizeOf_then hs; omega) (by have := then_le hs; omega), m100_eq f hv n _ _ (by have := sizeOf_then hs; omega) (by have := then_le hs; omega)⟩)
theorem r100_eq (f : Flat) (hv : VarsOk f.fVars) (l : List GStep) (top : Bool) (h : nSs l ≤ 1000) : r100 f l top = some (stepC f top l) := lim_eq (SizeOf.sizeOf l + 1) fun n hn => m100_eq f hv n l top (by omega) h
theorem num_ref {f : Flat} {s : GStep} {last : Bool} (h : shapeB f s last = true) (c : Int) (hc : c = if s.fDo = 2 then 67108864 else 10000) :
    ((bif decide (s.fCost < 0) then some true else bif decide (c < s.fCost) then some true else bif decide (s.fN < 0) then some true else bif decide (s.fDo = 4) then some (decide (4096 < s.fN)) else some false) : Option Bool) = some (!(decide (0 ≤ s.fCost ∧ s.fCost ≤ c) && (if s.fDo = 4 then decide (0 ≤ s.fN ∧ s.fN ≤ 4096) else true))) := by
  obtain ⟨b1, b2, b3, b4, b5⟩ := shape_bounds h
  by_cases h1 : s.fCost < 0
  · simp [h1]
  by_cases h2 : c < s.fCost
  · simp [h2]
  by_cases h3 : s.fN < 0
  · have h4 : s.fDo = 4 := by
      omega
    simp [h3, h4]
  by_cases h4 : s.fDo = 4
  · simp [h1, h2, h3]
    by_cases h5 : 4096 < s.fN
    · grind
    · simp_all
  · simp [h1, h2, h3, h4, show 0 ≤ s.fCost by omega, show s.fCost ≤ c by omega]
theorem bnd_ref {f : Flat} {s : GStep} {last : Bool} (h : shapeB f s last = true) :
    ((bif decide (0 < (s.fBounds.length : Int)) then if (0 : Int) ≤ i64.wrap ((s.fBounds.length : Int) - (1 : Int)) ∧ i64.wrap ((s.fBounds.length : Int) - (1 : Int)) < (s.fBounds.length : Int) then some (decide (67108864 < s.fBounds[(i64.wrap ((s.fBounds.length : Int) - 1)).toNat]!)) else none else some false) : Option Bool) = some (!(if s.fDo = 6 then decide (s.fBounds[s.fBounds.length - 1]! ≤ 67108864) else true)) := by
  obtain ⟨b1, b2, b3, b4, b5⟩ := shape_bounds h
  by_cases h6 : s.fDo = 6
  · obtain ⟨b1, b2⟩ := b1 h6
    have hw : i64.wrap ((s.fBounds.length : Int) - 1) = (s.fBounds.length : Int) - 1 := wrap_id (by omega) (by omega)
    have hw2 : ((s.fBounds.length : Int) - 1).toNat = s.fBounds.length - 1 := by omega
    rw [hw, hw2, decide_eq_true (by omega), cond_true, if_pos ⟨by omega, by omega⟩, if_pos h6]
    generalize s.fBounds[s.fBounds.length - 1]! = B
    by_cases h : 67108864 < B
    · simp [h]
    · simp [h]; omega
  · rw [decide_eq_false (by have := b2 h6; omega), if_neg h6]
    rfl
theorem round63 (M : Flat → List GStep → Bool → Option E55) (f : Flat) (hv : VarsOk f.fVars) (l : List GStep) (hl : l.length ≤ 1000000) (hB : ∀ s ∈ l, s.fBounds.length ≤ 1000000) (top : Bool) (hM : ∀ s ∈ l, M f s.fThen false = some (stepC f false s.fThen) ∧ M f s.fElse false = some (stepC f false s.fElse)) (i : Nat) (hi : i < l.length) :
    (stC f top l.length i l[i]! = 0 → n55_0 M ⟨l, top, (i : Int), f⟩ = some (some ⟨l, top, ((i + 1 : Nat) : Int), f⟩)) ∧ (stC f top l.length i l[i]! ≠ 0 → n55_0 M ⟨l, top, (i : Int), f⟩ = some none) := by
  have hw := w1L hi hl
  obtain ⟨k1, k2⟩ := hM _ (get_memL hi)
  have hb := hB _ (get_memL hi)
  have hi1 : (i : Int) < (l.length : Int) := by omega
  have hi0 : (0 : Int) ≤ (i : Int) := by omega
  unfold n55_0 stC ownC
  simp only [Int.toNat_natCast, GTerm.eta, GStep.eta, m111_eq f l[i]! _ hb, lastB l.length i hl, m54_eq f.fVars hv, hw, hi1]
  have e1' : (bif top then some (bif shapeB f l[i]! (decide (i + 1 = l.length)) then false else true) else some (bif shapeB f l[i]! false then false else true)) = some (bif shapeB f l[i]! (top && decide (i + 1 = l.length)) then false else true) := by cases top <;> rfl
  rw [e1']
  cases hS : shapeB f l[i]! (top && decide (i + 1 = l.length)) with
  | false => simp
  | true =>
    have hn := num_ref hS
    rw [bnd_ref hS]
    unfold numB
    generalize (if l[i]!.fDo = 6 then decide (l[i]!.fBounds[l[i]!.fBounds.length - 1]! ≤ 67108864) else true) = B6
    by_cases h2 : l[i]!.fDo = 2
    · grind
    · rw [if_neg h2] at hn ⊢
      rw [decide_eq_false h2, hn 10000 rfl]
      generalize (decide (0 ≤ l[i]!.fCost ∧ l[i]!.fCost ≤ 10000) && (if l[i]!.fDo = 4 then decide (0 ≤ l[i]!.fN ∧ l[i]!.fN ≤ 4096) else true)) = N
      generalize termC f.fVars false l[i]!.fTerm = T
      generalize l[i]!.fThen = A at k1 ⊢
      generalize l[i]!.fElse = B at k2 ⊢
      generalize stepC f false A = a at *
      generalize stepC f false B = b at *
      cases N with
      | false => simp
      | true =>
        cases B6 with
        | false => simp
        | true =>
          by_cases hT : T = 0
          · by_cases ha : a = 0
            · by_cases hb : b = 0
              · simp [hT, ha, hb, k1, k2]
              · simp [hT, ha, hb, k1, k2]
            · simp [hT, ha, k1]
          · simp [hT]
theorem s55_eq (M : Flat → List GStep → Bool → Option E55) (f : Flat) (hv : VarsOk f.fVars) (l : List GStep) (hl : l.length ≤ 1000000) (hB : ∀ s ∈ l, s.fBounds.length ≤ 1000000) (top : Bool) (hM : ∀ s ∈ l, M f s.fThen false = some (stepC f false s.fThen) ∧ M f s.fElse false = some (stepC f false s.fElse)) : s55 M f l top = some (stepC f top l) := by
  obtain ⟨i, e1, hc⟩ := loopC (rnd := n55_0 M) l (fun i => ⟨l, top, (i : Int), f⟩) (stC f top l.length) (fun i hi => round63 M f hv l hl hB top hM i hi) (by unfold n55_0; simp)
  have e1' : a55_0 M ⟨l, top, 0, f⟩ = some ⟨l, top, (i : Int), f⟩ := e1
  rw [stepC_first f top l.length l 0 (by omega)] at hc
  unfold s55
  rw [e1']
  dsimp only
  rcases hc with ⟨rfl, hc⟩ | ⟨hi, h0, hc⟩
  · simp_all
  · rw [hc]
    obtain ⟨k1, k2⟩ := hM _ (get_memL hi)
    have hb := hB _ (get_memL hi)
    have hi1 : (i : Int) < (l.length : Int) := by omega
    have hi0 : (0 : Int) ≤ (i : Int) := by omega
    revert h0
    unfold stC ownC
    simp only [Int.toNat_natCast, GTerm.eta, GStep.eta, m111_eq f l[i]! _ hb, lastB l.length i hl, m54_eq f.fVars hv, hi1]
    have e1' : (bif top then some (bif shapeB f l[i]! (decide (i + 1 = l.length)) then false else true) else some (bif shapeB f l[i]! false then false else true)) = some (bif shapeB f l[i]! (top && decide (i + 1 = l.length)) then false else true) := by cases top <;> rfl
    rw [e1']
    cases hS : shapeB f l[i]! (top && decide (i + 1 = l.length)) with
    | false => simp
    | true =>
      have hn := num_ref hS
      rw [bnd_ref hS]
      unfold numB
      generalize (if l[i]!.fDo = 6 then decide (l[i]!.fBounds[l[i]!.fBounds.length - 1]! ≤ 67108864) else true) = B6
      by_cases h2 : l[i]!.fDo = 2
      · rw [if_pos h2] at hn ⊢
        rw [decide_eq_true h2, hn 67108864 rfl]
        generalize (decide (0 ≤ l[i]!.fCost ∧ l[i]!.fCost ≤ 67108864) && (if l[i]!.fDo = 4 then decide (0 ≤ l[i]!.fN ∧ l[i]!.fN ≤ 4096) else true)) = N
        generalize termC f.fVars false l[i]!.fTerm = T
        generalize l[i]!.fThen = A at k1 ⊢
        generalize l[i]!.fElse = B at k2 ⊢
        generalize stepC f false A = a at *
        generalize stepC f false B = b at *
        cases N with
        | false => simp
        | true =>
          cases B6 with
          | false => simp
          | true =>
            by_cases hT : T = 0
            · by_cases ha : a = 0
              · by_cases hb : b = 0
                · simp [hT, ha, hb]
                · simp [hT, ha, hb, k1, k2]
              · simp [hT, ha, k1]
            · simp [hT]
      · rw [if_neg h2] at hn ⊢
        rw [decide_eq_false h2, hn 10000 rfl]
        generalize (decide (0 ≤ l[i]!.fCost ∧ l[i]!.fCost ≤ 10000) && (if l[i]!.fDo = 4 then decide (0 ≤ l[i]!.fN ∧ l[i]!.fN ≤ 4096) else true)) = N
        generalize termC f.fVars false l[i]!.fTerm = T
        generalize l[i]!.fThen = A at k1 ⊢
        generalize l[i]!.fElse = B at k2 ⊢
        generalize stepC f false A = a at *
        generalize stepC f false B = b at *
        cases N with
        | false => simp
        | true =>
          cases B6 with
          | false => simp
          | true =>
            by_cases hT : T = 0
            · by_cases ha : a = 0
              · by_cases hb : b = 0
                · simp [hT, ha, hb]
                · simp [hT, ha, hb, k1, k2]
              · simp [hT, ha, k1]
            · simp [hT]
theorem m55_eq (f : Flat) (hv : VarsOk f.fVars) : ∀ (n : Nat) (l : List GStep) (top : Bool), SizeOf.sizeOf l < n → nSs l ≤ 1000 → m55 n f l top = some (stepC f top l)
 | 0, _, _, h, _ => by omega
 | n + 1, l, top, h, h2 => s55_eq (m55 n) f hv l (by have := nSs_len l; omega) (fun s hs => by have := nSs_mem hs; have := nS_eq s; omega) top (fun s hs => ⟨m55_eq f hv n _ _ (by have := sizeOf_then hs; omega) (by have := then_le hs; omega), m55_eq f hv n _ _ (by have := sizeOf_then hs; omega) (by have := then_le hs; omega)⟩)
theorem r55_eq (f : Flat) (hv : VarsOk f.fVars) (l : List GStep) (top : Bool) (h : nSs l ≤ 1000) : r55 f l top = some (stepC f top l) := lim_eq (SizeOf.sizeOf l + 1) fun n hn => m55_eq f hv n l top (by omega) h
theorem round112 (f : Flat) (hv : VarsOk f.fVars) (hl : f.fHatches.length ≤ 1000000) (i : Nat) (hi : i < f.fHatches.length) :
  (hatC f i f.fHatches[i]! = 0 → n99_0 ⟨f.fHatches, (f.fHatches.length : Int), (i : Int), f⟩ = some (some ⟨f.fHatches, (f.fHatches.length : Int), ((i + 1 : Nat) : Int), f⟩)) ∧ (hatC f i f.fHatches[i]! ≠ 0 → n99_0 ⟨f.fHatches, (f.fHatches.length : Int), (i : Int), f⟩ = some none) := by
 have hw := w1L hi hl
 have h2 := m168_eq (f.fHatches.take i) (by rw [List.length_take]; omega) f.fHatches[i]!
 unfold n99_0 hatC
 simp only [GTerm.eta, Hatch.eta, m165_eq, m163_eq, m169_eq f.fVars hv]
 grind
theorem m99_eq (f : Flat) (hv : VarsOk f.fVars) (hl : f.fHatches.length ≤ 1000000) : m99 f = some (firstC (hatC f) f.fHatches 0) := by
  obtain ⟨i, e1, hc⟩ := loopC (rnd := n99_0) f.fHatches (fun i => ⟨f.fHatches, (f.fHatches.length : Int), (i : Int), f⟩) (hatC f) (fun i hi => round112 f hv hl i hi) (by unfold n99_0; simp)
  have e1' : a99_0 ⟨f.fHatches, (f.fHatches.length : Int), 0, f⟩ = some ⟨f.fHatches, (f.fHatches.length : Int), (i : Int), f⟩ := e1
  unfold m99
  rw [e1']
  rcases hc with ⟨rfl, hc⟩ | ⟨hi, h0, hc⟩
  · simp_all
  · rw [hc]
    have h2 := m168_eq (f.fHatches.take i) (by rw [List.length_take]; omega) f.fHatches[i]!
    revert h0
    unfold hatC
    simp only [GTerm.eta, Hatch.eta, m165_eq, m163_eq, m169_eq f.fVars hv]
    grind
theorem round18 (f : Flat) (hv : VarsOk f.fVars) (hl : f.fHatches.length ≤ 1000000) (i : Nat) (hi : i < f.fHatches.length) :
  (hatC f i f.fHatches[i]! = 0 → n15_0 ⟨(i : Int), f⟩ = some (some ⟨((i + 1 : Nat) : Int), f⟩)) ∧ (hatC f i f.fHatches[i]! ≠ 0 → n15_0 ⟨(i : Int), f⟩ = some none) := by
 have hw := w1L hi hl
 obtain ⟨j, h2, h3⟩ := a15_1_eq f hl i (by omega) f.fHatches[i]!
 unfold n15_0 hatC
 simp only [Int.toNat_natCast, GTerm.eta, m53_eq, m52_eq, h2, m54_eq f.fVars hv]
 grind
theorem a15_0_eq (f : Flat) (hv : VarsOk f.fVars) (hl : f.fHatches.length ≤ 1000000) : ∃ i : Nat, a15_0 ⟨0, f⟩ = some ⟨(i : Int), f⟩ ∧ ((i = f.fHatches.length ∧ firstC (hatC f) f.fHatches 0 = 0) ∨ (i < f.fHatches.length ∧ hatC f i f.fHatches[i]! ≠ 0 ∧ firstC (hatC f) f.fHatches 0 = hatC f i f.fHatches[i]!)) :=
 loopC (rnd := n15_0) f.fHatches (fun i => ⟨(i : Int), f⟩) (hatC f) (fun i hi => round18 f hv hl i hi) (by unfold n15_0; simp)
theorem hat_nodes {f : Flat} {i : Nat} (hi : i < f.fHatches.length) : nTs ((f.fHatches.take i).map (·.fTerm)) + nT f.fHatches[i]!.fTerm ≤ nTs (f.fHatches.map (·.fTerm)) := by
  have h := nTs_take (f.fHatches.map (·.fTerm)) (i + 1)
  rw [← List.map_take, take_succL hi, List.map_append, nTs_app] at h
  assumption
theorem m50_eq (f : Flat) (h : nSs f.fBody + nTs (f.fHatches.map (·.fTerm)) ≤ 900) (hl : f.fHatches.length ≤ 1000000) : m50 f = some (sizesB f) := by
  unfold m50 sizesB
  by_cases h1 : 64 < (f.fVars.length : Int)
  · grind
  by_cases h2 : 8 < (f.fHatches.length : Int)
  · grind
  rw [decide_eq_false h1, decide_eq_false h2, decide_eq_true (show f.fVars.length ≤ 64 by omega), decide_eq_true (show f.fHatches.length ≤ 8 by omega)]
  dsimp only [cond_false, cond_true]
  have hb := nodS_le f.fBody
  rw [r103_eq f.fBody (by omega)]
  obtain ⟨i, b, e1, hI, hc⟩ := loopJ (rnd := n50_0) f.fHatches.length (fun i (b : Int) => ⟨b, (i : Int), f⟩) (fun i b => (0 ≤ b ∧ b ≤ nSs f.fBody + nTs ((f.fHatches.take i).map (·.fTerm))) ∧ ∀ j, j < i → dT f.fHatches[j]!.fTerm ≤ 12) (fun i _ => 12 < dT f.fHatches[i]!.fTerm) (fun i b hi hI => by
    have hn := hat_nodes hi
    have hw := w1L hi hl
    have k1 := r104_eq f.fHatches[i]!.fTerm (by omega)
    have k2 := r105_eq f.fHatches[i]!.fTerm (by omega)
    have hi1 : (i : Int) < (f.fHatches.length : Int) := by omega
    have hi0 : (0 : Int) ≤ (i : Int) := by omega
    by_cases hd : 12 < dT f.fHatches[i]!.fTerm
    · refine .inr ⟨?_, hd⟩
      unfold n50_0
      simp only [Int.toNat_natCast, GTerm.eta, k1, k2, hi1, hi0, decide_true, cond_true, and_self, if_true, hd]
    · refine .inl ⟨b + nT f.fHatches[i]!.fTerm, ?_, ⟨by omega, ?_⟩, fun j hj => ?_⟩
      · have hw2 : i64.wrap (b + (nT f.fHatches[i]!.fTerm : Int)) = b + nT f.fHatches[i]!.fTerm := wrap_id (by omega) (by omega)
        unfold n50_0
        simp only [Int.toNat_natCast, GTerm.eta, k1, k2, hi1, hi0, decide_true, cond_true, and_self, if_true, hd, decide_false, cond_false, hw, hw2]
      · rw [take_succL hi, List.map_append, nTs_app]
        simp only [List.map_cons, List.map_nil, nTs_cons]
        omega
      · rcases Nat.lt_succ_iff_lt_or_eq.1 hj with h | h
        · exact hI.2 j h
        · subst h; omega) (fun b _ => by unfold n50_0; simp) (b := nodS f.fBody) ⟨⟨by omega, by simp only [List.take_zero, List.map_nil, show nTs [] = 0 from rfl]; omega⟩, fun j hj => absurd hj (by omega)⟩
  have e1' : a50_0 ⟨nodS f.fBody, 0, f⟩ = some ⟨b, (i : Int), f⟩ := e1
  dsimp only
  rw [e1']
  dsimp only
  rcases hc with rfl | ⟨hi, hd⟩
  · rw [decide_eq_false (show ¬ ((f.fHatches.length : Int) < (f.fHatches.length : Int)) by omega), cond_false]
    have ha : f.fHatches.all (fun h => decide (dT h.fTerm ≤ 12)) = true := all_of fun j hj => by simpa using hI.2 j hj
    have hn := hI.1.2
    rw [List.take_length] at hn
    rw [ha, decide_eq_true (show b ≤ 1024 by omega), cond_true, r106_eq f.fBody (by omega), r107_eq f.fBody (by omega)]
    by_cases h5 : dSs f.fBody ≤ 12
    · cases tDeep f.fBody <;> simp [h5]
    · simp [h5]
  · have hn := hat_nodes hi
    have k1 := r104_eq f.fHatches[i]!.fTerm (by omega)
    have k2 := r105_eq f.fHatches[i]!.fTerm (by omega)
    have hi1 : (i : Int) < (f.fHatches.length : Int) := by omega
    have hi0 : (0 : Int) ≤ (i : Int) := by omega
    have ha : f.fHatches.all (fun h => decide (dT h.fTerm ≤ 12)) = false := not_all hi (by simpa using hd)
    simp only [Int.toNat_natCast, GTerm.eta, k1, k2, hi1, hi0, decide_true, cond_true, and_self, if_true, hd, ha, Bool.and_false, Bool.false_and]
theorem s95_eq (M : List GStep → Int → Measure → Option E95) (l : List GStep) (hM : ∀ s ∈ l, ∀ (d : Int) (b : Measure), 0 ≤ d → d ≤ 13 → 0 ≤ b.fNodes → (b.fNodes + nSs s.fThen ≤ 1000 → M s.fThen d b = some (msS d s.fThen b)) ∧ (b.fNodes + nSs s.fElse ≤ 1000 → M s.fElse d b = some (msS d s.fElse b))) (d : Int) (b : Measure) (h0 : 0 ≤ d) (hd : d ≤ 13) (h1 : 0 ≤ b.fNodes) (h2 : b.fNodes + nSs l ≤ 1000) : s95 M l d b = some (msS d l b) := by
  have hL := nSs_len l
  have hw1 : i64.wrap (d + 1) = d + 1 := wrap_id (by omega) (by omega)
  have hgo : ∀ (l : List GStep) (i : Nat) (b : Measure), goE (fun _ (b : Measure) (s : GStep) => if overM (incM d b) = true then (.inr (incM d b) : Measure ⊕ Measure) else .inl (msS (d + 1) s.fElse (msS (d + 1) s.fThen (msT s.fTerm 1 (incM d b))))) id id l i b = msS d l b := by
    intro l
    induction l with
    | nil => intro i b; rw [msS]; rfl
    | cons s l ih =>
      intro i b
      rw [msS]
      by_cases ho : overM (incM d b) = true
      · rw [if_pos ho, goE_inr (r := incM d b) (by rw [if_pos ho])]; rfl
      · rw [if_neg ho, goE_inl (b' := msS (d + 1) s.fElse (msS (d + 1) s.fThen (msT s.fTerm 1 (incM d b)))) (by rw [if_neg ho])]
        exact ih (i + 1) _
  have hm : ∀ (b : Measure) (x : Bool), -1000000 ≤ b.fNodes → b.fNodes ≤ 1000000 → x = (b.fDeep || decide (12 < d)) → m96 ⟨i64.wrap (b.fNodes + 1), x⟩ = (overM (incM d b), incM d b) := fun b x b1 b2 hx => by
    rw [m96_eq, wrap_id (by omega) (by omega), hx]
    rfl
  have hs : ∀ (i : Nat) (b : Measure), i < l.length → 0 ≤ b.fNodes → b.fNodes + nS l[i]! ≤ 1000 → overM (incM d b) = false → d ≤ 12 ∧ r97 l[i]!.fTerm 1 (incM d b) = some (msT l[i]!.fTerm 1 (incM d b)) ∧ M l[i]!.fThen (d + 1) (msT l[i]!.fTerm 1 (incM d b)) = some (msS (d + 1) l[i]!.fThen (msT l[i]!.fTerm 1 (incM d b))) ∧ M l[i]!.fElse (d + 1) (msS (d + 1) l[i]!.fThen (msT l[i]!.fTerm 1 (incM d b))) = some (msS (d + 1) l[i]!.fElse (msS (d + 1) l[i]!.fThen (msT l[i]!.fTerm 1 (incM d b)))) ∧ 0 ≤ (msS (d + 1) l[i]!.fElse (msS (d + 1) l[i]!.fThen (msT l[i]!.fTerm 1 (incM d b)))).fNodes ∧ (msS (d + 1) l[i]!.fElse (msS (d + 1) l[i]!.fThen (msT l[i]!.fTerm 1 (incM d b)))).fNodes ≤ b.fNodes + nS l[i]! := fun i b hi b1 b2 ho => by
    have hd2 : d ≤ 12 := by unfold overM incM at ho; grind
    have hN := nS_eq l[i]!
    have hp : (incM d b).fNodes = b.fNodes + 1 := rfl
    obtain ⟨a1, a2, a3⟩ := msT_ok l[i]!.fTerm 1 (incM d b) (by omega) (by omega) (by omega)
    obtain ⟨c1, c2, c3⟩ := msS_ok (d + 1) l[i]!.fThen (msT l[i]!.fTerm 1 (incM d b)) (by omega) (by omega) (by omega) (by omega)
    obtain ⟨g1, g2, g3⟩ := msS_ok (d + 1) l[i]!.fElse (msS (d + 1) l[i]!.fThen (msT l[i]!.fTerm 1 (incM d b))) (by omega) (by omega) (by omega) (by omega)
    exact ⟨hd2, r97_eq _ 1 _ (by omega) (by omega) (by omega) (by omega), (hM _ (get_memL hi) (d + 1) _ (by omega) (by omega) (by omega)).1 (by omega), (hM _ (get_memL hi) (d + 1) _ (by omega) (by omega) (by omega)).2 (by omega), by omega, by omega⟩
  obtain ⟨i, v, e1, hI, hc⟩ := loopV (rnd := n95_0 M) l (fun i (b : Measure) => ⟨d, l, (l.length : Int), (i : Int), b⟩) (fun _ (b : Measure) (s : GStep) => if overM (incM d b) = true then (.inr (incM d b) : Measure ⊕ Measure) else .inl (msS (d + 1) s.fElse (msS (d + 1) s.fThen (msT s.fTerm 1 (incM d b))))) id id (fun i x => 0 ≤ x.fNodes ∧ x.fNodes ≤ b.fNodes + nSs (l.take i)) (fun i x hi hx => by
      have hn := nSs_step hi
      have hw := w1L hi (by omega)
      have hi1 : (i : Int) < (l.length : Int) := by omega
      have hi0 : (0 : Int) ≤ (i : Int) := by omega
      have hmx := hm x
      cases ho : overM (incM d x) with
      | true =>
        refine ⟨fun b' hb' => by simp at hb', fun r hr => ?_⟩
        unfold n95_0
        dsimp only
        simp only [hi1]
        cases hb : x.fDeep with
        | true => rw [hmx true (by omega) (by omega) (by rw [hb]; rfl), ho]; rfl
        | false => rw [hmx (decide (12 < d)) (by omega) (by omega) (by rw [hb]; rfl), ho]; rfl
      | false =>
        obtain ⟨q0, q1, q2, q3, q4, q5⟩ := hs i x hi hx.1 (by omega) ho
        refine ⟨fun b' hb' => ?_, fun r hr => by simp at hr⟩
        have hb' : msS (d + 1) l[i]!.fElse (msS (d + 1) l[i]!.fThen (msT l[i]!.fTerm 1 (incM d x))) = b' := by simpa using hb'
        subst hb'
        refine ⟨?_, ⟨q4, by rw [take_succL hi, nSs_snoc]; omega⟩⟩
        unfold n95_0
        dsimp only
        simp only [Int.toNat_natCast, hi1, hi0, decide_true, and_self, if_true]
        cases hb : x.fDeep with
        | true => rw [hmx true (by omega) (by omega) (by rw [hb]; rfl), ho]; simp only [GTerm.eta, q1, q2, q3, hw1, hw, cond_true, cond_false]
        | false => rw [hmx (decide (12 < d)) (by omega) (by omega) (by rw [hb]; rfl), ho]; simp only [GTerm.eta, q1, q2, q3, hw1, hw, cond_true, cond_false]) (fun x _ => by unfold n95_0; simp) (b := b) ⟨h1, by simp [nSs]⟩
  have e1' : a95_0 M ⟨d, l, (l.length : Int), 0, b⟩ = some ⟨d, l, (l.length : Int), (i : Int), v⟩ := e1
  rw [hgo] at hc
  unfold s95
  rw [e1']
  dsimp only
  rcases hc with ⟨rfl, hc⟩ | ⟨hi, r, hr, hc⟩
  · rw [hc, decide_eq_false (by omega)]
    rfl
  · have hn := nSs_step hi
    have hi1 : (i : Int) < (l.length : Int) := by omega
    have hi0 : (0 : Int) ≤ (i : Int) := by omega
    have ho : overM (incM d v) = true := by
      by_cases ho : overM (incM d v) = true
      · exact ho
      · rw [if_neg ho] at hr; cases hr
    rw [if_pos ho] at hr
    cases hr
    rw [hc]
    have hmx := hm v
    simp only [Int.toNat_natCast, hi1, hi0, decide_true, cond_true, and_self, if_true]
    cases hb : v.fDeep with
    | true => rw [hmx true (by omega) (by omega) (by rw [hb]; rfl), ho]; rfl
    | false => rw [hmx (decide (12 < d)) (by omega) (by omega) (by rw [hb]; rfl), ho]; rfl
theorem m95_eq : ∀ (n : Nat) (l : List GStep) (d : Int) (b : Measure), SizeOf.sizeOf l < n → 0 ≤ d → d ≤ 13 → 0 ≤ b.fNodes → b.fNodes + nSs l ≤ 1000 → m95 n l d b = some (msS d l b)
 | 0, _, _, _, h, _, _, _, _ => by omega
 | n + 1, l, d, b, h, h0, hd, h1, h2 => s95_eq (m95 n) l (fun s hs d b a1 a2 a3 => ⟨fun a4 => m95_eq n _ d b (by have := sizeOf_then hs; omega) a1 a2 a3 a4, fun a4 => m95_eq n _ d b (by have := sizeOf_then hs; omega) a1 a2 a3 a4⟩) d b h0 hd h1 h2
theorem r95_eq (l : List GStep) (d : Int) (b : Measure) (h0 : 0 ≤ d) (hd : d ≤ 13) (h1 : 0 ≤ b.fNodes) (h2 : b.fNodes + nSs l ≤ 1000) : r95 l d b = some (msS d l b) := lim_eq (SizeOf.sizeOf l + 1) fun n hn => m95_eq n l d b (by omega) h0 hd h1 h2
theorem sizes56 (f : Flat) (h : nSs f.fBody + nTs (f.fHatches.map (·.fTerm)) ≤ 900) (hl : f.fHatches.length ≤ 1000000) : ∃ r q, r95 f.fBody 1 ⟨0, false⟩ = some r ∧ a48_0 ⟨f.fHatches, (f.fHatches.length : Int), 0, f, r⟩ = some ⟨f.fHatches, (f.fHatches.length : Int), (f.fHatches.length : Int), f, q⟩ ∧ overM q = !(f.fHatches.all (fun h => decide (dT h.fTerm ≤ 12)) && decide (dSs f.fBody ≤ 12) && !tDeep f.fBody) := by
  obtain ⟨p1, p2, p3⟩ := msS_ok 1 f.fBody ⟨0, false⟩ (by omega) (by omega) (Int.le_refl 0) (by show (0 : Int) + _ ≤ _; omega)
  have p2 : 0 ≤ (msS 1 f.fBody ⟨0, false⟩).fNodes := p2
  have p3 : (msS 1 f.fBody ⟨0, false⟩).fNodes ≤ 0 + nSs f.fBody := p3
  refine ⟨msS 1 f.fBody ⟨0, false⟩, ?_⟩
  have p4 := r95_eq f.fBody 1 ⟨0, false⟩ (by omega) (by omega) (Int.le_refl 0) (by show (0 : Int) + _ ≤ _; omega)
  generalize msS 1 f.fBody ⟨0, false⟩ = r at *
  obtain ⟨q, e1, hI⟩ := loopI (rnd := n48_0) f.fHatches.length (fun i (q : Measure) => ⟨f.fHatches, (f.fHatches.length : Int), (i : Int), f, q⟩) (fun i q => q.fDeep = (r.fDeep || (f.fHatches.take i).any fun h => decide (12 < dT h.fTerm)) ∧ 0 ≤ q.fNodes ∧ q.fNodes ≤ r.fNodes + nTs ((f.fHatches.take i).map (·.fTerm))) (fun i q hi hI => by
    have hn := hat_nodes hi
    have hw := w1L hi hl
    have hi1 : (i : Int) < (f.fHatches.length : Int) := by omega
    have hi0 : (0 : Int) ≤ (i : Int) := by omega
    have hn2 : nTs ((f.fHatches.take (i + 1)).map (·.fTerm)) = nTs ((f.fHatches.take i).map (·.fTerm)) + nT f.fHatches[i]!.fTerm := by
      rw [take_succL hi, List.map_append, nTs_app]
      rfl
    have ha : ((f.fHatches.take (i + 1)).any fun h => decide (12 < dT h.fTerm)) = (((f.fHatches.take i).any fun h => decide (12 < dT h.fTerm)) || decide (12 < dT f.fHatches[i]!.fTerm)) := by
      rw [take_succL hi, List.any_append, List.any_cons, List.any_nil, Bool.or_false]
    rw [ha, hn2]
    obtain ⟨q1, q2, q3⟩ := hI
    cases ho : overM q with
    | true =>
      refine ⟨q, ?_, ?_, q2, by omega⟩
      · unfold n48_0
        dsimp only
        simp only [hi1, hi0, decide_true, cond_true, cond_false, and_self, if_true, m96_eq, ho, hw]
      · unfold overM at ho
        rw [decide_eq_false (show ¬ 1024 < q.fNodes by omega), Bool.or_false] at ho
        rw [← Bool.or_assoc, ← q1, ho]
        rfl
    | false =>
      obtain ⟨c1, c2, c3⟩ := msT_ok f.fHatches[i]!.fTerm 1 q (by omega) q2 (by omega)
      have k := r97_eq f.fHatches[i]!.fTerm 1 q (by omega) (by omega) q2 (by omega)
      refine ⟨msT f.fHatches[i]!.fTerm 1 q, ?_, ?_, by omega, by omega⟩
      · unfold n48_0
        dsimp only
        simp only [Int.toNat_natCast, GTerm.eta, hi1, hi0, decide_true, cond_true, cond_false, and_self, if_true, m96_eq, ho, hw, k]
      · rw [c1, q1, Bool.or_assoc]
        rw [show decide (12 < 1 - 1 + dT f.fHatches[i]!.fTerm) = decide (12 < dT f.fHatches[i]!.fTerm) from decide_eq_decide.2 (by omega)]) (fun q _ => by unfold n48_0; simp) (b := r) ⟨by simp, p2, by simp [nTs]⟩
  have e1' : a48_0 ⟨f.fHatches, (f.fHatches.length : Int), 0, f, r⟩ = some ⟨f.fHatches, (f.fHatches.length : Int), (f.fHatches.length : Int), f, q⟩ := e1
  refine ⟨q, p4, e1', ?_⟩
  rw [List.take_length] at hI
  obtain ⟨q1, q2, q3⟩ := hI
  unfold overM
  rw [decide_eq_false (show ¬ 1024 < q.fNodes by omega), Bool.or_false, q1, p1]
  have e2 : (f.fHatches.any fun h => decide (12 < dT h.fTerm)) = !(f.fHatches.all fun h => decide (dT h.fTerm ≤ 12)) := by
    rw [List.not_all_eq_any_not]
    congr 1
    funext h
    by_cases hd : dT h.fTerm ≤ 12
    · simp [hd]
    · simp [hd]; omega
  have e3 : decide (12 < 1 - 1 + dSs f.fBody) = !decide (dSs f.fBody ≤ 12) := by
    by_cases hd : dSs f.fBody ≤ 12
    · simp [hd]
    · simp [hd]; omega
  rw [e2, e3]
  generalize (f.fHatches.all fun h => decide (dT h.fTerm ≤ 12)) = x
  generalize decide (dSs f.fBody ≤ 12) = y
  generalize tDeep f.fBody = z
  cases x <;> cases y <;> cases z <;> rfl
def SOk : List GStep → Prop
 | [] => True
 | s :: l => (0 ≤ s.fCost ∧ s.fCost ≤ 67108864) ∧ (s.fDo = 4 → 0 ≤ s.fN ∧ s.fN ≤ 4096) ∧ (s.fDo ≠ 3 → s.fDo ≠ 4 → s.fThen = []) ∧ (s.fDo ≠ 3 → s.fElse = []) ∧ SOk s.fThen ∧ SOk s.fElse ∧ SOk l
termination_by l => SizeOf.sizeOf l
decreasing_by
  · exact (sizeOf_then (List.mem_cons_self ..)).1
  · exact (sizeOf_then (List.mem_cons_self ..)).2
  · exact size_tail _ _
theorem num_bd {s : GStep} (h : numB s = true) : (0 ≤ s.fCost ∧ s.fCost ≤ 67108864) ∧ (s.fDo = 4 → 0 ≤ s.fN ∧ s.fN ≤ 4096) := by
 unfold numB at h
 grind
theorem SOk_of (f : Flat) : ∀ (n : Nat) (l : List GStep) (top : Bool), SizeOf.sizeOf l < n → stepC f top l = 0 → SOk l
  | 0, _, _, h, _ => by omega
  | n + 1, [], top, h, hc => by rw [SOk]; trivial
  | n + 1, s :: l, top, h, hc => by
    rw [stepC] at hc
    have hz := sizeOf_then (l := s :: l) (List.mem_cons_self ..)
    have hz2 := size_tail s l
    by_cases h1 : ownC f (top && l.isEmpty) s ≠ 0
    · omega
    rw [if_neg h1] at hc
    by_cases h2 : stepC f false s.fThen ≠ 0
    · omega
    rw [if_neg h2] at hc
    by_cases h3 : stepC f false s.fElse ≠ 0
    · omega
    rw [if_neg h3] at hc
    have q1 := SOk_of f n s.fThen false (by omega) (by omega)
    have q2 := SOk_of f n s.fElse false (by omega) (by omega)
    have q3 := SOk_of f n l top (by omega) hc
    unfold ownC at h1
    cases hS : shapeB f s (top && l.isEmpty) with
    | false => rw [hS] at h1; simp at h1
    | true =>
      rw [hS] at h1
      cases hN : numB s with
      | false => rw [hN] at h1; simp at h1
      | true =>
        obtain ⟨n1, n2⟩ := num_bd hN
        obtain ⟨b1, b2, b3, b4, b5⟩ := shape_bounds hS
        rw [SOk]
        simp_all
def uS1 (s : GStep) (a b : Int × Int × Int) : Int × Int × Int :=
 if s.fDo = 1 then (1, 1, s.fCost)
 else if s.fDo = 3 then (1 + max a.1 b.1, max a.2.1 b.2.1, s.fCost + max a.2.2 b.2.2)
 else if s.fDo = 4 then (1 + s.fN * (1 + a.1), s.fN * a.2.1, s.fN * (s.fCost + a.2.2))
 else (1, 0, s.fCost)
def add3 (a b : Int × Int × Int) : Int × Int × Int := (a.1 + b.1, a.2.1 + b.2.1, a.2.2 + b.2.2)
theorem uSs_cons (s : GStep) (l : List GStep) : uSs (s :: l) = add3 (uS1 s (uSs s.fThen) (uSs s.fElse)) (uSs l) := by
 rw [uSs]
 unfold uS1 add3
 grind
theorem uSs_snoc (l : List GStep) (s : GStep) : uSs (l ++ [s]) = add3 (uSs l) (uS1 s (uSs s.fThen) (uSs s.fElse)) := by
 have h0 : uSs [] = (0, 0, 0) := by rw [uSs]
 induction l with
 | nil => rw [List.nil_append, uSs_cons, h0]; unfold add3; simp
 | cons a l ih =>
  rw [List.cons_append, uSs_cons, uSs_cons, ih]
  unfold add3
  grind
def cut3 (c : Int × Int × Int) (a : Int × Int × Int) : Int × Int × Int := (min a.1 c.1, min a.2.1 c.2.1, min a.2.2 c.2.2)
theorem min_mul {n x c k : Int} (hn : 0 ≤ n) (hk : 0 ≤ k) (hx : 0 ≤ x) (hc : 0 ≤ c) : min (n * (k + min x c)) c = min (n * (k + x)) c := by
  by_cases h : x ≤ c
  · grind
  · rw [Int.min_eq_right (show c ≤ x by omega)]
    by_cases h0 : n = 0
    · simp_all
    · have e1 : 1 * (k + c) ≤ n * (k + c) := Int.mul_le_mul_of_nonneg_right (by omega) (by omega)
      have e2 : 1 * (k + x) ≤ n * (k + x) := Int.mul_le_mul_of_nonneg_right (by omega) (by omega)
      omega
theorem SOk_mem : ∀ {l : List GStep}, SOk l → ∀ s ∈ l, (0 ≤ s.fCost ∧ s.fCost ≤ 67108864) ∧ (s.fDo = 4 → 0 ≤ s.fN ∧ s.fN ≤ 4096) ∧ (s.fDo ≠ 3 → s.fDo ≠ 4 → s.fThen = []) ∧ (s.fDo ≠ 3 → s.fElse = []) ∧ SOk s.fThen ∧ SOk s.fElse
  | [], _, s, hs => by cases hs
  | a :: l, h, s, hs => by
    rw [SOk] at h
    rcases List.mem_cons.1 hs with rfl | hs
    · simp_all
    · exact SOk_mem h.2.2.2.2.2.2 s hs
def nn3 (a : Int × Int × Int) : Prop := 0 ≤ a.1 ∧ 0 ≤ a.2.1 ∧ 0 ≤ a.2.2
theorem uS1_nn {s : GStep} {a b : Int × Int × Int} (hc : 0 ≤ s.fCost) (hN : s.fDo = 4 → 0 ≤ s.fN) (ha : nn3 a) (hb : nn3 b) : nn3 (uS1 s a b) := by
  unfold nn3 at *
  unfold uS1
  split
  · simp_all
  · split
    · grind
    · split
      · rename_i h4
        have := hN h4
        have e1 : 0 ≤ s.fN * (1 + a.1) := Int.mul_nonneg this (by omega)
        have e2 : 0 ≤ s.fN * a.2.1 := Int.mul_nonneg this (by omega)
        have e3 : 0 ≤ s.fN * (s.fCost + a.2.2) := Int.mul_nonneg this (by omega)
        dsimp only; omega
      · simp_all
theorem uSs_nn : ∀ (n : Nat) (l : List GStep), SizeOf.sizeOf l < n → SOk l → nn3 (uSs l)
 | 0, _, h, _ => by omega
 | n + 1, [], h, _ => by rw [show uSs [] = (0, 0, 0) by rw [uSs]]; exact ⟨by decide, by decide, by decide⟩
 | n + 1, s :: l, h, ho => by
  have hz := sizeOf_then (l := s :: l) (List.mem_cons_self ..)
  have hz2 := size_tail s l
  rw [SOk] at ho
  have q1 := uSs_nn n s.fThen (by omega) ho.2.2.2.2.1
  have q2 := uSs_nn n s.fElse (by omega) ho.2.2.2.2.2.1
  have q3 := uSs_nn n l (by omega) ho.2.2.2.2.2.2
  have q4 := uS1_nn ho.1.1 (fun h => (ho.2.1 h).1) q1 q2
  rw [uSs_cons]
  unfold nn3 add3 at *
  grind
theorem uSs_nn' {l : List GStep} (h : SOk l) : nn3 (uSs l) := uSs_nn _ l (Nat.lt_succ_self _) h
theorem SOk_take : ∀ {l : List GStep} (i : Nat), SOk l → SOk (l.take i)
 | [], i, h => by rw [List.take_nil]; exact h
 | s :: l, 0, h => by rw [List.take_zero, SOk]; trivial
 | s :: l, i + 1, h => by
  rw [SOk] at h
  rw [List.take_succ_cons, SOk]
  exact ⟨h.1, h.2.1, h.2.2.1, h.2.2.2.1, h.2.2.2.2.1, h.2.2.2.2.2.1, SOk_take i h.2.2.2.2.2.2⟩
def M3 (a : Int × Int × Int) : Most := ⟨a.1, a.2.1, a.2.2⟩
def big3 : Int × Int × Int := (1099511627776, 1099511627776, 1099511627776)
def lim3 : Int × Int × Int := (4097, 9, 67108865)
theorem mul_bd2 {n x : Int} (h1 : 0 ≤ n) (h2 : n ≤ 4096) (h3 : 0 ≤ x) (h4 : x ≤ 1200000000000) : 0 ≤ n * x ∧ n * x ≤ 4915200000000000 := by
 have e1 : n * x ≤ 4096 * x := Int.mul_le_mul_of_nonneg_right h2 h3
 have e2 : 0 ≤ n * x := Int.mul_nonneg h1 h3
 omega
theorem ifmin1 (w c : Int) : (if c < w then c else w) = min w c := by omega
theorem ifmin2 (w c : Int) : (if w < c then w else c) = min w c := by omega
theorem maxcut (a b c : Int) : (if min a c < min b c then min b c else min a c) = min (max a b) c := by omega
theorem maxcut2 (a b c : Int) : (if min b c < min a c then min a c else min b c) = min (max a b) c := by omega
section
variable {C x y m k n a : Int} (h0 : 0 ≤ C) (h1 : C ≤ 1099511627776) (hx : 0 ≤ x)
include h0 h1 hx
theorem cutA (hy : 0 ≤ y) (hy2 : y ≤ 67108864) : min (i64.wrap (min x C + y)) C = min (x + y) C := by
 rw [wrap_id (by omega) (by omega)]
 omega
theorem cutB (hm : 0 ≤ m) (hk : 0 ≤ k) (hk2 : k ≤ 67108864) : min (i64.wrap (min x C + i64.wrap (k + min m C))) C = min (x + (k + m)) C := by
 have : i64.wrap (k + min m C) = k + min m C := wrap_id (by omega) (by omega)
 rw [this, wrap_id (by omega) (by omega)]
 omega
theorem cutB0 (hm : 0 ≤ m) : min (i64.wrap (min x C + min m C)) C = min (x + m) C := by
 rw [wrap_id (by omega) (by omega)]
 omega
theorem cutY {z : Int} (hz : 0 ≤ z) (hy : 0 ≤ y) (hy2 : y ≤ 4915200000000001) (h : min y C = min z C) : min (i64.wrap (min x C + y)) C = min (x + z) C := by
 rw [wrap_id (by omega) (by omega)]
 omega
omit hx in
theorem cutNk (hn : 0 ≤ n) (hn2 : n ≤ 4096) (ha : 0 ≤ a) (hk : 0 ≤ k) (hk2 : k ≤ 67108864) : i64.wrap (n * i64.wrap (k + min a C)) = n * (k + min a C) ∧ 0 ≤ n * (k + min a C) ∧ n * (k + min a C) ≤ 4915200000000000 ∧ 0 ≤ n * (k + a) ∧ min (n * (k + min a C)) C = min (n * (k + a)) C := by
 have e1 : i64.wrap (k + min a C) = k + min a C := wrap_id (by omega) (by omega)
 have e2 := mul_bd2 (x := k + min a C) hn hn2 (by omega) (by omega)
 rw [e1]
 exact ⟨wrap_id (by omega) (by omega), e2.1, e2.2, Int.mul_nonneg hn (by omega), min_mul hn hk ha h0⟩
theorem cutN (hn : 0 ≤ n) (hn2 : n ≤ 4096) (ha : 0 ≤ a) (hk : 0 ≤ k) (hk2 : k ≤ 67108864) : min (i64.wrap (min x C + i64.wrap (n * i64.wrap (k + min a C)))) C = min (x + n * (k + a)) C := by
 obtain ⟨q1, q2, q3, q4, q5⟩ := cutNk h0 h1 hn hn2 ha hk hk2
 rw [q1]
 exact cutY h0 h1 hx q4 q2 (by omega) q5
theorem cutN1 (hn : 0 ≤ n) (hn2 : n ≤ 4096) (ha : 0 ≤ a) : min (i64.wrap (min x C + i64.wrap (1 + i64.wrap (n * i64.wrap (1 + min a C))))) C = min (x + (1 + n * (1 + a))) C := by
 obtain ⟨q1, q2, q3, q4, q5⟩ := cutNk (k := 1) h0 h1 hn hn2 ha (by omega) (by omega)
 rw [q1]
 generalize n * (1 + min a C) = y at *
 rw [show i64.wrap (1 + y) = 1 + y from wrap_id (by omega) (by omega)]
 exact cutY h0 h1 hx (by omega) (by omega) (by omega) (by omega)
theorem cutN0 (hn : 0 ≤ n) (hn2 : n ≤ 4096) (ha : 0 ≤ a) : min (i64.wrap (min x C + i64.wrap (n * min a C))) C = min (x + n * a) C := by
 obtain ⟨q1, q2, q3, q4, q5⟩ := cutNk (k := 0) h0 h1 hn hn2 ha (by omega) (by omega)
 rw [Int.zero_add] at q2 q3 q4 q5
 rw [Int.zero_add] at q5
 rw [show i64.wrap (n * min a C) = n * min a C from wrap_id (by omega) (by omega)]
 exact cutY h0 h1 hx q4 q2 (by omega) q5
end
theorem s101_eq (M : List GStep → Option E101) (l : List GStep) (hl : l.length ≤ 1000000) (ho : SOk l) (hM : ∀ s ∈ l, M s.fThen = some (M3 (cut3 big3 (uSs s.fThen))) ∧ M s.fElse = some (M3 (cut3 big3 (uSs s.fElse)))) : s101 M l = some (M3 (cut3 big3 (uSs l))) := by
  obtain ⟨v, e1, hv⟩ := loopI (rnd := n101_0 M) l.length (fun i (b : Most) => ⟨l, (l.length : Int), (i : Int), ⟨0, 0, 0⟩, b⟩) (fun i b => b = M3 (cut3 big3 (uSs (l.take i)))) (fun i bb hi hb => by
    have hw := w1L hi hl
    obtain ⟨k1, k2⟩ := hM _ (get_memL hi)
    obtain ⟨⟨c1, c2⟩, hN, _, _, o1, o2⟩ := SOk_mem ho _ (get_memL hi)
    obtain ⟨x1, x2, x3⟩ := uSs_nn' (SOk_take i ho)
    obtain ⟨a1, a2, a3⟩ := uSs_nn' o1
    obtain ⟨b1, b2, b3⟩ := uSs_nn' o2
    refine ⟨M3 (cut3 big3 (uSs (l.take (i + 1)))), ?_, rfl⟩
    have hi1 : (i : Int) < (l.length : Int) := by omega
    have hi0 : (0 : Int) ≤ (i : Int) := by omega
    rw [take_succL hi, uSs_snoc]
    generalize uSs (l.take i) = x at *
    generalize uSs l[i]!.fThen = a at *
    generalize uSs l[i]!.fElse = b at *
    obtain ⟨X1, X2, X3⟩ := x
    obtain ⟨A1, A2, A3⟩ := a
    obtain ⟨B1, B2, B3⟩ := b
    have hb : bb = ⟨min X1 1099511627776, min X2 1099511627776, min X3 1099511627776⟩ := hb
    have k1 : M l[i]!.fThen = some ⟨min A1 1099511627776, min A2 1099511627776, min A3 1099511627776⟩ := k1
    have k2 : M l[i]!.fElse = some ⟨min B1 1099511627776, min B2 1099511627776, min B3 1099511627776⟩ := k2
    subst hb
    have z0 : (0 : Int) ≤ 1099511627776 := by decide
    have z1 : (1099511627776 : Int) ≤ 1099511627776 := by decide
    dsimp only at x1 x2 x3 a1 a2 a3 b1 b2 b3
    unfold n101_0
    simp only [Int.toNat_natCast, hi1, k1, k2, hw]
    by_cases h1 : l[i]!.fDo = 1
    · have e : uS1 l[i]! (A1, A2, A3) (B1, B2, B3) = (1, 1, l[i]!.fCost) := by unfold uS1; rw [if_pos h1]
      rw [decide_eq_true h1, cond_true, e, ifmin1, ifmin1, ifmin1, cutA z0 z1 x1 (by omega) (by omega), cutA z0 z1 x2 (by omega) (by omega), cutA z0 z1 x3 c1 c2]
      rfl
    · rw [decide_eq_false h1, cond_false]
      by_cases h3 : l[i]!.fDo = 3
      · have e : uS1 l[i]! (A1, A2, A3) (B1, B2, B3) = (1 + max A1 B1, max A2 B2, l[i]!.fCost + max A3 B3) := by unfold uS1; rw [if_neg h1, if_pos h3]
        rw [decide_eq_true h3, cond_true, e, maxcut, maxcut, maxcut, ifmin1, ifmin1, ifmin1, cutB z0 z1 x1 (by omega) (by omega) (by omega), cutB0 z0 z1 x2 (by omega), cutB z0 z1 x3 (by omega) c1 c2]
        rfl
      · rw [decide_eq_false h3, cond_false]
        by_cases h4 : l[i]!.fDo = 4
        · obtain ⟨n1, n2⟩ := hN h4
          have e : uS1 l[i]! (A1, A2, A3) (B1, B2, B3) = (1 + l[i]!.fN * (1 + A1), l[i]!.fN * A2, l[i]!.fN * (l[i]!.fCost + A3)) := by unfold uS1; rw [if_neg h1, if_neg h3, if_pos h4]
          rw [decide_eq_true h4, cond_true, e, ifmin1, ifmin1, ifmin1, cutN1 z0 z1 x1 n1 n2 a1, cutN0 z0 z1 x2 n1 n2 a2, cutN z0 z1 x3 n1 n2 a3 c1 c2]
          rfl
        · have e : uS1 l[i]! (A1, A2, A3) (B1, B2, B3) = (1, 0, l[i]!.fCost) := by unfold uS1; rw [if_neg h1, if_neg h3, if_neg h4]
          rw [decide_eq_false h4, cond_false, e, ifmin1, ifmin1, ifmin1, cutA z0 z1 x1 (by omega) (by omega), cutA z0 z1 x2 (by omega) (by omega), cutA z0 z1 x3 c1 c2]
          rfl) (fun b _ => by unfold n101_0; simp) (b := ⟨0, 0, 0⟩) (by rw [List.take_zero, show uSs [] = (0, 0, 0) by rw [uSs]]; rfl)
  have e1' : a101_0 M ⟨l, (l.length : Int), 0, ⟨0, 0, 0⟩, ⟨0, 0, 0⟩⟩ = some ⟨l, (l.length : Int), (l.length : Int), ⟨0, 0, 0⟩, v⟩ := e1
  unfold s101
  simp_all
theorem m101_eq : ∀ (n : Nat) (l : List GStep), SizeOf.sizeOf l < n → nSs l ≤ 1000 → SOk l → m101 n l = some (M3 (cut3 big3 (uSs l)))
 | 0, _, h, _, _ => by omega
 | n + 1, l, h, h2, ho => s101_eq (m101 n) l (by have := nSs_len l; omega) ho (fun s hs => ⟨m101_eq n _ (by have := sizeOf_then hs; omega) (by have := then_le hs; omega) (SOk_mem ho s hs).2.2.2.2.1, m101_eq n _ (by have := sizeOf_then hs; omega) (by have := then_le hs; omega) (SOk_mem ho s hs).2.2.2.2.2⟩)
theorem r101_eq (l : List GStep) (h : nSs l ≤ 1000) (ho : SOk l) : r101 l = some (M3 (cut3 big3 (uSs l))) := lim_eq (SizeOf.sizeOf l + 1) fun n hn => m101_eq n l (by omega) h ho
theorem s56_eq (M : List GStep → Option E56) (l : List GStep) (hl : l.length ≤ 1000000) (ho : SOk l) (hM : ∀ s ∈ l, M s.fThen = some (cut3 lim3 (uSs s.fThen)) ∧ M s.fElse = some (cut3 lim3 (uSs s.fElse))) : s56 M l = some (cut3 lim3 (uSs l)) := by
  obtain ⟨v, e1, hv⟩ := loopI (rnd := n56_0 M) l.length (fun i (b : Int × Int × Int) => ⟨l, b.1, b.2.1, b.2.2, (i : Int)⟩) (fun i b => b = cut3 lim3 (uSs (l.take i))) (fun i bb hi hb => by
    have hw := w1L hi hl
    obtain ⟨k1, k2⟩ := hM _ (get_memL hi)
    obtain ⟨⟨c1, c2⟩, hN, hT, hE, o1, o2⟩ := SOk_mem ho _ (get_memL hi)
    obtain ⟨x1, x2, x3⟩ := uSs_nn' (SOk_take i ho)
    obtain ⟨a1, a2, a3⟩ := uSs_nn' o1
    obtain ⟨b1, b2, b3⟩ := uSs_nn' o2
    have zT : l[i]!.fDo ≠ 3 → l[i]!.fDo ≠ 4 → uSs l[i]!.fThen = (0, 0, 0) := fun h3 h4 => by rw [hT h3 h4, uSs]
    have zE : l[i]!.fDo ≠ 3 → uSs l[i]!.fElse = (0, 0, 0) := fun h3 => by rw [hE h3, uSs]
    refine ⟨cut3 lim3 (uSs (l.take (i + 1))), ?_, rfl⟩
    have hi1 : (i : Int) < (l.length : Int) := by omega
    have hi0 : (0 : Int) ≤ (i : Int) := by omega
    rw [take_succL hi, uSs_snoc]
    generalize uSs (l.take i) = x at *
    generalize uSs l[i]!.fThen = a at *
    generalize uSs l[i]!.fElse = b at *
    obtain ⟨X1, X2, X3⟩ := x
    obtain ⟨A1, A2, A3⟩ := a
    obtain ⟨B1, B2, B3⟩ := b
    have hb : bb = (min X1 4097, min X2 9, min X3 67108865) := hb
    have k1 : M l[i]!.fThen = some (min A1 4097, min A2 9, min A3 67108865) := k1
    have k2 : M l[i]!.fElse = some (min B1 4097, min B2 9, min B3 67108865) := k2
    subst hb
    have z0 : (0 : Int) ≤ 4097 := by decide
    have z1 : (4097 : Int) ≤ 1099511627776 := by decide
    have y0 : (0 : Int) ≤ 9 := by decide
    have y1 : (9 : Int) ≤ 1099511627776 := by decide
    have u0 : (0 : Int) ≤ 67108865 := by decide
    have u1 : (67108865 : Int) ≤ 1099511627776 := by decide
    dsimp only at x1 x2 x3 a1 a2 a3 b1 b2 b3
    unfold n56_0
    simp only [Int.toNat_natCast, hi1, hi0, decide_true, cond_true, and_self, if_true, k1, k2, hw, m113_eq, m112_eq, ifmin2, maxcut2]
    by_cases h4 : l[i]!.fDo = 4
    · obtain ⟨n1, n2⟩ := hN h4
      have h1 : ¬ l[i]!.fDo = 1 := by omega
      have h3 : ¬ l[i]!.fDo = 3 := by omega
      have e : uS1 l[i]! (A1, A2, A3) (B1, B2, B3) = (1 + l[i]!.fN * (1 + A1), l[i]!.fN * A2, l[i]!.fN * (l[i]!.fCost + A3)) := by unfold uS1; rw [if_neg h1, if_neg h3, if_pos h4]
      rw [decide_eq_true h4, decide_eq_false h1, cond_true, cond_false, e, cutN1 z0 z1 x1 n1 n2 a1, cutN0 y0 y1 x2 n1 n2 a2, cutN u0 u1 x3 n1 n2 a3 c1 c2]
      rfl
    · rw [decide_eq_false h4, cond_false]
      by_cases h1 : l[i]!.fDo = 1
      · have h3 : ¬ l[i]!.fDo = 3 := by omega
        have ea := zT h3 h4
        have eb := zE h3
        cases ea
        cases eb
        have e : uS1 l[i]! (0, 0, 0) (0, 0, 0) = (1, 1, l[i]!.fCost) := by unfold uS1; rw [if_pos h1]
        rw [decide_eq_true h1, cond_true, e, cutB z0 z1 x1 (by omega) (by omega) (by omega), cutA y0 y1 x2 (by omega) (by omega), cutB u0 u1 x3 (by omega) c1 c2]
        simp only [cut3, lim3, add3, Int.max_self, Int.add_zero]
      · rw [decide_eq_false h1, cond_false, cutB z0 z1 x1 (by omega) (by omega) (by omega), cutB0 y0 y1 x2 (by omega), cutB u0 u1 x3 (by omega) c1 c2]
        by_cases h3 : l[i]!.fDo = 3
        · have e : uS1 l[i]! (A1, A2, A3) (B1, B2, B3) = (1 + max A1 B1, max A2 B2, l[i]!.fCost + max A3 B3) := by unfold uS1; rw [if_neg h1, if_pos h3]
          rw [e]
          rfl
        · have ea := zT h3 h4
          have eb := zE h3
          cases ea
          cases eb
          have e : uS1 l[i]! (0, 0, 0) (0, 0, 0) = (1, 0, l[i]!.fCost) := by unfold uS1; rw [if_neg h1, if_neg h3, if_neg h4]
          rw [e]
          simp only [cut3, lim3, add3, Int.max_self, Int.add_zero]) (fun b _ => by unfold n56_0; simp) (b := (0, 0, 0)) (by rw [List.take_zero, show uSs [] = (0, 0, 0) by rw [uSs]]; rfl)
  have e1' : a56_0 M ⟨l, 0, 0, 0, 0⟩ = some ⟨l, v.1, v.2.1, v.2.2, (l.length : Int)⟩ := e1
  unfold s56
  rw [e1']
  rw [hv]
  simp
theorem m56_eq : ∀ (n : Nat) (l : List GStep), SizeOf.sizeOf l < n → nSs l ≤ 1000 → SOk l → m56 n l = some (cut3 lim3 (uSs l))
 | 0, _, h, _, _ => by omega
 | n + 1, l, h, h2, ho => s56_eq (m56 n) l (by have := nSs_len l; omega) ho (fun s hs => ⟨m56_eq n _ (by have := sizeOf_then hs; omega) (by have := then_le hs; omega) (SOk_mem ho s hs).2.2.2.2.1, m56_eq n _ (by have := sizeOf_then hs; omega) (by have := then_le hs; omega) (SOk_mem ho s hs).2.2.2.2.2⟩)
theorem r56_eq (l : List GStep) (h : nSs l ≤ 1000) (ho : SOk l) : r56 l = some (cut3 lim3 (uSs l)) := lim_eq (SizeOf.sizeOf l + 1) fun n hn => m56_eq n l (by omega) h ho
theorem m48_eq (f : Flat) (h : nSs f.fBody + nTs (f.fHatches.map (·.fTerm)) ≤ 900) (hh : f.fHatches.length ≤ 1000000) (hvl : f.fVars.length ≤ 1000000) : m48 f = some (chk f) := by
  obtain ⟨r, q, e1, e2, e3⟩ := sizes56 f h hh
  unfold m48 chk
  rw [e1]
  dsimp only
  rw [e2]
  dsimp only
  rw [decide_eq_false (show ¬ ((f.fHatches.length : Int) < (f.fHatches.length : Int)) by omega), cond_false, m96_eq, e3]
  unfold sizesB
  generalize (f.fHatches.all fun h => decide (dT h.fTerm ≤ 12)) = x
  generalize decide (dSs f.fBody ≤ 12) = y
  generalize tDeep f.fBody = z
  by_cases h1 : 64 < (f.fVars.length : Int)
  · grind
  by_cases h2 : 8 < (f.fHatches.length : Int)
  · grind
  rw [decide_eq_false h1, decide_eq_false h2, decide_eq_true (show f.fVars.length ≤ 64 by omega), decide_eq_true (show f.fHatches.length ≤ 8 by omega)]
  simp only [Bool.true_and]
  cases hx : (x && y && !z) with
  | false => rfl
  | true =>
    rw [m98_eq f.fVars hvl]
    dsimp only [Bool.not_true, cond_false]
    rw [if_neg (by decide)]
    by_cases hvc : varsC f.fVars = 0
    case neg => simp [hvc]
    have hv : VarsOk f.fVars := by
      apply varsOk_of
      unfold varsC at hvc
      by_cases h0 : firstC (varC f.fVars) f.fVars 0 = 0
      · exact h0
      · rw [if_pos h0] at hvc; exact absurd hvc h0
    rw [decide_eq_true hvc, cond_true, cond_false, if_neg (by simpa using hvc), m99_eq f hv hh]
    dsimp only
    by_cases hhc : firstC (hatC f) f.fHatches 0 = 0
    case neg => simp [hhc]
    rw [decide_eq_true hhc, cond_true, cond_false, if_neg (by simpa using hhc), r100_eq f hv f.fBody true (by omega)]
    dsimp only
    by_cases hsc : stepC f true f.fBody = 0
    case neg => simp [hsc]
    have ho : SOk f.fBody := SOk_of f _ f.fBody true (Nat.lt_succ_self _) hsc
    rw [decide_eq_true hsc, cond_true, cond_false, if_neg (by simpa using hsc)]
    have e := r101_eq f.fBody (by omega) ho
    unfold overB
    generalize uSs f.fBody = u at e ⊢
    obtain ⟨a, b, c⟩ := u
    have e : r101 f.fBody = some ⟨min a 1099511627776, min b 1099511627776, min c 1099511627776⟩ := e
    rw [e]
    by_cases a1 : 4096 < a
    · simp [a1, show 4096 < min a 1099511627776 by omega]
    · by_cases b1 : 8 < b
      · simp [b1, show 8 < min b 1099511627776 by omega]
      · by_cases d1 : 67108864 < c
        · simp [d1, show 67108864 < min c 1099511627776 by omega]
        · simp [a1, b1, d1, show ¬ 4096 < min a 1099511627776 by omega, show ¬ 8 < min b 1099511627776 by omega, show ¬ 67108864 < min c 1099511627776 by omega]
theorem m15_eq (f : Flat) (h : nSs f.fBody + nTs (f.fHatches.map (·.fTerm)) ≤ 900) (hh : f.fHatches.length ≤ 1000000) (hvl : f.fVars.length ≤ 1000000) : m15 f = some (chk f) := by
  unfold m15 chk
  rw [m50_eq f h hh]
  dsimp only
  cases hx : sizesB f with
  | false => rfl
  | true =>
    rw [m51_eq f.fVars hvl]
    dsimp only [cond_true, cond_false]
    rw [if_neg (by decide)]
    by_cases hvc : varsC f.fVars = 0
    case neg => simp [hvc]
    have hv : VarsOk f.fVars := by
      apply varsOk_of
      unfold varsC at hvc
      omega
    obtain ⟨i, e1, hc⟩ := a15_0_eq f hv hh
    rw [decide_eq_true hvc, cond_true, cond_false, if_neg (by simpa using hvc), e1]
    dsimp only
    rcases hc with ⟨rfl, hc⟩ | ⟨hi, h0, hc⟩
    · rw [if_neg (show ¬ (firstC (hatC f) f.fHatches 0 ≠ 0) by rw [hc]; simp), decide_eq_false (show ¬ ((f.fHatches.length : Int) < (f.fHatches.length : Int)) by omega), cond_false, r55_eq f hv f.fBody true (by omega)]
      dsimp only
      by_cases hsc : stepC f true f.fBody = 0
      case neg => simp [hsc]
      have ho : SOk f.fBody := SOk_of f _ f.fBody true (Nat.lt_succ_self _) hsc
      rw [decide_eq_true hsc, cond_true, cond_false, if_neg (show ¬ (stepC f true f.fBody ≠ 0) by rw [hsc]; simp)]
      have e := r56_eq f.fBody (by omega) ho
      unfold overB
      generalize uSs f.fBody = u at e ⊢
      obtain ⟨a, b, c⟩ := u
      have e : r56 f.fBody = some (min a 4097, min b 9, min c 67108865) := e
      rw [e]
      by_cases a1 : 4096 < a
      · simp [a1, show 4096 < min a 4097 by omega]
      · by_cases b1 : 8 < b
        · simp [b1, show 8 < min b 9 by omega]
        · by_cases d1 : 67108864 < c
          · simp [d1, show 67108864 < min c 67108865 by omega]
          · simp [a1, b1, d1, show ¬ 4096 < min a 4097 by omega, show ¬ 8 < min b 9 by omega, show ¬ 67108864 < min c 67108865 by omega]
    · obtain ⟨j, h2, h3⟩ := a15_1_eq f hh i (by omega) f.fHatches[i]!
      rw [if_pos (show firstC (hatC f) f.fHatches 0 ≠ 0 by rw [hc]; exact h0), hc]
      have hi1 : (i : Int) < (f.fHatches.length : Int) := by omega
      have hi0 : (0 : Int) ≤ (i : Int) := by omega
      revert h0
      unfold hatC
      simp only [Int.toNat_natCast, GTerm.eta, Hatch.eta, m53_eq, m52_eq, h2, m54_eq f.fVars hv, hi1]
      generalize nameB f.fHatches[i]!.fName = B
      generalize ((f.fHatches.take i).any fun w => w.fName.toList == f.fHatches[i]!.fName.toList) = A at h3
      generalize boundB f.fHatches[i]!.fLow f.fHatches[i]!.fHigh = C
      generalize termC f.fVars true f.fHatches[i]!.fTerm = T
      rcases h3 with ⟨rfl, rfl⟩ | ⟨hj, h4, rfl⟩
      · cases B <;> cases C <;> by_cases hT : T = 0 <;> simp [hT]
      · have hj1 : (j : Int) < (i : Int) := by omega
        have hj2 : (j : Int) < (f.fHatches.length : Int) := by omega
        have hj0 : (0 : Int) ≤ (j : Int) := by omega
        simp only [hj0, hj1, hj2, h4, and_self, if_true, decide_true, cond_true]
        cases B <;> simp
theorem chk_vars {f : Flat} (h : chk f = 0) : VarsOk f.fVars := by
  unfold chk at h
  by_cases h1 : sizesB f = false
  · simp_all
  by_cases hvc : varsC f.fVars = 0
  · apply varsOk_of
    unfold varsC at hvc
    omega
  · omega
theorem few_20 {f : Flat} (h : few f 20 200 = true) : nSs f.fBody + nTs (f.fHatches.map (·.fTerm)) ≤ 900 ∧ f.fHatches.length ≤ 1000000 ∧ f.fVars.length ≤ 20 := by
  unfold few at h; simp at h; omega
theorem vok_of {f : Flat} (h : few f 20 200 = true) (hc : chk f = 0) : VOk f.fVars :=
 ⟨by have := (few_20 h).2.2; omega, fun i hi => by
  have := chk_vars hc _ (List.getElem_mem hi)
  rwa [getElem!_pos f.fVars i hi]⟩
def bvF (n : Int) (b : Bool) : Int := 2 * n + (if b then 1 else 0)
def bv (l : List Bool) : Int := l.foldl bvF 0
theorem bv_bdF : ∀ (l : List Bool) (a : Int), 0 ≤ a → 0 ≤ l.foldl bvF a ∧ l.foldl bvF a < (a + 1) * 2 ^ l.length
 | [], a, h => by simp; omega
 | b :: l, a, h => by
  have hb : 0 ≤ bvF a b ∧ bvF a b + 1 ≤ (a + 1) * 2 := by unfold bvF; split <;> omega
  obtain ⟨h1, h2⟩ := bv_bdF l (bvF a b) hb.1
  refine ⟨h1, Int.lt_of_lt_of_le h2 ?_⟩
  rw [List.length_cons, Int.pow_succ, Int.mul_comm ((2 : Int) ^ l.length) 2, ← Int.mul_assoc]
  exact Int.mul_le_mul_of_nonneg_right hb.2 (Int.pow_nonneg (by omega))
theorem bv_bd (l : List Bool) (h : l.length ≤ 24) : 0 ≤ bv l ∧ bv l < 16777216 := by
 obtain ⟨h1, h2⟩ := bv_bdF l 0 (Int.le_refl _)
 have h3 : (2 : Int) ^ l.length ≤ 2 ^ 24 := by exact_mod_cast Nat.pow_le_pow_right (n := 2) (by omega) h
 simp only [Int.zero_add, Int.one_mul] at h2
 exact ⟨h1, by unfold bv; omega⟩
theorem bv_snoc (l : List Bool) (b : Bool) : bv (l ++ [b]) = bvF (bv l) b := by simp [bv, List.foldl_append]
def sbt (bits : List Bool) (t : Slot) : List Bool := (bits.drop t.fFirst.toNat).take t.fBits.toNat
structure SlOk (vs : List GVar) (n : Int) (t : Slot) : Prop where
 v0 : 0 ≤ t.fVar
 v1 : t.fVar < (vs.length : Int)
 f0 : 0 ≤ t.fFirst
 b0 : 0 ≤ t.fBits
 b1 : t.fBits ≤ 24
 l : t.fFirst + t.fBits ≤ n
theorem sbt_len {vs : List GVar} {bits : List Bool} {t : Slot} (h : SlOk vs bits.length t) : (sbt bits t).length = t.fBits.toNat := by
 have := h.f0; have := h.b0; have := h.l
 unfold sbt; simp; omega
theorem sbt_get {bits : List Bool} {t : Slot} {i : Nat} (h0 : 0 ≤ t.fFirst) (h : i < t.fBits.toNat) : (sbt bits t)[i]! = bits[(t.fFirst + (i : Int)).toNat]! := by
 have : (t.fFirst + (i : Int)).toNat = t.fFirst.toNat + i := by omega
 rw [this]; unfold sbt
 simp [getElem!_def, List.getElem?_take, List.getElem?_drop, h]
theorem a19_1_eq {vs : List GVar} (bits : List Bool) (hb : bits.length ≤ 1000) (o : List Int) (is : Bool) (sl : List Slot) (c d : Int) (f : Flat) (t : Slot) (h : SlOk vs bits.length t) :
    a19_1 ⟨bits, o, is, 0, sl, c, d, t.fBits, 0, f, t⟩ = some ⟨bits, o, is, bv (sbt bits t), sl, c, d, t.fBits, t.fBits, f, t⟩ := by
  obtain ⟨k, hk⟩ : ∃ k : Nat, t.fBits = (k : Int) := ⟨t.fBits.toNat, by have := h.b0; omega⟩
  have hl := sbt_len h
  have g1 := h.f0; have g2 := h.b1; have g3 := h.l
  obtain ⟨v, q, hv⟩ := loopI (rnd := n19_1) k (fun i (z : Int) => ⟨bits, o, is, z, sl, c, d, (k : Int), (i : Int), f, t⟩) (fun i z => z = bv ((sbt bits t).take i)) (fun i z hi hz => by
    have i1 : (i : Int) < (k : Int) := by omega
    have w1 : i64.wrap (t.fFirst + (i : Int)) = t.fFirst + (i : Int) := wrap_id (by omega) (by omega)
    have w2 : i64.wrap ((i : Int) + 1) = ((i + 1 : Nat) : Int) := by rw [wrap_id (by omega) (by omega)]; rfl
    have r1 : 0 ≤ t.fFirst + (i : Int) := by omega
    have r2 : t.fFirst + (i : Int) < (bits.length : Int) := by omega
    have zb := bv_bd ((sbt bits t).take i) (by rw [List.length_take]; omega)
    rw [← hz] at zb
    have w3 : i64.wrap (2 * z) = 2 * z := wrap_id (by omega) (by omega)
    have w4 : i64.wrap (2 * z + 1) = 2 * z + 1 := wrap_id (by omega) (by omega)
    have e := sbt_get (bits := bits) (t := t) (i := i) g1 (by omega)
    refine ⟨bvF z bits[(t.fFirst + (i : Int)).toNat]!, ?_, ?_⟩
    · unfold n19_1
      simp only [i1, decide_true, cond_true, w1, r1, r2, and_self, if_true, w2, w3, w4]
      unfold bvF
      cases bits[(t.fFirst + (i : Int)).toNat]! <;> simp
    · rw [take_succL (by omega), bv_snoc, ← hz, e]) (fun z _ => by unfold n19_1; simp) (b := 0) rfl
  have hv : v = bv (sbt bits t) := by
    rw [hv, List.take_of_length_le (by omega)]
  rw [hk, ← hv]
  exact q
def slV (vs : List GVar) (bits : List Bool) (t : Slot) : Int := vs[t.fVar.toNat]!.fLow + bv (sbt bits t)
def slIs (vs : List GVar) (bits : List Bool) (t : Slot) : Bool := !decide (vs[t.fVar.toNat]!.fHigh < slV vs bits t)
theorem a19_0_eq (f : Flat) (h : VOk f.fVars) (bits : List Bool) (hb : bits.length ≤ 1000) (sl : List Slot) (hl : sl.length ≤ 10000) (hs : ∀ t ∈ sl, SlOk f.fVars bits.length t) :
    a19_0 ⟨bits, [], true, sl, (sl.length : Int), 0, f⟩ = some ⟨bits, sl.map (slV f.fVars bits), sl.all (slIs f.fVars bits), sl, (sl.length : Int), (sl.length : Int), f⟩ := by
  obtain ⟨v, q, hv⟩ := loopI (rnd := n19_0) sl.length (fun i (z : List Int × Bool) => ⟨bits, z.1, z.2, sl, (sl.length : Int), (i : Int), f⟩) (fun i z => z = ((sl.take i).map (slV f.fVars bits), (sl.take i).all (slIs f.fVars bits))) (fun i z hi hz => by
    have i1 : (i : Int) < (sl.length : Int) := by omega
    have i2 : (0 : Int) ≤ (i : Int) := by omega
    have w2 : i64.wrap ((i : Int) + 1) = ((i + 1 : Nat) : Int) := by rw [wrap_id (by omega) (by omega)]; rfl
    have ht := hs _ (get_memL hi)
    have l1 : z.1.length ≤ 10000 := by rw [hz]; simp; omega
    have x1 := ht.v0; have x2 := ht.v1
    have hv := h.2 (sl[i]!.fVar.toNat) (by omega)
    have zb := bv_bd (sbt bits sl[i]!) (by rw [sbt_len ht]; have := ht.b1; omega)
    have w3 : i64.wrap (f.fVars[sl[i]!.fVar.toNat]!.fLow + bv (sbt bits sl[i]!)) = f.fVars[sl[i]!.fVar.toNat]!.fLow + bv (sbt bits sl[i]!) := wrap_id (by omega) (by omega)
    have l2 : (z.1 ++ [f.fVars[sl[i]!.fVar.toNat]!.fLow + bv (sbt bits sl[i]!)]).length ≤ 1073741824 := by simp; omega
    refine ⟨(z.1 ++ [slV f.fVars bits sl[i]!], z.2 && slIs f.fVars bits sl[i]!), ?_, ?_⟩
    · unfold n19_0
      simp only [i1, i2, decide_true, cond_true, Int.toNat_natCast, and_self, if_true, hi, a19_1_eq bits hb _ _ _ _ _ f _ ht, Int.lt_irrefl, decide_false, cond_false, x1, x2, w3, l2, w2]
      unfold slIs slV
      by_cases hq : f.fVars[sl[i]!.fVar.toNat]!.fHigh < f.fVars[sl[i]!.fVar.toNat]!.fLow + bv (sbt bits sl[i]!) <;> simp only [hq, decide_true, decide_false, cond_true, cond_false, Bool.not_true, Bool.not_false, Bool.and_false, Bool.and_true]
    · rw [take_succL hi, List.map_append, List.all_append, hz]; simp) (fun z _ => by unfold n19_0; simp) (b := ([], true)) rfl
  have hv : v = (sl.map (slV f.fVars bits), sl.all (slIs f.fVars bits)) := by rw [hv, List.take_length]
  subst hv
  exact q
theorem m19_eq (f : Flat) (h : VOk f.fVars) (bits : List Bool) (hb : bits.length ≤ 1000) (hs : ∀ t ∈ (slotsP f.fVars).1, SlOk f.fVars bits.length t) :
  m19 f bits = some ((slotsP f.fVars).1.map (slV f.fVars bits), (slotsP f.fVars).1.all (slIs f.fVars bits)) := by
 unfold m19
 have l := (m49_eq f h).2.1
 simp only [m16_eq f h, a19_0_eq f h bits hb _ (by omega) hs, Int.lt_irrefl, decide_false, cond_false]
def slTot (vs : List GVar) : List Int → Int
 | [] => 0
 | i :: l => vbl vs[i.toNat]! + slTot vs l
def slMk (vs : List GVar) (o : Int) : List Int → List Slot
 | [] => []
 | i :: l => ⟨i, o, vbl vs[i.toNat]!⟩ :: slMk vs (o + vbl vs[i.toNat]!) l
theorem addS_mk (vs : List GVar) : ∀ (ids : List Int) (s : List Slot × Int), ids.foldl (addS vs) s = (s.1 ++ slMk vs s.2 ids, s.2 + slTot vs ids)
 | [], s => by simp [slMk, slTot]
 | i :: l, s => by
  rw [List.foldl_cons, addS_mk vs l]
  simp [addS, slMk, slTot, Int.add_assoc]
theorem slotsP_eq (vs : List GVar) : slotsP vs = (slMk vs 0 (idK vs 1) ++ slMk vs (slTot vs (idK vs 1)) (idK vs 3), slTot vs (idK vs 1), slTot vs (idK vs 1) + slTot vs (idK vs 3)) := by
 unfold slotsP
 simp [addS_mk]
theorem vbl_bd {vs : List GVar} (h : VOk vs) {x : Int} (h1 : 0 ≤ x) (h2 : x < (vs.length : Int)) : 0 ≤ vbl vs[x.toNat]! ∧ vbl vs[x.toNat]! ≤ 24 := (len_of h h1 h2).2
theorem slTot_nn {vs : List GVar} (h : VOk vs) : ∀ (ids : List Int), (∀ x ∈ ids, 0 ≤ x ∧ x < (vs.length : Int)) → 0 ≤ slTot vs ids
 | [], _ => Int.le_refl _
 | i :: l, hi => by
  have h1 := hi i (by simp)
  have h2 := vbl_bd h h1.1 h1.2
  have h3 := slTot_nn h l fun x hx => hi x (by simp [hx])
  simp only [slTot]; omega
theorem slMk_ok {vs : List GVar} (h : VOk vs) : ∀ (ids : List Int) (o n : Int), (∀ x ∈ ids, 0 ≤ x ∧ x < (vs.length : Int)) → 0 ≤ o → o + slTot vs ids ≤ n → ∀ t ∈ slMk vs o ids, SlOk vs n t ∧ t.fVar ∈ ids
  | [], _, _, _, _, _, t, ht => by simp [slMk] at ht
  | i :: l, o, n, hi, ho, hn, t, ht => by
    have h1 := hi i (by simp)
    have h2 := vbl_bd h h1.1 h1.2
    have hl : ∀ x ∈ l, 0 ≤ x ∧ x < (vs.length : Int) := fun x hx => hi x (by simp [hx])
    have h3 := slTot_nn h l hl
    simp only [slTot] at hn
    rcases List.mem_cons.1 ht with rfl | ht
    · exact ⟨⟨h1.1, h1.2, ho, h2.1, h2.2, by simp only; omega⟩, by simp⟩
    · obtain ⟨q1, q2⟩ := slMk_ok h l (o + vbl vs[i.toNat]!) n hl (by omega) (by omega) t ht
      exact ⟨q1, by simp [q2]⟩
theorem slotsP_ok {vs : List GVar} (h : VOk vs) : ∀ t ∈ (slotsP vs).1, SlOk vs (slotsP vs).2.2 t := by
  rw [slotsP_eq]
  intro t ht
  have k1 : ∀ x ∈ idK vs 1, 0 ≤ x ∧ x < (vs.length : Int) := fun x hx => ⟨(idN_mem hx).1, (idN_mem hx).2.1⟩
  have k3 : ∀ x ∈ idK vs 3, 0 ≤ x ∧ x < (vs.length : Int) := fun x hx => ⟨(idN_mem hx).1, (idN_mem hx).2.1⟩
  have t1 := slTot_nn h _ k1
  have t3 := slTot_nn h _ k3
  rcases List.mem_append.1 ht with ht | ht
  · exact (slMk_ok h _ 0 _ k1 (Int.le_refl _) (by simp only; omega) t ht).1
  · exact (slMk_ok h _ _ _ k3 t1 (by simp only; omega) t ht).1
theorem a31_1_eq {vs : List GVar} (bits : List Bool) (hb : bits.length ≤ 1000) (o u : List Int) (sl : List Slot) (c d : Int) (f : Flat) (g : GVar) (t : Slot) (h : SlOk vs bits.length t) :
    a31_1 ⟨bits, o, u, 0, sl, c, d, sbt bits t, ((sbt bits t).length : Int), 0, f, g⟩ = some ⟨bits, o, u, bv (sbt bits t), sl, c, d, sbt bits t, ((sbt bits t).length : Int), ((sbt bits t).length : Int), f, g⟩ := by
  have hl := sbt_len h
  have g2 := h.b1
  generalize sbt bits t = l at *
  obtain ⟨v, q, hv⟩ := loopI (rnd := n31_1) l.length (fun i (z : Int) => ⟨bits, o, u, z, sl, c, d, l, (l.length : Int), (i : Int), f, g⟩) (fun i z => z = bv (l.take i)) (fun i z hi hz => by
    have i1 : (i : Int) < (l.length : Int) := by omega
    have i2 : (0 : Int) ≤ (i : Int) := by omega
    have w2 : i64.wrap ((i : Int) + 1) = ((i + 1 : Nat) : Int) := by rw [wrap_id (by omega) (by omega)]; rfl
    have zb := bv_bd (l.take i) (by rw [List.length_take]; omega)
    rw [← hz] at zb
    have w3 : i64.wrap (z * 2) = 2 * z := by rw [Int.mul_comm]; exact wrap_id (by omega) (by omega)
    have w4 : i64.wrap (2 * z + 1) = 2 * z + 1 := wrap_id (by omega) (by omega)
    refine ⟨bvF z l[i]!, ?_, ?_⟩
    · unfold n31_1
      simp only [i1, decide_true, cond_true, i2, and_self, if_true, w2, w3, w4, Int.toNat_natCast]
      unfold bvF
      cases l[i]! <;> simp
    · rw [take_succL hi, bv_snoc, ← hz]) (fun z _ => by unfold n31_1; simp) (b := 0) rfl
  have hv : v = bv l := by rw [hv, List.take_length]
  rw [← hv]
  exact q
def slK (vs : List GVar) (t : Slot) : Bool := decide (vs[t.fVar.toNat]!.fKind = 1)
theorem drop_take_sbt {bits : List Bool} {t : Slot} (h0 : 0 ≤ t.fFirst) (h1 : 0 ≤ t.fBits) : List.drop t.fFirst.toNat (List.take (t.fFirst + t.fBits).toNat bits) = sbt bits t := by
 have : (t.fFirst + t.fBits).toNat = t.fFirst.toNat + t.fBits.toNat := by omega
 rw [this]; unfold sbt; rw [List.drop_take]; simp
def dec31 (vs : List GVar) (bits : List Bool) (sl : List Slot) : E31 := if sl.all (slIs vs bits) then ((sl.filter (slK vs)).map (slV vs bits), (sl.filter (fun t => !slK vs t)).map (slV vs bits), 0) else ([], [], 3)
theorem m31_eq (f : Flat) (hf : few f 20 200 = true) (bits : List Bool) (hb : bits.length ≤ 1000) : m31 f bits = some (if chk f ≠ 0 then ([], [], chk f) else if (bits.length : Int) ≠ (slotsP f.fVars).2.2 then ([], [], 2) else dec31 f.fVars bits (slotsP f.fVars).1) := by
  obtain ⟨h1, h2, h3⟩ := few_20 hf
  unfold m31
  rw [m48_eq f h1 h2 (by omega)]
  by_cases hc : chk f = 0
  · have h := vok_of hf hc
    have hsl := slotsP_ok h
    obtain ⟨p1, p2, _⟩ := m49_eq f h
    simp only [hc, p1, decide_true, cond_true, cond_false, ne_eq, not_true, if_false]
    by_cases hn : (bits.length : Int) = (slotsP f.fVars).2.2
    · rw [← hn] at hsl
      have hn2 : ((bits.length : Int) = (slotsP f.fVars).2.2) = True := eq_true hn
      simp only [hn2, decide_true, cond_true, cond_false, ne_eq, not_true, if_false]
      have hsn : (slotsP f.fVars).1.length ≤ 2000 := p2
      generalize (slotsP f.fVars).1 = sl at *
      have hb' : bits.length ≤ 1000 := hb
      have rd : ∀ (i : Nat) (z : List Int × List Int), i < sl.length → z.1.length ≤ 10000 → z.2.length ≤ 10000 →
          (0 ≤ sl[i]!.fVar ∧ sl[i]!.fVar < (f.fVars.length : Int)) ∧ (0 ≤ sl[i]!.fFirst ∧ sl[i]!.fFirst ≤ i64.wrap (sl[i]!.fFirst + sl[i]!.fBits) ∧ i64.wrap (sl[i]!.fFirst + sl[i]!.fBits) ≤ (bits.length : Int)) ∧
          List.drop sl[i]!.fFirst.toNat (List.take (i64.wrap (sl[i]!.fFirst + sl[i]!.fBits)).toNat bits) = sbt bits sl[i]! ∧
          i64.wrap (f.fVars[sl[i]!.fVar.toNat]!.fLow + bv (sbt bits sl[i]!)) = slV f.fVars bits sl[i]! ∧ (z.1 ++ [slV f.fVars bits sl[i]!]).length ≤ 1073741824 ∧ (z.2 ++ [slV f.fVars bits sl[i]!]).length ≤ 1073741824 ∧ SlOk f.fVars bits.length sl[i]! := fun i z hi l1 l2 => by
        have ht := hsl _ (get_memL hi)
        have x1 := ht.v0; have x2 := ht.v1; have x3 := ht.f0; have x4 := ht.b0; have x5 := ht.l
        have hv := h.2 (sl[i]!.fVar.toNat) (by omega)
        have zb := bv_bd (sbt bits sl[i]!) (by rw [sbt_len ht]; have := ht.b1; omega)
        have w1 : i64.wrap (sl[i]!.fFirst + sl[i]!.fBits) = sl[i]!.fFirst + sl[i]!.fBits := wrap_id (by omega) (by omega)
        refine ⟨⟨x1, x2⟩, ?_, ?_, ?_, ?_, ?_, ht⟩
        · rw [w1]; omega
        · rw [w1, drop_take_sbt x3 x4]
        · exact wrap_id (by omega) (by omega)
        · simp; omega
        · simp; omega
      obtain ⟨i, v, q, hI, hS⟩ := loopJ (rnd := n31_0) sl.length (fun i (z : List Int × List Int) => ⟨bits, z.1, z.2, sl, (sl.length : Int), (i : Int), f⟩)
        (fun i z => z = (((sl.take i).filter (slK f.fVars)).map (slV f.fVars bits), ((sl.take i).filter (fun t => !slK f.fVars t)).map (slV f.fVars bits)) ∧ z.1.length ≤ i ∧ z.2.length ≤ i ∧ (sl.take i).all (slIs f.fVars bits) = true)
        (fun i z => slIs f.fVars bits sl[i]! = false) (fun i z hi ⟨hz, z1, z2, z3⟩ => by
          have i1 : (i : Int) < (sl.length : Int) := by omega
          have i2 : (0 : Int) ≤ (i : Int) := by omega
          have w2 : i64.wrap ((i : Int) + 1) = ((i + 1 : Nat) : Int) := by rw [wrap_id (by omega) (by omega)]; rfl
          obtain ⟨r1, r2, r3, r4, r5, r6, ht⟩ := rd i z hi (by omega) (by omega)
          have e : n31_0 ⟨bits, z.1, z.2, sl, (sl.length : Int), (i : Int), f⟩ = if slIs f.fVars bits sl[i]! = true then some (some (if slK f.fVars sl[i]! = true then ⟨bits, z.1 ++ [slV f.fVars bits sl[i]!], z.2, sl, (sl.length : Int), ((i + 1 : Nat) : Int), f⟩ else ⟨bits, z.1, z.2 ++ [slV f.fVars bits sl[i]!], sl, (sl.length : Int), ((i + 1 : Nat) : Int), f⟩)) else some none := by
            unfold n31_0
            simp only [i1, i2, decide_true, cond_true, Int.toNat_natCast, and_self, if_true, hi, r1, r2, r3, a31_1_eq bits hb' _ _ _ _ _ f _ _ ht, Int.lt_irrefl, decide_false, cond_false, r4, r5, r6, w2]
            unfold slIs slK
            by_cases hq : f.fVars[sl[i]!.fVar.toNat]!.fHigh < slV f.fVars bits sl[i]!
            · simp only [hq, decide_true, cond_true, Bool.not_true, Bool.false_eq_true, if_false]
            · by_cases hk : f.fVars[sl[i]!.fVar.toNat]!.fKind = 1
              · simp only [hq, hk, decide_true, decide_false, cond_true, cond_false, Bool.not_false, if_true]
              · simp only [hq, hk, decide_true, decide_false, cond_true, cond_false, Bool.not_false, if_true, Bool.false_eq_true, if_false]
          by_cases hs : slIs f.fVars bits sl[i]! = true
          · left
            rw [e, if_pos hs]
            by_cases hk : slK f.fVars sl[i]! = true
            · refine ⟨(z.1 ++ [slV f.fVars bits sl[i]!], z.2), by rw [if_pos hk], ?_, by simp; omega, by simp only; omega, ?_⟩
              · rw [take_succL hi, List.filter_append, List.filter_append, hz]
                have k1 : [sl[i]!].filter (slK f.fVars) = [sl[i]!] := by rw [List.filter_cons, if_pos hk]; rfl
                have k2 : [sl[i]!].filter (fun t => !slK f.fVars t) = [] := by rw [List.filter_cons, if_neg (by rw [hk]; simp)]; rfl
                rw [k1, k2, List.append_nil, List.map_append]; rfl
              · rw [take_succL hi, List.all_append, z3]; simp only [List.all_cons, List.all_nil, hs]; rfl
            · refine ⟨(z.1, z.2 ++ [slV f.fVars bits sl[i]!]), by rw [if_neg hk], ?_, by simp only; omega, by simp; omega, ?_⟩
              · rw [take_succL hi, List.filter_append, List.filter_append, hz]
                have k1 : [sl[i]!].filter (slK f.fVars) = [] := by rw [List.filter_cons, if_neg hk]; rfl
                have k2 : [sl[i]!].filter (fun t => !slK f.fVars t) = [sl[i]!] := by simp only [List.filter_cons, eq_false_of_ne_true hk, Bool.not_false, if_true, List.filter_nil]
                rw [k1, k2, List.append_nil, List.map_append]; rfl
              · rw [take_succL hi, List.all_append, z3]; simp only [List.all_cons, List.all_nil, hs]; rfl
          · right
            exact ⟨by rw [e, if_neg hs], by simpa using hs⟩) (fun z _ => by unfold n31_0; simp) (b := ([], [])) ⟨by simp, by simp, by simp, by simp⟩
      obtain ⟨hz, z1, z2, z3⟩ := hI
      have q : a31_0 ⟨bits, [], [], sl, (sl.length : Int), 0, f⟩ = some ⟨bits, v.1, v.2, sl, (sl.length : Int), (i : Int), f⟩ := q
      rw [q]
      rcases hS with rfl | ⟨hi, hs⟩
      · rw [List.take_length] at hz z3
        simp only [Int.lt_irrefl, decide_false, cond_false]
        unfold dec31
        rw [if_pos z3, hz]
      · have i1 : (i : Int) < (sl.length : Int) := by omega
        have i2 : (0 : Int) ≤ (i : Int) := by omega
        obtain ⟨r1, r2, r3, r4, r5, r6, ht⟩ := rd i v hi (by omega) (by omega)
        have hq : f.fVars[sl[i]!.fVar.toNat]!.fHigh < slV f.fVars bits sl[i]! := by unfold slIs at hs; simpa using hs
        have ha : ¬ sl.all (slIs f.fVars bits) = true := fun ha => by
          have := List.all_eq_true.1 ha _ (get_memL hi)
          rw [hs] at this; cases this
        unfold dec31
        rw [if_neg ha]
        simp only [i1, i2, decide_true, cond_true, Int.toNat_natCast, and_self, if_true, hi, r1, r2, r3, a31_1_eq bits hb' _ _ _ _ _ f _ _ ht, Int.lt_irrefl, decide_false, cond_false, r4, hq]
    · simp [hn]
  · simp [hc]
abbrev E123 : Type := List Int
def d123 : Td 0 E123 := .c [] [4] (.r 0 1 (ec 4 (qo 0) en) (sr 0 3 sn) (fun z => z.2.1) (fun x => (((), ()), (x, ()))) fun _ => rfl)
def A123 := (lc qn (lc (qi .i64) ln))
def m123 (a1 : Int) : Option E123 := if 0 ≤ a1 ∧ a1 ≤ 1073741824 then some [] else none
def Gv123 : Prop := HL Tryz.prog 123 A123 d123 (fun g => m123 g.2.1)
def e123 : Orc → Orc := eZ Tryz.prog 123 A123 d123 (fun g => m123 g.2.1)
theorem e123_okv (hv : Gv123) {F : Orc} (h : OrcG Tryz.prog F) : OrcG Tryz.prog (e123 F) := eZ_ok hv ⟨_, Tryz.func123, by kernel_rfl, by kernel_rfl⟩ (fun _ => by kernel_rfl) h
def Lay123_ren : Go.Shelf.Ren := ⟨fun | 4 => 123 | n => n, fun | 22 => 46 | 25 => 3 | n => n, fun | n => n⟩
theorem Lay123 : Go.Proofs.Lays8.n4 Tryz.prog Lay123_ren where
 mixed := by kernel_rfl
 f4 := ⟨Tryz.f123.name, by kernel_rfl, Tryz.func123.trans (congrArg some (by kernel_rfl))⟩
 t0 := Tryz.underlying0
 a0 := Tryz.isAgg0
 z0 := Tryz.sizeOf0
 v0 := Tryz.zeroValue0
 t3 := Tryz.underlying3
 a3 := Tryz.isAgg3
 z3 := Tryz.sizeOf3
 v3 := Tryz.zeroValue3
 t4 := Tryz.underlying4
 a4 := Tryz.isAgg4
 z4 := Tryz.sizeOf4
 v4 := Tryz.zeroValue4
 t9 := Tryz.underlying9
 a9 := Tryz.isAgg9
 z9 := Tryz.sizeOf9
 v9 := Tryz.zeroValue9
 t20 := Tryz.underlying20
 a20 := Tryz.isAgg20
 z20 := Tryz.sizeOf20
 v20 := Tryz.zeroValue20
 t22 := Tryz.underlying46
 a22 := Tryz.isAgg46
 z22 := Tryz.sizeOf46
 v22 := Tryz.zeroValue46
theorem heap_alloc (w : World) (o : Obj) : (w.alloc o).heap[w.heap.size]? = some o := by unfold World.alloc; simp
theorem info3 : ∃ i, Tryz.prog.info? 3 = some i ∧ i.zero = some (.int .i64 0) ∧ i.size = 1 ∧ i.bytes = 8 := by
 have h : (Tryz.prog.info? 3).map (fun i => (i.zero, i.size, i.bytes)) = some (some (.int .i64 0), 1, 8) := by kernel_rfl
 obtain ⟨i, h1, h2⟩ := Option.map_eq_some_iff.1 h
 simp only [Prod.mk.injEq] at h2
 exact ⟨i, h1, h2⟩
theorem gv123a (n : Int) (b : List Int) (hb : m123 n = some b) : FnY Tryz.prog 123 [.lit (.slice none 0 0), .n .i64 n] [] 0 (outY Tryz.prog 123 0 (d123.pat b)) := by
  unfold m123 at hb
  split at hb
  case isFalse => cases hb
  rename_i hn
  have hbl : b = [] := (Option.some.inj hb).symm
  subst hbl
  intro ρ
  have ho : outY Tryz.prog 123 0 (d123.pat []) = ⟨.own 0, [(0, .row 3 [])], 1⟩ := by kernel_rfl
  show Go.Iv.Fn Tryz.prog 123 [(AVq.lit (.slice none 0 0)).sub ρ, (AVq.n .i64 n).sub ρ] (IRs.res ρ []) _
  rw [ho]
  simp only [AVq.sub]
  intro w A vs hr hd hnd
  obtain ⟨hr1, hr2⟩ := hr
  obtain ⟨v, v2, rfl⟩ : ∃ v v2, vs = [v, v2] := by
    match vs, hr1 with
    | [v, v2], _ => exact ⟨v, v2, rfl⟩
  obtain rfl : v = .slice none 0 0 := (hr2 0 _ v rfl rfl).litEq
  obtain rfl : v2 = .int .i64 n := (hr2 1 _ v2 rfl rfl).litEq
  obtain ⟨m, rfl⟩ : ∃ m : Nat, n = (m : Int) := ⟨n.toNat, by omega⟩
  have hσ : IRs.res ρ ([] : IRs) = [] := rfl
  rw [hσ] at hd hnd ⊢
  have fin : ∀ (w' : World) (u : Value), RowIs w' u 3 1 0 [] → (∀ b, rblk u = some b → w.heap.size ≤ b) → Kp [] w w' → ∃ v_1 av σ', Ending.returned u = Ending.returned v_1 ∧
      (∃ ρ', Agr 0 ρ ρ' ∧ av = AVq.lit (ρ'.v 0) ∧ List.Perm σ' (IRs.res ρ' [(0, .row 3 [])])) ∧ Tr ⟨w, A, blks []⟩ (blks []) [] w σ' w' ∧ Rel (al ⟨w, A, blks []⟩ σ') w' av v_1 := fun w' u hrow hb hk => by
    refine ⟨u, .lit u, [Res.row u 3 []], rfl, ⟨⟨fun _ => u, ρ.b⟩, fun i hi => absurd hi (by omega), rfl, List.Perm.refl _⟩, ⟨⟨hk, ?_, ?_, ?_⟩, hk, fun x hx h => ⟨⟨h.1, fun hx2 => ?_⟩, by simp [blks]⟩⟩, .lit u⟩
    · intro r hr
      rw [List.mem_singleton.1 hr]
      exact ⟨[], hrow, fun i hi => (by cases hi), fun i hi => (by cases hi)⟩
    · unfold blks
      simp only [List.filterMap_cons, List.filterMap_nil]
      cases Res.blk (Res.row u 3 ([] : List (uni.Dat 3))) <;> simp
    · intro x hx
      obtain ⟨r, hr, hx⟩ := mem_blks.1 hx
      rw [List.mem_singleton.1 hr] at hx
      exact .inr (hb x hx)
    · obtain ⟨r, hr, hx2⟩ := mem_blks.1 hx2
      rw [List.mem_singleton.1 hr] at hx2
      have := hb x hx2
      omega
  by_cases h0 : m = 0
  · subst h0
    refine (Go.Proofs.Any8.slices_Grow_room Lay123 none 0 0 0 w (Nat.le_refl _) (by omega) (by omega) (Nat.le_refl _)).mono fun e w' he => ?_
    obtain ⟨rfl, rfl⟩ := he
    exact fin w' _ ⟨rfl, .inl ⟨none, rfl, rfl⟩⟩ (fun b hb => by cases hb) (Kp.refl _ _)
  · obtain ⟨i0, i1, i2, i3, i4⟩ := info3
    have hG := grownCap_ge w (0 + m) 0 3
    have hG2 := grownCap_le_maxLen w (0 + m) 0 3 (by have : maxLen = 9223372036854775807 := rfl; omega)
    refine (Go.Proofs.Any8.slices_Grow_grow Lay123 i0 _ i1 i2 (by omega) none 0 0 m [] w (Nat.le_refl _) (by omega) (by rw [i4]; omega) (by omega) (by simp) (fun _ => rfl) (fun a h => by cases h)).mono fun e w' he => ?_
    obtain ⟨rfl, rfl⟩ := he
    obtain ⟨G, hGe⟩ : ∃ G, grownCap w (0 + m) 0 (Lay123_ren.t 25) = G + 1 := ⟨grownCap w (0 + m) 0 3 - 1, by show grownCap w (0 + m) 0 3 = _; omega⟩
    rw [hGe]
    have hGm : G + 1 ≤ maxLen := by rw [← hGe]; exact hG2
    have hmG : m ≤ G + 1 := by rw [← hGe]; have : 0 + m ≤ grownCap w (0 + m) 0 3 := hG; show m ≤ grownCap w (0 + m) 0 3; omega
    refine fin _ _ ⟨rfl, .inr ⟨w.heap.size, G, _, rfl, heap_alloc w.drew _, Nat.zero_le _, hGm, ?_, by simp⟩⟩ (fun b hb => by cases hb; exact Nat.le_refl _) ⟨rfl, rfl, rfl, by show _ ≤ (w.drew.heap.push _).size; rw [Array.size_push]; exact Nat.le_succ _, fun k hk _ => ?_⟩
    · simp [Builtin.zeroCells, Value.cells]
      omega
    · show (w.heap.push _)[k]? = _
      rw [Array.getElem?_push, if_neg (by omega)]
theorem gv123 : Gv123 := fun g b hb => gv123a g.2.1 b hb
def F66 : Orc := (e123 or0)
theorem F66_ok : OrcG Tryz.prog F66 := (e123_okv gv123 or0_g)
structure L66_1 where
 t6 : List Int
 t25 : List (List Int)
 t26 : Int
 t27 : Int
def d66_1 : Td 0 L66_1 := .c [] [6, 25, 26, 27] (.r 0 1 (ec 6 (qo 0) (ec 25 (ql 46) (ec 26 (qi .i64) (ec 27 (qi .i64) en)))) (sr 0 3 sn) (fun z => ⟨z.2.1, z.1.2.1, z.1.2.2.1, z.1.2.2.2.1⟩) (fun x => (((), x.t25, x.t26, x.t27, ()), (x.t6, ()))) fun _ => rfl)
def n66_1 (p : L66_1) : Option (Option L66_1) :=
 bif decide (p.t27 < p.t26) then if (0 : Int) ≤ p.t27 ∧ p.t27 < (↑p.t25.length : Int) then if (p.t6 ++ p.t25[p.t27.toNat]!).length ≤ 1073741824 then some (some (L66_1.mk (p.t6 ++ p.t25[p.t27.toNat]!) p.t25 p.t26 (i64.wrap (p.t27 + 1)))) else none else none else some (none)
theorem q66_1 (p : L66_1) : execA Tryz.prog (F66) Tryz.f66.ntmps 300 (loopAt Tryz.f66 1) .no (Option L66_1) (d66_1.pat p) (kOn d66_1.rd) = n66_1 p := by kernel_rfl
def a66_1 : L66_1 → Option L66_1 := advG (n66_1)
structure L66_0 where
 t0 : List (List Int)
 t3 : Int
 t9 : List (List Int)
 t10 : Int
 t11 : Int
def d66_0 : Td 0 L66_0 := .c [] [0, 3, 9, 10, 11] (.r 0 0 (ec 0 (ql 46) (ec 3 (qi .i64) (ec 9 (ql 46) (ec 10 (qi .i64) (ec 11 (qi .i64) en))))) sn (fun z => ⟨z.1.1, z.1.2.1, z.1.2.2.1, z.1.2.2.2.1, z.1.2.2.2.2.1⟩) (fun x => ((x.t0, x.t3, x.t9, x.t10, x.t11, ()), (()))) fun _ => rfl)
def n66_0 (p : L66_0) : Option (Option L66_0) :=
 bif decide (p.t11 < p.t10) then if (0 : Int) ≤ p.t11 ∧ p.t11 < (↑p.t9.length : Int) then bif decide (i64.wrap (p.t3 + (↑(List.length p.t9[p.t11.toNat]!) : Int)) < 0) then none else some (some (L66_0.mk p.t0 (i64.wrap (p.t3 + (↑(List.length p.t9[p.t11.toNat]!) : Int))) p.t9 p.t10 (i64.wrap (p.t11 + 1)))) else none else some (none)
theorem q66_0 (p : L66_0) : execA Tryz.prog (F66) Tryz.f66.ntmps 300 (loopAt Tryz.f66 0) .no (Option L66_0) (d66_0.pat p) (kOn d66_0.rd) = n66_0 p := by kernel_rfl
def a66_0 : L66_0 → Option L66_0 := advG (n66_0)
abbrev E66 : Type := List Int
def d66 : Td 0 E66 := .c [] [2] (.r 0 1 (ec 2 (qo 0) en) (sr 0 3 sn) (fun z => z.2.1) (fun x => (((), ()), (x, ()))) fun _ => rfl)
def A66 := (lc (ql 46) ln)
def an66 : An := (.two .no (.two .no (.two (.two .no (d66_0.lp a66_0 .no)) (.two .no (.two (.two .no (d66_1.lp a66_1 .no)) .no)))))
theorem fa66 : FnAn Tryz.prog (F66) 0 300 66 (an66) := fnAn_of (l := [(loopAt Tryz.f66 0, (d66_0.lp a66_0 .no)), (loopAt Tryz.f66 1, (d66_1.lp a66_1 .no))]) Tryz.func66 (bodyOf_eq (by kernel_rfl)) (by kernel_rfl) (ob_cons ⟨d66_0.ok _, advG_ok (q66_0)⟩ (ob_cons ⟨d66_1.ok _, advG_ok (q66_1)⟩ ob_nil))
def m66 (a0 : List (List Int)) : Option E66 :=
 match a66_0 (L66_0.mk a0 (0) a0 (↑a0.length : Int) (0)) with | none => none | some r1 => bif decide (r1.t11 < r1.t10) then if (0 : Int) ≤ r1.t11 ∧ r1.t11 < (↑r1.t9.length : Int) then bif decide (i64.wrap (r1.t3 + (↑(List.length r1.t9[r1.t11.toNat]!) : Int)) < 0) then none else none else none else match m123 r1.t3 with | none => none | some r2 => match a66_1 (L66_1.mk r2 r1.t0 (↑r1.t0.length : Int) (0)) with | none => none | some r3 => bif decide (r3.t27 < r3.t26) then if (0 : Int) ≤ r3.t27 ∧ r3.t27 < (↑r3.t25.length : Int) then if (r3.t6 ++ r3.t25[r3.t27.toNat]!).length ≤ 1073741824 then none else none else none else some (r3.t6)
theorem c66 (a0 : List (List Int)) : callR Tryz.prog (F66) 300 (an66) 66 (A66.c (a0, ())) [] 0 d66.rd = m66 a0 := by kernel_rfl
def e66 : Orc → Orc := eL Tryz.prog 66 false A66 d66 (fun g => m66 g.1)
theorem e66_ok {F : Orc} (h : OrcG Tryz.prog F) : OrcG Tryz.prog (e66 F) := eL_ok (sc := scU) scU_ok (hl_of F66_ok fa66 (fun _ => by kernel_rfl) (fun _ => by kernel_rfl) fun g => c66 g.1) ⟨_, Tryz.func66, by kernel_rfl, by kernel_rfl⟩ (fun _ => by kernel_rfl) (fun _ => by kernel_rfl) h
def F27 : Orc := (e66 (e65 (e64 (e49 (e48 or0)))))
theorem F27_ok : OrcG Tryz.prog F27 := (e66_ok (e65_ok (e64_ok (e49_ok (e48_ok or0_g)))))
structure L27_1 where
 t11 : List Slot
 t14 : List Bool
 t16 : Int
 t18 : Int
 t51 : List Int
 t52 : Int
 t53 : Int
 b0 : Flat
 b3 : Slot
def d27_1 : Td 0 L27_1 := .c [] [3, 11, 14, 16, 17, 18, 51, 52, 53] (.r 0 5 (ec 3 (qp 0 0) (ec 11 (qo 1) (ec 14 (qo 2) (ec 16 (qi .i64) (ec 17 (qp 3 0) (ec 18 (qi .i64) (ec 51 (qo 4) (ec 52 (qi .i64) (ec 53 (qi .i64) en))))))))) (sb 0 26 (lg 26) (sr 1 38 (sr 2 4 (sb 3 38 (lg 38) (sr 4 3 sn))))) (fun z => ⟨z.2.2.1, z.2.2.2.1, z.1.2.2.2.1, z.1.2.2.2.2.2.1, z.2.2.2.2.2.1, z.1.2.2.2.2.2.2.2.1, z.1.2.2.2.2.2.2.2.2.1, z.2.1, z.2.2.2.2.1⟩) (fun x => (((), (), (), x.t16, (), x.t18, (), x.t52, x.t53, ()), (x.b0, x.t11, x.t14, x.b3, x.t51, ()))) fun _ => rfl)
def n27_1 (p : L27_1) : Option (Option L27_1) :=
 bif decide (0 ≤ p.t18) then if (0 : Int) ≤ p.b3.fVar ∧ p.b3.fVar < (↑p.b0.fVars.length : Int) then if (0 : Int) ≤ p.t18 then if (p.t14 ++ [decide (bAnd IntKind.i64 (bShr IntKind.i64 (i64.wrap (p.t16 - p.b0.fVars[p.b3.fVar.toNat]!.fLow)) p.t18) 1 = 1)]).length ≤ 1073741824 then some (some (L27_1.mk p.t11 (p.t14 ++ [decide (bAnd IntKind.i64 (bShr IntKind.i64 (i64.wrap (p.t16 - p.b0.fVars[p.b3.fVar.toNat]!.fLow)) p.t18) (1) = 1)]) p.t16 (i64.wrap (p.t18 - 1)) p.t51 p.t52 p.t53 p.b0 p.b3)) else none else none else none else some (none)
theorem q27_1 (p : L27_1) : execA Tryz.prog (F27) Tryz.f27.ntmps 300 (loopAt Tryz.f27 1) .no (Option L27_1) (d27_1.pat p) (kOn d27_1.rd) = n27_1 p := by kernel_rfl
def a27_1 : L27_1 → Option L27_1 := advG (n27_1)
structure L27_0 where
 t11 : List Slot
 t14 : List Bool
 t51 : List Int
 t52 : Int
 t53 : Int
 b0 : Flat
def d27_0 : Td 0 L27_0 := .c [] [3, 11, 14, 51, 52, 53] (.r 0 4 (ec 3 (qp 0 0) (ec 11 (qo 1) (ec 14 (qo 2) (ec 51 (qo 3) (ec 52 (qi .i64) (ec 53 (qi .i64) en)))))) (sb 0 26 (lg 26) (sr 1 38 (sr 2 4 (sr 3 3 sn)))) (fun z => ⟨z.2.2.1, z.2.2.2.1, z.2.2.2.2.1, z.1.2.2.2.2.1, z.1.2.2.2.2.2.1, z.2.1⟩) (fun x => (((), (), (), (), x.t52, x.t53, ()), (x.b0, x.t11, x.t14, x.t51, ()))) fun _ => rfl)
def n27_0 (p : L27_0) : Option (Option L27_0) :=
 bif decide (p.t53 < p.t52) then if (0 : Int) ≤ p.t53 ∧ p.t53 < (↑p.t51.length : Int) then if 3 = 3 ∧ p.t53.toNat < p.t51.length then if (0 : Int) ≤ p.t53 ∧ p.t53 < (↑p.t11.length : Int) then if 38 = 38 ∧ p.t53.toNat < p.t11.length then match a27_1 (L27_1.mk p.t11 p.t14 p.t51[p.t53.toNat]! (i64.wrap (p.t11[p.t53.toNat]!.fBits - 1)) p.t51 p.t52 p.t53 p.b0 p.t11[p.t53.toNat]!) with | none => none | some r1 => bif decide (0 ≤ r1.t18) then if (0 : Int) ≤ r1.b3.fVar ∧ r1.b3.fVar < (↑r1.b0.fVars.length : Int) then if (0 : Int) ≤ r1.t18 then if (r1.t14 ++ [decide (bAnd IntKind.i64 (bShr IntKind.i64 (i64.wrap (r1.t16 - r1.b0.fVars[r1.b3.fVar.toNat]!.fLow)) r1.t18) 1 = 1)]).length ≤ 1073741824 then none else none else none else none else some (some (L27_0.mk r1.t11 r1.t14 r1.t51 r1.t52 (i64.wrap (r1.t53 + 1)) r1.b0)) else none else none else none else none else some (none)
def g27_0 : An := (.two .no (.two .no (.two (.two .no (.two .no (.two .no (d27_1.lp a27_1 .no)))) .no)))
theorem q27_0 (p : L27_0) : execA Tryz.prog (F27) Tryz.f27.ntmps 300 (loopAt Tryz.f27 0) g27_0 (Option L27_0) (d27_0.pat p) (kOn d27_0.rd) = n27_0 p := by kernel_rfl
def a27_0 : L27_0 → Option L27_0 := advG (n27_0)
abbrev E27 : Type := (List Bool) × Int
def d27 : Td 0 E27 := .c [] [6, 7] (.t (TurnOk.s 6 [] 4) (.c [] [6, 7] (.r 0 1 (ec 6 (qo 0) (ec 7 (qi .i64) en)) (sr 0 4 sn) (fun z => (z.2.1, z.1.2.1)) (fun x => (((), x.2, ()), (x.1, ()))) fun _ => rfl)))
def A27 := (lc (qg 26) (lc (ql 3) (lc (ql 3) ln)))
def an27 : An := (.two .no (.two .no (.two .no (.two .no (.two .no (.two .no (.two (.two .no (d27_0.lp a27_0 g27_0)) .no)))))))
theorem fa27 : FnAn Tryz.prog (F27) 0 300 27 (an27) := fnAn_of (l := [(loopAt Tryz.f27 0, (d27_0.lp a27_0 g27_0)), (loopAt Tryz.f27 1, (d27_1.lp a27_1 .no))]) Tryz.func27 (bodyOf_eq (by kernel_rfl)) (by kernel_rfl) (ob_cons ⟨d27_0.ok _, advG_ok (q27_0)⟩ (ob_cons ⟨d27_1.ok _, advG_ok (q27_1)⟩ ob_nil))
def m27 (a0 : Flat) (a1 : List Int) (a2 : List Int) : Option E27 :=
 match m48 a0 with | none => none | some r2 => bif bif decide (r2 = 0) then false else true then some (([], r2)) else match m65 a0 (1) with | none => none | some r3 => match m64 a0 r3 a1 with | none => none | some r4 => bif bif decide (r4 = 0) then false else true then some (([], r4)) else match m65 a0 (3) with | none => none | some r5 => match m64 a0 r5 a2 with | none => none | some r6 => bif bif decide (r6 = 0) then false else true then some (([], r6)) else match m49 a0 with | none => none | some r7 => if (0 : Int) ≤ (0 : Int) ∧ (0 : Int) ≤ r7.snd.snd ∧ r7.snd.snd ≤ (1073741824 : Int) then match m66 [a1, a2] with | none => none | some r8 => match a27_0 (L27_0.mk r7.fst (List.replicate 0 false) r8 (↑(List.length r8) : Int) (0) a0) with | none => none | some r9 => bif decide (r9.t53 < r9.t52) then if (0 : Int) ≤ r9.t53 ∧ r9.t53 < (↑r9.t51.length : Int) then if 3 = 3 ∧ r9.t53.toNat < r9.t51.length then if (0 : Int) ≤ r9.t53 ∧ r9.t53 < (↑r9.t11.length : Int) then if 38 = 38 ∧ r9.t53.toNat < r9.t11.length then match a27_1 (L27_1.mk r9.t11 r9.t14 r9.t51[r9.t53.toNat]! (i64.wrap (r9.t11[r9.t53.toNat]!.fBits - 1)) r9.t51 r9.t52 r9.t53 r9.b0 r9.t11[r9.t53.toNat]!) with | none => none | some r10 => bif decide (0 ≤ r10.t18) then if (0 : Int) ≤ r10.b3.fVar ∧ r10.b3.fVar < (↑r10.b0.fVars.length : Int) then if (0 : Int) ≤ r10.t18 then if (r10.t14 ++ [decide (bAnd IntKind.i64 (bShr IntKind.i64 (i64.wrap (r10.t16 - r10.b0.fVars[r10.b3.fVar.toNat]!.fLow)) r10.t18) 1 = 1)]).length ≤ 1073741824 then none else none else none else none else none else none else none else none else none else some ((r9.t14, 0)) else none
theorem c27 (a0 : Flat) (a1 : List Int) (a2 : List Int) : callR Tryz.prog (F27) 300 (an27) 27 (A27.c (a0, a1, a2, ())) [] 0 d27.rd = m27 a0 a1 a2 := by kernel_rfl
def e27 : Orc → Orc := eL Tryz.prog 27 false A27 d27 (fun g => m27 g.1 g.2.1 g.2.2.1)
theorem e27_ok {F : Orc} (h : OrcG Tryz.prog F) : OrcG Tryz.prog (e27 F) := eL_ok (sc := scU) scU_ok (hl_of F27_ok fa27 (fun _ => by kernel_rfl) (fun _ => by kernel_rfl) fun g => c27 g.1 g.2.1 g.2.2.1) ⟨_, Tryz.func27, by kernel_rfl, by kernel_rfl⟩ (fun _ => by kernel_rfl) (fun _ => by kernel_rfl) h
theorem e27_skip {F : Orc} {f : Nat} (hne : Nat.beq f 27 = false) (h : PureF F f) : PureF (e27 F) f := orL_skip hne h
theorem w64b {n : Int} (h1 : -1000000000000 ≤ n) (h2 : n ≤ 1000000000000) : i64.wrap n = n := wrap_id (by omega) (by omega)
theorem m66_eq (a b : List Int) (ha : a.length ≤ 100000) (hb : b.length ≤ 100000) : m66 [a, b] = some (a ++ b) := by
 have e0 : a66_0 ⟨[a, b], 0, [a, b], 2, 0⟩ = some ⟨[a, b], (a.length : Int) + (b.length : Int), [a, b], 2, 2⟩ := by
  unfold a66_0
  have g0 : ([a, b] : List (List Int))[Int.toNat 0]! = a := rfl
  have g1 : ([a, b] : List (List Int))[Int.toNat 1]! = b := rfl
  have s1 : n66_0 ⟨[a, b], 0, [a, b], 2, 0⟩ = some (some ⟨[a, b], (a.length : Int), [a, b], 2, 1⟩) := by
   unfold n66_0
   have w1 : i64.wrap (0 + (a.length : Int)) = (a.length : Int) := by rw [Int.zero_add]; exact w64b (by omega) (by omega)
   have w2 : i64.wrap (0 + 1) = 1 := w64b (by omega) (by omega)
   have n1 : ¬ (a.length : Int) < 0 := by omega
   simp only [g0, w1, w2, n1, decide_false, cond_false]
   rfl
  have s2 : n66_0 ⟨[a, b], (a.length : Int), [a, b], 2, 1⟩ = some (some ⟨[a, b], (a.length : Int) + (b.length : Int), [a, b], 2, 2⟩) := by
   unfold n66_0
   have w1 : i64.wrap ((a.length : Int) + (b.length : Int)) = (a.length : Int) + (b.length : Int) := w64b (by omega) (by omega)
   have w2 : i64.wrap (1 + 1) = 2 := w64b (by omega) (by omega)
   have n1 : ¬ (a.length : Int) + (b.length : Int) < 0 := by omega
   simp only [g1, w1, w2, n1, decide_false, cond_false]
   rfl
  rw [advG_step s1, advG_step s2]
  exact advG_stop (fun r => by unfold n66_0; simp)
 have e1 : a66_1 ⟨[], [a, b], 2, 0⟩ = some ⟨a ++ b, [a, b], 2, 2⟩ := by
  unfold a66_1
  have g0 : ([a, b] : List (List Int))[Int.toNat 0]! = a := rfl
  have g1 : ([a, b] : List (List Int))[Int.toNat 1]! = b := rfl
  have s1 : n66_1 ⟨[], [a, b], 2, 0⟩ = some (some ⟨a, [a, b], 2, 1⟩) := by
   unfold n66_1
   have w2 : i64.wrap (0 + 1) = 1 := w64b (by omega) (by omega)
   have n1 : a.length ≤ 1073741824 := by omega
   simp only [g0, w2, List.nil_append, n1, if_true]
   rfl
  have s2 : n66_1 ⟨a, [a, b], 2, 1⟩ = some (some ⟨a ++ b, [a, b], 2, 2⟩) := by
   unfold n66_1
   have w2 : i64.wrap (1 + 1) = 2 := w64b (by omega) (by omega)
   have n1 : (a ++ b).length ≤ 1073741824 := by simp; omega
   simp only [g1, w2, n1, if_true]
   rfl
  rw [advG_step s1, advG_step s2]
  exact advG_stop (fun r => by unfold n66_1; simp)
 have e2 : m123 ((a.length : Int) + (b.length : Int)) = some [] := by unfold m123; rw [if_pos (by omega)]
 unfold m66
 have l2 : (([a, b] : List (List Int)).length : Int) = 2 := rfl
 simp only [l2, e0, e1, e2, Int.lt_irrefl, decide_false, cond_false]
def bitD (n : Int) (b : Int) : Bool := decide (bAnd IntKind.i64 (bShr IntKind.i64 n b) 1 = 1)
def encB (n : Int) : Nat → List Bool
 | 0 => []
 | k + 1 => bitD n (k : Int) :: encB n k
theorem encB_len (n : Int) : ∀ k, (encB n k).length = k
 | 0 => rfl
 | k + 1 => by simp [encB, encB_len n k]
theorem a27_1_eq (sl : List Slot) (v : Int) (l : List Int) (c d : Int) (f : Flat) (t : Slot) (h1 : 0 ≤ t.fVar) (h2 : t.fVar < (f.fVars.length : Int)) (n : Int) (hn : i64.wrap (v - f.fVars[t.fVar.toNat]!.fLow) = n) :
  ∀ (k : Nat) (o : List Bool), k ≤ 1000 → o.length + k ≤ 1000000 → a27_1 ⟨sl, o, v, (k : Int) - 1, l, c, d, f, t⟩ = some ⟨sl, o ++ encB n k, v, -1, l, c, d, f, t⟩
 | 0, o, _, _ => by
  rw [show ((0 : Nat) : Int) - 1 = -1 from rfl]
  unfold a27_1
  rw [advG_stop (fun r => by unfold n27_1; simp)]
  simp [encB]
 | k + 1, o, hk, ho => by
  have hk2 : (((k + 1 : Nat) : Int) - 1) = (k : Int) := by omega
  rw [hk2]
  have h3 : (0 : Int) ≤ (k : Int) := by omega
  have h4 : (o ++ [bitD n (k : Int)]).length ≤ 1073741824 := by simp; omega
  have w : i64.wrap ((k : Int) - 1) = (k : Int) - 1 := w64b (by omega) (by omega)
  have e : n27_1 ⟨sl, o, v, (k : Int), l, c, d, f, t⟩ = some (some ⟨sl, o ++ [bitD n (k : Int)], v, (k : Int) - 1, l, c, d, f, t⟩) := by
   unfold n27_1
   unfold bitD at h4 ⊢
   simp only [hn, h1, h2, h3, h4, w, decide_true, cond_true, and_self, if_true]
  have ih := a27_1_eq sl v l c d f t h1 h2 n hn k (o ++ [bitD n (k : Int)]) (by omega) (by simp; omega)
  unfold a27_1 at ih ⊢
  rw [advG_step e, ih]
  simp [encB]
def encS (vs : List GVar) (sl : List Slot) (l : List Int) (n : Nat) : List Bool := ((List.range n).map fun j => encB (l[j]! - vs[sl[j]!.fVar.toNat]!.fLow) sl[j]!.fBits.toNat).flatten
theorem encS_succ (vs : List GVar) (sl : List Slot) (l : List Int) (n : Nat) : encS vs sl l (n + 1) = encS vs sl l n ++ encB (l[n]! - vs[sl[n]!.fVar.toNat]!.fLow) sl[n]!.fBits.toNat := by
 unfold encS; simp [List.range_succ]
theorem a27_0_eq (f : Flat) (h : VOk f.fVars) (n : Int) (sl : List Slot) (hs : ∀ t ∈ sl, SlOk f.fVars n t) (l : List Int) (hl : l.length ≤ sl.length) (hsl : sl.length ≤ 2000) (hv : ∀ x ∈ l, -1000000000 ≤ x ∧ x ≤ 1000000000) :
    a27_0 ⟨sl, [], l, (l.length : Int), 0, f⟩ = some ⟨sl, encS f.fVars sl l l.length, l, (l.length : Int), (l.length : Int), f⟩ := by
  obtain ⟨v, q, hz⟩ := loopI (rnd := n27_0) l.length (fun i (z : List Bool) => ⟨sl, z, l, (l.length : Int), (i : Int), f⟩) (fun i z => z = encS f.fVars sl l i ∧ z.length ≤ 24 * i) (fun i z hi ⟨hz, z1⟩ => by
    have i1 : (i : Int) < (l.length : Int) := by omega
    have i2 : (0 : Int) ≤ (i : Int) := by omega
    have i3 : (i : Int) < (sl.length : Int) := by omega
    have i4 : i < sl.length := by omega
    have w2 : i64.wrap ((i : Int) + 1) = ((i + 1 : Nat) : Int) := by rw [wrap_id (by omega) (by omega)]; rfl
    have ht := hs _ (get_memL i4)
    have x1 := ht.v0; have x2 := ht.v1; have x3 := ht.b0; have x4 := ht.b1
    have hv1 := h.2 (sl[i]!.fVar.toNat) (by omega)
    have hv2 := hv _ (get_memL hi)
    obtain ⟨k, hk⟩ : ∃ k : Nat, sl[i]!.fBits = (k : Int) := ⟨sl[i]!.fBits.toNat, by omega⟩
    have w3 : i64.wrap (sl[i]!.fBits - 1) = (k : Int) - 1 := by rw [hk]; exact w64b (by omega) (by omega)
    have w4 : i64.wrap (l[i]! - f.fVars[sl[i]!.fVar.toNat]!.fLow) = l[i]! - f.fVars[sl[i]!.fVar.toNat]!.fLow := w64b (by omega) (by omega)
    refine ⟨z ++ encB (l[i]! - f.fVars[sl[i]!.fVar.toNat]!.fLow) k, ?_, ?_, ?_⟩
    · unfold n27_0
      have n1 : ¬ (0 : Int) ≤ -1 := by omega
      simp only [i1, i2, i3, i4, decide_true, cond_true, Int.toNat_natCast, and_self, if_true, hi, w3, a27_1_eq sl _ l _ _ f _ x1 x2 _ w4 k z (by omega) (by omega), n1, decide_false, cond_false, w2]
    · rw [encS_succ, ← hz, hk]; rfl
    · rw [List.length_append, encB_len]; omega) (fun z _ => by unfold n27_0; simp) (b := []) ⟨rfl, by simp⟩
  rw [hz.1] at q
  exact q
def fitC (vs : List GVar) (ids l : List Int) : Int := if ids.length ≠ l.length then 2 else if (List.range ids.length).all (fun j => decide (vs[ids[j]!.toNat]!.fLow ≤ l[j]! ∧ l[j]! ≤ vs[ids[j]!.toNat]!.fHigh)) then 0 else 3
theorem m64_eq (f : Flat) (ids l : List Int) (hid : ∀ x ∈ ids, 0 ≤ x ∧ x < (f.fVars.length : Int)) (hn : ids.length ≤ 1000) : m64 f ids l = some (fitC f.fVars ids l) := by
  unfold m64
  by_cases hl : ids.length = l.length
  · have hl2 : (ids.length : Int) = (l.length : Int) := by omega
    let P : Nat → Bool := fun j => decide (f.fVars[ids[j]!.toNat]!.fLow ≤ l[j]! ∧ l[j]! ≤ f.fVars[ids[j]!.toNat]!.fHigh)
    obtain ⟨i, v, q, hI, hS⟩ := loopJ (rnd := n64_0) ids.length (fun i (_ : Unit) => ⟨l, ids, (ids.length : Int), (i : Int), f⟩) (fun i _ => (List.range i).all P = true) (fun i _ => P i = false) (fun i z hi hI => by
      have i1 : (i : Int) < (ids.length : Int) := by omega
      have i2 : (0 : Int) ≤ (i : Int) := by omega
      have i3 : (i : Int) < (l.length : Int) := by omega
      have w2 : i64.wrap ((i : Int) + 1) = ((i + 1 : Nat) : Int) := by rw [wrap_id (by omega) (by omega)]; rfl
      obtain ⟨x1, x2⟩ := hid _ (get_memL hi)
      by_cases hp : P i = true
      · left
        refine ⟨(), ?_, by rw [List.range_succ, List.all_append, hI]; simp only [List.all_cons, List.all_nil, hp]; rfl⟩
        have hp := of_decide_eq_true hp
        have y1 : ¬ l[i]! < f.fVars[ids[i]!.toNat]!.fLow := by omega
        have y2 : ¬ f.fVars[ids[i]!.toNat]!.fHigh < l[i]! := by omega
        unfold n64_0
        simp only [i1, i2, i3, x1, x2, y1, y2, Int.toNat_natCast, decide_true, decide_false, cond_true, cond_false, and_self, if_true, w2]
      · right
        have hp : P i = false := eq_false_of_ne_true hp
        refine ⟨?_, hp⟩
        have hp := of_decide_eq_false hp
        unfold n64_0
        by_cases y1 : l[i]! < f.fVars[ids[i]!.toNat]!.fLow
        · simp only [i1, i2, i3, x1, x2, y1, Int.toNat_natCast, decide_true, decide_false, cond_true, cond_false, and_self, if_true]
        · have y2 : f.fVars[ids[i]!.toNat]!.fHigh < l[i]! := by omega
          simp only [i1, i2, i3, x1, x2, y1, y2, Int.toNat_natCast, decide_true, decide_false, cond_true, cond_false, and_self, if_true]) (fun z _ => by unfold n64_0; simp) (b := ()) (by simp)
    have q : a64_0 ⟨l, ids, (ids.length : Int), 0, f⟩ = some ⟨l, ids, (ids.length : Int), (i : Int), f⟩ := q
    unfold fitC
    rw [q, if_neg (by simp [hl])]
    rcases hS with rfl | ⟨hi, hs⟩
    · rw [if_pos hI]
      simp only [hl2, decide_true, cond_true, cond_false, Int.lt_irrefl, decide_false]
    · rw [if_neg (fun ha => by have := List.all_eq_true.1 ha i (List.mem_range.2 hi); exact absurd (this.symm.trans hs) (by decide))]
      have i1 : (i : Int) < (l.length : Int) := by omega
      have i1' : (i : Int) < (ids.length : Int) := by omega
      have i2 : (0 : Int) ≤ (i : Int) := by omega
      obtain ⟨x1, x2⟩ := hid _ (get_memL hi)
      have hp := of_decide_eq_false hs
      by_cases y1 : l[i]! < f.fVars[ids[i]!.toNat]!.fLow
      · simp only [hl2, i1, i2, x1, x2, y1, Int.toNat_natCast, decide_true, decide_false, cond_true, cond_false, and_self, if_true]
      · have y2 : f.fVars[ids[i]!.toNat]!.fHigh < l[i]! := by omega
        simp only [hl2, i1, i2, x1, x2, y1, y2, Int.toNat_natCast, decide_true, decide_false, cond_true, cond_false, and_self, if_true]
  · have hl2 : ¬ (ids.length : Int) = (l.length : Int) := by omega
    unfold fitC
    rw [if_pos (by simp [hl])]
    simp only [hl2, decide_false, cond_false, cond_true]
theorem slMk_len (vs : List GVar) : ∀ (ids : List Int) (o : Int), (slMk vs o ids).length = ids.length
 | [], _ => rfl
 | i :: l, o => by simp [slMk, slMk_len vs l]
theorem slotsP_len (vs : List GVar) : (slotsP vs).1.length = (idK vs 1).length + (idK vs 3).length := by
 rw [slotsP_eq]; simp [slMk_len]
theorem idK_bd {vs : List GVar} (k : Int) : ∀ x ∈ idK vs k, 0 ≤ x ∧ x < (vs.length : Int) := fun x hx => ⟨(idN_mem hx).1, (idN_mem hx).2.1⟩
theorem idK_len (vs : List GVar) (k : Int) : (idK vs k).length ≤ vs.length := idN_len _ _ _
theorem fitC_zero {vs : List GVar} (h : VOk vs) {ids l : List Int} (hid : ∀ x ∈ ids, 0 ≤ x ∧ x < (vs.length : Int)) (hf : fitC vs ids l = 0) : ids.length = l.length ∧ (∀ j, j < l.length → vs[ids[j]!.toNat]!.fLow ≤ l[j]! ∧ l[j]! ≤ vs[ids[j]!.toNat]!.fHigh) ∧ ∀ x ∈ l, -1000000000 ≤ x ∧ x ≤ 1000000000 := by
  unfold fitC at hf
  by_cases hl : ids.length = l.length
  · rw [if_neg (by simp [hl])] at hf
    split at hf
    case isFalse => omega
    rename_i ha
    have hj : ∀ j, j < l.length → vs[ids[j]!.toNat]!.fLow ≤ l[j]! ∧ l[j]! ≤ vs[ids[j]!.toNat]!.fHigh := fun j hj => of_decide_eq_true (List.all_eq_true.1 ha j (List.mem_range.2 (by omega)))
    refine ⟨hl, hj, fun x hx => ?_⟩
    obtain ⟨j, hj2, rfl⟩ := List.getElem_of_mem hx
    obtain ⟨y1, y2⟩ := hj j hj2
    rw [getElem!_pos l j hj2] at y1 y2
    obtain ⟨x1, x2⟩ := hid _ (get_memL (i := j) (by omega))
    have := h.2 (ids[j]!.toNat) (by omega)
    omega
  · rw [if_pos (by simp [hl])] at hf; omega
theorem m27_eq (f : Flat) (hf : few f 20 200 = true) (a b : List Int) (ha : a.length ≤ 1000) (hb : b.length ≤ 1000) :
    m27 f a b = some (if chk f ≠ 0 then ([], chk f) else if fitC f.fVars (idK f.fVars 1) a ≠ 0 then ([], fitC f.fVars (idK f.fVars 1) a) else if fitC f.fVars (idK f.fVars 3) b ≠ 0 then ([], fitC f.fVars (idK f.fVars 3) b) else (encS f.fVars (slotsP f.fVars).1 (a ++ b) (a ++ b).length, 0)) := by
  obtain ⟨h1, h2, h3⟩ := few_20 hf
  unfold m27
  rw [m48_eq f h1 h2 (by omega)]
  by_cases hc : chk f = 0
  · have h := vok_of hf hc
    obtain ⟨p1, p2, _, _, p3, p4⟩ := m49_eq f h
    have l1 := idK_len f.fVars 1
    have l3 := idK_len f.fVars 3
    simp only [hc, p1, m65_eq f (by omega), m64_eq f _ a (idK_bd 1) (by omega), m64_eq f _ b (idK_bd 3) (by omega), decide_true, cond_true, cond_false, ne_eq, not_true, if_false]
    by_cases f1 : fitC f.fVars (idK f.fVars 1) a = 0
    · by_cases f3 : fitC f.fVars (idK f.fVars 3) b = 0
      · obtain ⟨q1, _, q2⟩ := fitC_zero h (idK_bd 1) f1
        obtain ⟨q3, _, q4⟩ := fitC_zero h (idK_bd 3) f3
        have hl : (a ++ b).length ≤ (slotsP f.fVars).1.length := by rw [slotsP_len]; simp; omega
        have e := a27_0_eq f h _ _ (slotsP_ok h) (a ++ b) hl p2 (fun x hx => (List.mem_append.1 hx).elim (q2 x) (q4 x))
        have c1 : (0 : Int) ≤ 0 ∧ 0 ≤ (slotsP f.fVars).2.2 ∧ (slotsP f.fVars).2.2 ≤ 1073741824 := ⟨Int.le_refl _, p3, by omega⟩
        simp only [f1, f3, m66_eq a b (by omega) (by omega), c1, if_true, e, List.replicate_zero, Int.lt_irrefl, decide_true, decide_false, cond_true, cond_false, not_true, if_false, and_self]
      · simp only [f1, f3, decide_true, decide_false, cond_true, cond_false, not_true, not_false_eq_true, if_true, if_false]
    · simp only [f1, decide_false, cond_true, cond_false, not_false_eq_true, if_true]
  · simp [hc]
theorem m32_same (l : List Int) (hl : l.length ≤ 1000000) : m32 l l = some true := by
 obtain ⟨v, q, _⟩ := loopI (rnd := n32_0) l.length (fun i (_ : Unit) => ⟨l, l, (l.length : Int), (i : Int)⟩) (fun _ _ => True) (fun i z hi _ => by
  have i1 : (i : Int) < (l.length : Int) := by omega
  refine ⟨(), ?_, trivial⟩
  unfold n32_0
  have e : i64.wrap ((i : Int) + 1) = ((i + 1 : Nat) : Int) := by rw [wrap_id (by omega) (by omega)]; rfl
  simp only [i1, decide_true, cond_true, cond_false, e, Int.natCast_nonneg, and_self, if_true]) (fun z _ => by unfold n32_0; simp) (b := ()) trivial
 unfold m32
 have e : a32_0 ⟨l, l, (l.length : Int), 0⟩ = some ⟨l, l, (l.length : Int), (l.length : Int)⟩ := q
 simp [e]
theorem m29_same (l : List Bool) (hl : l.length ≤ 1000000) : m29 l l = some true := by
 obtain ⟨v, q, _⟩ := loopI (rnd := n29_0) l.length (fun i (_ : Unit) => ⟨l, l, (l.length : Int), (i : Int)⟩) (fun _ _ => True) (fun i z hi _ => by
  have i1 : (i : Int) < (l.length : Int) := by omega
  refine ⟨(), ?_, trivial⟩
  unfold n29_0
  have e : i64.wrap ((i : Int) + 1) = ((i + 1 : Nat) : Int) := by rw [wrap_id (by omega) (by omega)]; rfl
  simp only [i1, decide_true, cond_true, cond_false, e, Int.natCast_nonneg, and_self, if_true, beq_self_eq_true]) (fun z _ => by unfold n29_0; simp) (b := ()) trivial
 unfold m29
 have e : a29_0 ⟨l, l, (l.length : Int), 0⟩ = some ⟨l, l, (l.length : Int), (l.length : Int)⟩ := q
 simp [e]
theorem shrI {x : Int} (k : Nat) (hk : k ≤ 64) : bShr IntKind.i64 x (k : Int) = x / 2 ^ k := by
 unfold bShr
 rw [show min ((k : Int)).toNat IntKind.i64.bits = k from by simp only [Int.toNat_natCast, IntKind.bits]; omega]
 exact Int.fdiv_eq_ediv_of_nonneg _ (Int.le_of_lt (Int.pow_pos (by omega)))
theorem and1 {x : Int} (h1 : 0 ≤ x) (h2 : x < 9223372036854775808) : bAnd IntKind.i64 x 1 = x % 2 := by
 unfold bAnd
 have e : (BitVec.ofInt IntKind.i64.bits x &&& BitVec.ofInt IntKind.i64.bits 1).toNat = x.toNat % 2 := by
  rw [BitVec.toNat_and]
  simp only [IntKind.bits]
  rw [show (BitVec.ofInt 64 1).toNat = 1 from rfl, Nat.and_one_is_mod]
  rw [BitVec.toNat_ofInt]
  omega
 rw [e]
 rw [wrap_id (by omega) (by omega)]
 omega
theorem bitD_eq {n : Int} (k : Nat) (hk : k ≤ 64) (h1 : 0 ≤ n) (h2 : n < 9223372036854775808) : bitD n (k : Int) = decide (n / 2 ^ k % 2 = 1) := by
 unfold bitD
 have hp : (0 : Int) < 2 ^ k := Int.pow_pos (by omega)
 have h3 : 0 ≤ n / 2 ^ k := Int.ediv_nonneg h1 (Int.le_of_lt hp)
 have h4 : n / 2 ^ k ≤ n := Int.ediv_le_self _ h1
 rw [shrI k hk, and1 h3 (by omega)]
theorem encB_low {b : Int} (hb : b = 0 ∨ b = 1) (m : Nat) (hm : m ≤ 30) (n : Int) (h1 : 0 ≤ n) (h2 : n < 1073741824) : ∀ k, k ≤ m → encB (b * 2 ^ m + n) k = encB n k
 | 0, _ => rfl
 | k + 1, hk => by
  have hp : (0 : Int) < 2 ^ k := Int.pow_pos (by omega)
  have hm2 : (2 : Int) ^ m ≤ 2 ^ 30 := by exact_mod_cast Nat.pow_le_pow_right (n := 2) (by omega) hm
  have hm0 : (0 : Int) < 2 ^ m := Int.pow_pos (by omega)
  have hbm : 0 ≤ b * 2 ^ m ∧ b * 2 ^ m ≤ 1073741824 := by rcases hb with rfl | rfl <;> omega
  simp only [encB]
  rw [encB_low hb m hm n h1 h2 k (by omega), bitD_eq k (by omega) (by omega) (by omega), bitD_eq k (by omega) h1 (by omega)]
  have e : b * 2 ^ m + n = n + (b * 2 ^ (m - 1 - k) * 2) * 2 ^ k := by
   have : (2 : Int) ^ m = 2 ^ (m - 1 - k) * 2 * 2 ^ k := by
    rw [Int.mul_assoc, Int.mul_comm 2, ← Int.pow_succ, ← Int.pow_add]; congr 1; omega
   rw [this, Int.add_comm, Int.mul_assoc b, ← Int.mul_assoc b]
  rw [e, Int.add_mul_ediv_right _ _ (by omega)]
  congr 3
  omega
theorem bv_cons (b : Bool) (l : List Bool) : bv (b :: l) = (if b then 1 else 0) * 2 ^ l.length + bv l := by
 have key : ∀ (l : List Bool) (a : Int), l.foldl bvF a = a * 2 ^ l.length + bv l := by
  intro l
  induction l with
  | nil => intro a; simp [bv]
  | cons c l ih =>
   intro a
   have e : bv (c :: l) = l.foldl bvF (bvF 0 c) := rfl
   rw [List.foldl_cons, ih, e, ih, List.length_cons, Int.pow_succ]
   unfold bvF
   rw [← Int.add_assoc]
   congr 1
   rw [Int.add_mul, Int.add_mul, Int.mul_comm ((2 : Int) ^ l.length) 2, ← Int.mul_assoc, Int.mul_comm 2 a]
   omega
 have e : bv (b :: l) = l.foldl bvF (bvF 0 b) := rfl
 rw [e, key]
 unfold bvF; simp
theorem encB_bv : ∀ (l : List Bool), l.length ≤ 24 → encB (bv l) l.length = l
 | [], _ => rfl
 | b :: l, h => by
  simp only [List.length_cons] at h
  have hb := bv_bdF l 0 (Int.le_refl _)
  have hb0 : 0 ≤ bv l := hb.1
  have hb1 : bv l < 2 ^ l.length := by unfold bv; simpa using hb.2
  have hb2 := (bv_bd l (by omega)).2
  have hp : (0 : Int) < 2 ^ l.length := Int.pow_pos (by omega)
  have hp2 : (2 : Int) ^ l.length ≤ 2 ^ 24 := by exact_mod_cast Nat.pow_le_pow_right (n := 2) (by omega) (show l.length ≤ 24 by omega)
  have hbb : ((if b then 1 else 0 : Int) = 0) ∨ ((if b then 1 else 0 : Int) = 1) := by cases b <;> simp
  rw [List.length_cons, encB, bv_cons, encB_low hbb l.length (by omega) _ hb0 (by omega) l.length (Nat.le_refl _), encB_bv l (by omega)]
  congr 1
  rw [bitD_eq _ (by omega) (by rcases hbb with e | e <;> rw [e] <;> omega) (by rcases hbb with e | e <;> rw [e] <;> omega)]
  rw [Int.add_comm, Int.add_mul_ediv_right _ _ (by omega), Int.ediv_eq_zero_of_lt hb0 hb1]
  cases b <;> simp
theorem flat_mk {vs : List GVar} (h : VOk vs) (bits : List Bool) : ∀ (ids : List Int) (o : Int), 0 ≤ o → (∀ x ∈ ids, 0 ≤ x ∧ x < (vs.length : Int)) → ((slMk vs o ids).map (sbt bits)).flatten = (bits.drop o.toNat).take (slTot vs ids).toNat
 | [], _, _, _ => by simp [slMk, slTot]
 | i :: l, o, ho, hi => by
  have h1 := hi i (by simp)
  have h2 := vbl_bd h h1.1 h1.2
  have hl : ∀ x ∈ l, 0 ≤ x ∧ x < (vs.length : Int) := fun x hx => hi x (by simp [hx])
  have h3 := slTot_nn h l hl
  have ih := flat_mk h bits l (o + vbl vs[i.toNat]!) (by omega) hl
  simp only [slMk, slTot, List.map_cons, List.flatten_cons, ih]
  unfold sbt
  simp only
  rw [show (o + vbl vs[i.toNat]!).toNat = o.toNat + (vbl vs[i.toNat]!).toNat by omega, show (vbl vs[i.toNat]! + slTot vs l).toNat = (vbl vs[i.toNat]!).toNat + (slTot vs l).toNat by omega, List.take_add, List.drop_drop]
theorem flat_slots {vs : List GVar} (h : VOk vs) (bits : List Bool) (hb : (bits.length : Int) = (slotsP vs).2.2) : ((slotsP vs).1.map (sbt bits)).flatten = bits := by
 rw [slotsP_eq] at hb ⊢
 have t1 := slTot_nn h _ (idK_bd (vs := vs) 1)
 have t3 := slTot_nn h _ (idK_bd (vs := vs) 3)
 simp only at hb ⊢
 rw [List.map_append, List.flatten_append, flat_mk h bits _ 0 (Int.le_refl _) (idK_bd 1), flat_mk h bits _ _ t1 (idK_bd 3)]
 rw [show (0 : Int).toNat = 0 from rfl, List.drop_zero, ← List.take_add, List.take_of_length_le (by omega)]
theorem encS_map {vs : List GVar} (bits : List Bool) (sl : List Slot) (hs : ∀ t ∈ sl, SlOk vs bits.length t) : encS vs sl (sl.map (slV vs bits)) sl.length = (sl.map (sbt bits)).flatten := by
  unfold encS
  congr 1
  apply List.ext_getElem
  · simp
  · intro j h1 h2
    have hj : j < sl.length := by simpa using h1
    have ht := hs _ (List.getElem_mem hj)
    rw [List.getElem_map, List.getElem_map, List.getElem_range, getElem!_pos (sl.map (slV vs bits)) j (by simpa using hj), List.getElem_map, getElem!_pos sl j hj]
    unfold slV
    rw [show ∀ a b : Int, a + b - a = b by intros; omega, ← sbt_len ht]
    exact encB_bv _ (by rw [sbt_len ht]; have := ht.b1; omega)
theorem slMk_get (vs : List GVar) : ∀ (ids : List Int) (o : Int) (j : Nat), j < ids.length → (slMk vs o ids)[j]!.fVar = ids[j]!
 | [], _, _, h => by simp at h
 | i :: l, o, 0, _ => by simp [slMk]
 | i :: l, o, j + 1, h => by
  have := slMk_get vs l (o + vbl vs[i.toNat]!) j (by simpa using h)
  simpa [slMk] using this
theorem fit_mk {vs : List GVar} (bits : List Bool) (ids : List Int) (o : Int) (hs : ∀ t ∈ slMk vs o ids, SlOk vs bits.length t) (hi : ∀ t ∈ slMk vs o ids, slIs vs bits t = true) : fitC vs ids ((slMk vs o ids).map (slV vs bits)) = 0 := by
 unfold fitC
 rw [if_neg (by simp [slMk_len]), if_pos]
 apply List.all_eq_true.2
 intro j hj
 have hj := List.mem_range.1 hj
 have hj2 : j < (slMk vs o ids).length := by rw [slMk_len]; exact hj
 have hm := get_memL hj2
 have h1 := hs _ hm
 have h2 := hi _ hm
 have e1 : ((slMk vs o ids).map (slV vs bits))[j]! = slV vs bits (slMk vs o ids)[j]! := by
  rw [getElem!_pos _ j (by simpa using hj2), List.getElem_map, getElem!_pos _ j hj2]
 have hb := bv_bd (sbt bits (slMk vs o ids)[j]!) (by rw [sbt_len h1]; have := h1.b1; omega)
 rw [e1, ← slMk_get vs ids o j hj]
 unfold slIs at h2
 have h2 : ¬ vs[(slMk vs o ids)[j]!.fVar.toNat]!.fHigh < slV vs bits (slMk vs o ids)[j]! := by simpa only [Bool.not_eq_true', decide_eq_false_iff_not] using h2
 apply decide_eq_true
 have h3 : slV vs bits (slMk vs o ids)[j]! = vs[(slMk vs o ids)[j]!.fVar.toNat]!.fLow + bv (sbt bits (slMk vs o ids)[j]!) := rfl
 omega
theorem kind_mk {vs : List GVar} (h : VOk vs) (k : Int) (o : Int) : ∀ t ∈ slMk vs o (idK vs k), slK vs t = decide (k = 1) := fun t ht => by
  have := (slMk_ok h (idK vs k) (max o 0) (max o 0 + slTot vs (idK vs k)) (idK_bd k) (by omega) (Int.le_refl _))
  have hm : ∀ (ids : List Int) (o : Int), ∀ t ∈ slMk vs o ids, t.fVar ∈ ids := by
    intro ids
    induction ids with
    | nil => intro o t ht; simp [slMk] at ht
    | cons i l ih =>
      intro o t ht
      rcases List.mem_cons.1 ht with rfl | ht
      · simp
      · simp [ih _ t ht]
  unfold slK
  rw [(idN_mem (hm _ _ t ht)).2.2]
theorem law7 (f : Flat) (hf : few f 20 200 = true) (bits : List Bool) (hb : bits.length ≤ 60) :
    ∃ r3, m31 f bits = some r3 ∧ m15 f = some (chk f) ∧ (chk f ≠ 0 → r3 = ([], [], chk f)) ∧ (chk f = 0 → ∃ r5, m16 f = some r5 ∧ (r5.2.1 ≠ (bits.length : Int) → r3 = ([], [], 2)) ∧
      (r5.2.1 = (bits.length : Int) → ∃ r7, m19 f bits = some r7 ∧ (r7.2 = false → r3 = ([], [], 3)) ∧ (r7.2 = true → r3.2.2 = 0 ∧ r3.1 ++ r3.2.1 = r7.1 ∧ r7.1.length ≤ 2000 ∧ m32 (r3.1 ++ r3.2.1) r7.1 = some true ∧ m27 f r3.1 r3.2.1 = some (bits, 0) ∧ m29 bits bits = some true))) := by
  obtain ⟨h1, h2, h3⟩ := few_20 hf
  refine ⟨_, m31_eq f hf bits (by omega), m15_eq f h1 h2 (by omega), fun hc => by simp [hc], fun hc => ?_⟩
  have h := vok_of hf hc
  have hso := slotsP_ok h
  obtain ⟨_, p2, _⟩ := m49_eq f h
  refine ⟨_, m16_eq f h, fun hn => ?_, fun hn => ?_⟩
  · simp only at hn
    simp [hc, Ne.symm hn]
  · simp only at hn
    have hso' : ∀ t ∈ (slotsP f.fVars).1, SlOk f.fVars bits.length t := by rw [← hn]; exact hso
    refine ⟨_, m19_eq f h bits (by omega) hso', fun ha => ?_, fun ha => ?_⟩
    · simp only at ha
      unfold dec31
      simp [hc, hn, ha]
    · simp only at ha
      have e : (if chk f ≠ 0 then ([], [], chk f) else if (bits.length : Int) ≠ (slotsP f.fVars).2.2 then ([], [], 2) else dec31 f.fVars bits (slotsP f.fVars).1 : E31) = (((slotsP f.fVars).1.filter (slK f.fVars)).map (slV f.fVars bits), ((slotsP f.fVars).1.filter (fun t => !slK f.fVars t)).map (slV f.fVars bits), 0) := by
        unfold dec31
        rw [if_neg (by simp [hc]), if_neg (by simp [hn]), if_pos ha]
      rw [e]
      have sq := slotsP_eq f.fVars
      have s1 : (slotsP f.fVars).1 = slMk f.fVars 0 (idK f.fVars 1) ++ slMk f.fVars (slTot f.fVars (idK f.fVars 1)) (idK f.fVars 3) := by rw [sq]
      have f1 : (slotsP f.fVars).1.filter (slK f.fVars) = slMk f.fVars 0 (idK f.fVars 1) := by
        rw [s1, List.filter_append, List.filter_eq_self.2 (fun t ht => by rw [kind_mk h 1 _ t ht]; rfl), List.filter_eq_nil_iff.2 (fun t ht => by rw [kind_mk h 3 _ t ht]; decide), List.append_nil]
      have f3 : (slotsP f.fVars).1.filter (fun t => !slK f.fVars t) = slMk f.fVars (slTot f.fVars (idK f.fVars 1)) (idK f.fVars 3) := by
        rw [s1, List.filter_append, List.filter_eq_nil_iff.2 (fun t ht => by rw [kind_mk h 1 _ t ht]; decide), List.filter_eq_self.2 (fun t ht => by rw [kind_mk h 3 _ t ht]; rfl), List.nil_append]
      have hap : ((slotsP f.fVars).1.filter (slK f.fVars)).map (slV f.fVars bits) ++ ((slotsP f.fVars).1.filter (fun t => !slK f.fVars t)).map (slV f.fVars bits) = (slotsP f.fVars).1.map (slV f.fVars bits) := by
        rw [f1, f3, ← List.map_append, ← s1]
      simp only
      rw [hap]
      have hall := List.all_eq_true.1 ha
      have g1 : fitC f.fVars (idK f.fVars 1) ((slMk f.fVars 0 (idK f.fVars 1)).map (slV f.fVars bits)) = 0 := fit_mk bits _ _ (fun t ht => hso' t (by rw [s1]; simp [ht])) (fun t ht => hall t (by rw [s1]; simp [ht]))
      have g3 : fitC f.fVars (idK f.fVars 3) ((slMk f.fVars (slTot f.fVars (idK f.fVars 1)) (idK f.fVars 3)).map (slV f.fVars bits)) = 0 := fit_mk bits _ _ (fun t ht => hso' t (by rw [s1]; simp [ht])) (fun t ht => hall t (by rw [s1]; simp [ht]))
      have k1 := idK_len f.fVars 1
      have k3 := idK_len f.fVars 3
      refine ⟨trivial, rfl, by simp; exact p2, m32_same _ (by simp; omega), ?_, m29_same _ (by omega)⟩
      rw [m27_eq f hf _ _ (by rw [f1]; simp [slMk_len]; omega) (by rw [f3]; simp [slMk_len]; omega), hap, f1, f3, if_neg (by simp [hc]), if_neg (by simp [g1]), if_neg (by simp [g3]), List.length_map, encS_map bits _ hso', flat_slots h bits hn.symm]
end Go.Proofs.YtghilkcphindjaaGreat
end
noncomputable section
namespace Go.Iv
variable [U : Uni]
open Go Go.RowKit Go.Shelf Go.Proofs
def Rnd2 (C : Cx) (n : Nat) (σ : List Res) (w : World) (J : List Nat → List Res → Prop) (EA : Env) (a : Act) (W : World) : Prop :=
 ∃ σ1, (∃ pre, J pre σ1) ∧ Sim C n EA σ1 a W ∧ a.defers = [] ∧ Lay C σ w σ1 W ∧ w.heap.size ≤ W.heap.size
theorem Rnd2.own {C : Cx} {n : Nat} {σ : List Res} {w : World} (hw : C.w0.heap.size ≤ w.heap.size) (J : List Nat → List Res → Prop) (hn : ∀ pre σ, J pre σ → NoMp σ) (EA : Env) (a : Act) : OwnFrom w.heap.size (fun (_ : Unit) => Rnd2 C n σ w J EA a) := fun _ W W' row ⟨σ1, ⟨pre, h1⟩, h2, h5, h3, h4⟩ hg hr => by
 have ht := tn_grown (C := C) hg (fun r e => ⟨by have := (hr r e).1; omega, (hr r e).2⟩) h2.good.kept.size
 refine ⟨σ1, ⟨pre, h1⟩, ⟨.nil h5, h2.size, h2.slots.turn ht, h2.good.turn0 (hn _ _ h1) ht⟩, h5, fun b hb hA => ⟨(h3 b hb hA).1, ?_⟩, Nat.le_trans h4 hg.size⟩
 exact (hg.block b (by omega) (fun e => by have := (hr b e.symm).1; omega)).trans (h3 b hb hA).2
theorem CW.rfa {P : Program} {C : Cx} {n : Nat} {Q : Exit → Env → List Res → Prop} {E : Env} {σ : List Res} {g : Operand} {ps : Array Tmp} {assign body : Code} {gf : Nat} {caps : List AV} {es : List (List AV)}
    (J : List Nat → List Res → Prop) (EA : Nat → Env) (nJ : ∀ pre σ, J pre σ → NoMp σ) (hb : ∀ C W pre pre' σ σ', J pre σ → J pre' σ' → Good C σ W → Good C σ' W → blks σ = blks σ') (hg : E.ev g = some (.fn (.func gf) caps)) (eg : Enters P gf) (hit : Iter P gf caps es) (hps : ∀ i, i < es.length → es[i]!.length = ps.size) (hpn : ∀ p ∈ ps.toList, p < n) (h0 : J [] σ)
    (hassign : ∀ C' pre i σ', i < es.length → J pre σ' → CWR P C' n assign (fun e E1 σ1 => e = .normal ∧ Sub (EA i) E1 ∧ ∃ σ2, J pre σ2 ∧ List.Sublist σ2 σ1) (penv ps.toList es[i]! E) σ')
    (hbody : ∀ C' pre i σ', i < es.length → pre.length < es.length → J pre σ' → CWR P C' n body (fun e _ σ2 => e = .normal ∧ ∃ σ3, J (pre ++ [i]) σ3 ∧ List.Sublist σ3 σ2) (EA i) σ')
    (hdone : ∀ σ', J (List.range es.length) σ' → Q .normal E σ') : CW P C n (.rangeFunc g ps assign body) Q E σ := fun a w ha => by
  have hgv := ha.slots.ops g _ hg
  obtain ⟨lb, hlb, hev⟩ : ∃ lb : List Value, RelL (al C σ) w caps lb ∧ a.eval g = .func (.func gf) #[] lb.toArray := by
    generalize hx : AVq.fn (.func gf) caps = x at hgv
    generalize a.eval g = v at hgv
    cases hgv with
    | fn f cs us hl hr => cases hx; exact ⟨us, ⟨hl, hr⟩, rfl⟩
    | _ => cases hx
  obtain ⟨us, hul, hur, hseq⟩ := hit (al C σ) w lb hlb
  have hw0 : C.w0.heap.size ≤ w.heap.size := ha.good.kept.size
  have hKt : ∀ {A B D : World}, (∀ b, b < w.heap.size → al C σ b → B.heap[b]? = A.heap[b]?) → (∀ b, b < w.heap.size → al C σ b → D.heap[b]? = B.heap[b]?) → (∀ b, b < w.heap.size → al C σ b → D.heap[b]? = A.heap[b]?) := fun h k b hb hA => (k b hb hA).trans (h b hb hA)
  have after : ∀ (a : Act) D W σ', Lay C σ w σ' W → NoMp σ' → Good C σ' W → w.heap.size ≤ W.heap.size → w.heap.size ≤ D → W.heap[D]? = some (.deferred (some [])) → Sim C n E σ a w → Sim C n E σ' { a with defers := { target := .collected D, args := #[] } :: a.defers } W := fun a D W σ' hL hm hG hSz hD hdf ha => by
    have hcell : ∀ (b : Nat) ds, W.heap[b]? = some (Obj.deferred ds) → b ∉ blks σ' := fun b ds hb hx => by
      obtain ⟨r, h1, h2⟩ := mem_blks.1 hx
      obtain ⟨cs, T, m, h3⟩ := (hG.res r h1).cells (hm r h1) h2
      rw [hb] at h3
      cases h3
    refine ⟨?_, ha.size, fun s av q => ?_, hG⟩
    · obtain ⟨Ds, h1, h2, h3⟩ := ha.defers
      refine ⟨D :: Ds, by simp [h1], List.nodup_cons.2 ⟨fun hx => by have := (h3 D hx).1; omega, h2⟩, fun D' hD' => ?_⟩
      rcases List.mem_cons.1 hD' with rfl | hD'
      · exact ⟨(Array.getElem?_eq_some_iff.1 hdf).1, by omega, hcell _ _ hdf, hdf⟩
      · obtain ⟨q1, q2, q3, q4⟩ := h3 D' hD'
        have q5 := (hL D' q1 ⟨.inr (.inr q2), q3⟩).2.trans q4
        exact ⟨(Array.getElem?_eq_some_iff.1 q5).1, q2, hcell _ _ q5, q5⟩
    · obtain ⟨v, q1, q2⟩ := ha.slots s av q
      exact ⟨v, q1, q2.mono fun b hb hA => hL b hb hA⟩
  refine wpIn_wide.1 (wpIn_rangeFunc_ownH (F := Fence.wide) (n := 2) (g := g) (ps := ps) (assign := assign) (body := body) (α := Fin es.length) (w0 := w) (gf := gf) (lb := lb.toArray) rfl (by omega) hev trivial eg hseq hKt (fun W l o o' hl _ _ _ b hb _ => World.putObj_heap_other (by omega)) (Below.refl _ _) (fun x => ?_)
    (fun pre W => Mid C σ w (J (pre.map (·.1))) W) (fun c pre W => False)
    (Mid.own (α := List (Fin es.length)) hw0 (fun pre => J (pre.map (·.1))) (fun _ => nJ _)) (fun c pre W W' row h hg hr => h.elim) ⟨σ, h0, ha.good, fun b _ hA => ⟨hA, rfl⟩, Nat.le_refl _⟩
    (fun x a' => Rnd2 C n σ w J (EA x.1) a') (fun x a' => Rnd2.own hw0 J nJ _ a') ?_ ?_ ?_ ?_)
  · have := (hur x.1 x.2).1
    rw [List.size_toArray, this]
    exact hps x.1 x.2
  · intro l pre x W K ⟨σ', hJ, hG, hL, hS⟩ hK
    have hsl : Slots (al ⟨W, al C σ', blks σ'⟩ σ') W (penv ps.toList es[x.1]! E) (setAll a.tmps (ps.toList.zip us[x.1]!)) := by
      refine Slots.penv _ _ _ _ _ (fun t av ht => ?_) ?_ (fun p hp => by rw [ha.size]; exact hpn p hp) (by rw [hps x.1 x.2]; simp)
      · obtain ⟨v, q1, q2⟩ := ha.slots t av ht
        exact ⟨v, q1, q2.mono fun b hb hA => ⟨⟨.inl (hL b hb hA).1, (hL b hb hA).1.2⟩, (hL b hb hA).2⟩⟩
      · exact (hur x.1 x.2).mono fun b hb hA => ⟨⟨.inl (hL b hb hA).1, (hL b hb hA).1.2⟩, (hL b hb hA).2⟩
    rw [setAll_eq]
    refine wpIn_mono (hassign ⟨W, al C σ', blks σ'⟩ _ x.1 σ' x.2 hJ l 0 _ W ⟨.nil rfl, (setAll_size _ _).trans ha.size, hsl, hG.fresh⟩ rfl) ?_
    · rintro e a' W' ⟨hd1, E1, σ1, hs1, rfl, hka, σ2, hj2, hsub⟩
      have t := tr_out hG hs1.good
      have hL2 := (hL.tr t hS).less hsub
      have hS2 := Nat.le_trans hS t.kp.size
      refine hK a' W' (keepsFrom_tr _ hG (nJ _ _ hJ) t) (fun b hb hA => t.kp.block b (Nat.lt_of_lt_of_le hb hS) (hL b hb hA).1.2) ⟨σ2, hj2, t.good.less hsub, hL2, hS2⟩ ?_
      refine ⟨σ2, ⟨_, hj2⟩, ⟨.nil hd1, hs1.size, fun s av q => ?_, t.good.less hsub⟩, hd1, hL2, hS2⟩
      obtain ⟨v, q1, q2⟩ := hs1.slots s av (hka s av q)
      exact ⟨v, q1, q2.mono fun b _ hA => ⟨⟨(al_out hG b hA).1, fun hx => (al_out hG b hA).2 (blks_sub (fun _ hr => hsub.subset hr) b hx)⟩, rfl⟩⟩
  · intro l pre x a' W hl hr ⟨σ', hJ, hG, hL, hS⟩ ⟨σ1, ⟨pre1, hJ1⟩, hs1, hd1, hL1, hS1⟩ hlt
    have hbb := hb C W _ _ _ _ hJ1 hJ hs1.good hG
    have hs2 : Sim ⟨W, al C σ', blks σ'⟩ n (EA x.1) σ' a' W := ⟨.nil hd1, hs1.size, fun s av q => by
      obtain ⟨v, q1, q2⟩ := hs1.slots s av q
      have hA' : ∀ b, al C σ1 b → al C σ' b := fun b hA => ⟨hA.1, by rw [← hbb]; exact hA.2⟩
      exact ⟨v, q1, q2.mono fun b _ hA => ⟨⟨.inl (hA' b hA), (hA' b hA).2⟩, rfl⟩⟩, hG.fresh⟩
    refine wpIn_mono (hbody ⟨W, al C σ', blks σ'⟩ _ x.1 σ' x.2 (by simpa using hlt) hJ l 0 a' W hs2 hd1) ?_
    rintro e a2 W' ⟨_, E2, σ2, hs3, rfl, σ3, hj3, hsub⟩
    have t := tr_out hG hs3.good
    have hkf := keepsFrom_tr w.heap.size hG (nJ _ _ hJ) t
    refine ⟨hkf, fun b hb hA => t.kp.block b (Nat.lt_of_lt_of_le hb hS) (hL b hb hA).1.2, σ3, ?_, t.good.less hsub, (hL.tr t hS).less hsub, Nat.le_trans hS t.kp.size⟩
    rw [List.map_append]
    exact hj3
  · intro D xs W hD hS ⟨σ', hJ, hG, hL, hSz⟩ hdf
    subst hS
    refine ⟨E, σ', after a D W σ' hL (nJ _ _ hJ) hG hSz hD hdf ha, hdone σ' ?_⟩
    have e : (List.finRange es.length).map (·.1) = List.range es.length := List.ext_getElem (by simp) fun i h1 h2 => by simp
    rw [e] at hJ
    exact hJ
  · intro D c pre W hD hS h hdf
    exact h.elim
end Go.Iv
end
noncomputable section
set_option maxRecDepth 100000
namespace Go.Proofs.YtghilkcphindjaaGreat
open Go Go.RowKit Go.Shelf Go.Iv
attribute [local go_sem] Oper.semAt_some
theorem take_finP {n k : Nat} (h : k < n) : (List.finRange n).take (k + 1) = (List.finRange n).take k ++ [⟨k, h⟩] := by
 rw [List.take_add_one, List.getElem?_eq_getElem (by simpa using h), List.getElem_finRange]
 rfl
theorem grown_allocP (W : World) (o : Obj) : W.grownBy (W.alloc o) none := ⟨rfl, rfl, rfl, by simp, fun k hk _ => heap_alloc_old W o hk⟩
set_option maxHeartbeats 4000000 in
theorem vals_inP (l Bs o b off len cap n0 : Nat) (u : Nat → Nat → Int) (A : Nat → Prop) (hb : b < n0) (hAb : A b) (hB : Bs < n0) (hAB : A Bs) (hlen : len ≤ 9223372036854775807) (J Jx : List (Fin len) → World → Prop)
    (hJa : ∀ pre W o, J pre W → J pre (W.alloc o))
    (hY : ∀ pre (x : Fin len) W, J pre W → pre.length < len → YieldAt Fence.wide 0 Tryz.prog l #[.agg #[.int .i64 (u x.1 0), .int .i64 (u x.1 1)]] W fun e W' =>
      (e = .returned (.bool true) ∧ J (pre ++ [x]) W' ∧ (∀ b, b < n0 → A b → W'.heap[b]? = W.heap[b]?)) ∨ (e = .returned (.bool false) ∧ Jx (pre ++ [x]) W'))
    (W : World) (hn : n0 ≤ W.heap.size) (hBs : W.cell? ⟨Bs, o, none⟩ = some (.slice (some ⟨b, off, none⟩) len cap)) (hc : ∀ i j, i < len → j < 2 → W.cell? ⟨b, off + i * 2 + j, none⟩ = some (.int .i64 (u i j))) (h0 : J [] W) :
    CallsIn Fence.wide 1 Tryz.prog 266 #[.func (.yield l) #[] #[], .pointer (some ⟨Bs, o, none⟩)] W fun e W' => (∃ v, e = .returned v) ∧
      ((∃ xs, xs = List.finRange len ∧ J xs W') ∨ (∃ pre, pre <+: List.finRange len ∧ Jx pre W')) := by
  have hin : ∀ (w2 : World), (∀ b, b < n0 → A b → w2.heap[b]? = W.heap[b]?) → ∀ b, b < n0 → A b → b < w2.heap.size := fun w2 h b hb hA => by
    have h1 := h b hb hA
    rw [Array.getElem?_eq_getElem (Nat.lt_of_lt_of_le hb hn)] at h1
    exact (Array.getElem?_eq_some_iff.1 h1).1
  refine callsIn_of_wp Tryz.func266 rfl trivial ?_ rfl
  simp only [Tryz.ntmps266, List.size_toArray, List.length_cons, List.length_nil, Nat.reduceAdd, Nat.reduceSub, Array.replicate_succ, Array.replicate_zero, List.push_toArray, List.append_toArray, List.nil_append, List.cons_append]
  gi_wp2
  gi_loopw [7] (fun i wr => ∃ k : Nat, k ≤ len ∧ i = .int .i64 (k : Int) ∧ J ((List.finRange len).take k) wr ∧ (∀ b, b < n0 → A b → wr.heap[b]? = W.heap[b]?))
    (fun i _ => len - (intOf i).toNat)
  case atStart => exact ⟨0, Nat.zero_le _, by simp, by simpa using h0, fun _ _ _ => rfl⟩
  case round =>
    obtain ⟨k, hk, rfl, hJs, hnx⟩ := hrel
    have hcx : ∀ i j, i < len → j < 2 → wr.cell? ⟨b, off + i * 2 + j, none⟩ = some (.int .i64 (u i j)) := fun i j h1 h2 => (World.cell?_of_block (hnx b hb hAb)).trans (hc i j h1 h2)
    by_cases hlt : k < len
    · obtain ⟨fn, tmps, assign, body, hy, hR⟩ := hY _ ⟨k, hlt⟩ (wr.alloc (.cells #[.int .i64 (u k 0), .int .i64 (u k 1)] 231)) (hJa _ _ _ hJs) (by simp; omega)
      dsimp only at hy
      have e0 : wr.cell? ⟨b, off + k * 2, none⟩ = some (.int .i64 (u k 0)) := hcx k 0 (by omega) (by omega)
      have e1 : wr.cell? ⟨b, off + k * 2 + 1, none⟩ = some (.int .i64 (u k 1)) := hcx k 1 (by omega) (by omega)
      gi_wp2
      refine hR.mono ?_
      rintro e W3 (⟨rfl, hJ3, hk3⟩ | ⟨rfl, hJx3⟩)
      · gi_wp2
        go_roundw
        case rel => exact ⟨k + 1, by omega, by first | (simp; done) | (simp; omega), by rw [take_finP hlt]; exact hJ3, fun b' h1 h2 => ((hk3 b' h1 h2).trans (heap_alloc_old wr _ (hin wr hnx b' h1 h2))).trans (hnx b' h1 h2)⟩
        case measure => simp [intOf]; omega
      · gi_wp2
        refine bodyPost_ret (results_none rfl _ _ _) rfl ?_
        exact ⟨⟨_, rfl⟩, .inr ⟨_, by rw [← take_finP hlt]; exact List.take_prefix _ _, hJx3⟩⟩
    · obtain rfl : k = len := by omega
      gi_wp2
      go_end0
      exact ⟨⟨_, rfl⟩, .inl ⟨_, rfl, by rwa [List.take_of_length_le (by simp)] at hJs⟩⟩
set_option maxHeartbeats 1000000 in
theorem vals_nilP (l Bs o cap : Nat) (p : Option Addr) (J : List (Fin 0) → World → Prop) (W : World) (hBs : W.cell? ⟨Bs, o, none⟩ = some (.slice p 0 cap)) (h0 : J [] W) :
  CallsIn Fence.wide 1 Tryz.prog 266 #[.func (.yield l) #[] #[], .pointer (some ⟨Bs, o, none⟩)] W fun e W' => (∃ v, e = .returned v) ∧ J [] W' := by
 refine callsIn_of_wp Tryz.func266 rfl trivial ?_ rfl
 simp only [Tryz.ntmps266, List.size_toArray, List.length_cons, List.length_nil, Nat.reduceAdd, Nat.reduceSub, Array.replicate_succ, Array.replicate_zero, List.push_toArray, List.append_toArray, List.nil_append, List.cons_append]
 gi_wp2
 gi_loopw [7] (fun i wr => i = .int .i64 0 ∧ J [] wr) (fun _ _ => 0)
 case atStart => exact ⟨by simp, h0⟩
 case round =>
  obtain ⟨rfl, hJs⟩ := hrel
  gi_wp2
  go_end0
  exact ⟨⟨_, rfl⟩, hJs⟩
def vEsP (l : List (uni.Dat 231)) : List (List AV) := l.map fun x => [.agg (uni.cells 231 x)]
theorem vEs_getP (l : List (uni.Dat 231)) {k : Nat} (h : k < l.length) : (vEsP l)[k]! = [.agg (uni.cells 231 l[k]!)] := by
 unfold vEsP
 rw [getElem!_pos _ k (by simpa using h), getElem!_pos l k h, List.getElem_map]
theorem vals_iterP (l : List (uni.Dat 231)) : Iter Tryz.prog 266 [.fp [.sl 231 l]] (vEsP l) := fun A w lb hlb => by
  obtain ⟨v, hv1, hv2⟩ := hlb.get (j := 0) rfl
  obtain rfl : lb = [v] := by
    have := hlb.1
    cases lb with
    | nil => cases hv1
    | cons x xs =>
      cases xs with
      | nil => simp at hv1; rw [hv1]
      | cons y ys => simp at this
  obtain ⟨Bs, o, us, rfl, hB, hAB, hcs, hus⟩ := hv2.fpInv
  obtain ⟨sv, hs1, hs2⟩ := hus.get (j := 0) rfl
  have hcB := hcs 0 sv hs1
  rw [Nat.add_zero] at hcB
  obtain ⟨p, cap, u, rfl, hl, hcap, hz, hc, hr⟩ := hs2.slInv
  have hE : (vEsP l).length = l.length := by simp [vEsP]
  obtain ⟨q, hq⟩ : ∃ q : Nat → Nat → Int, q = fun i j => if j = 0 then (l[i]! : uni.Dat 231).fFirst else (l[i]! : uni.Dat 231).fSecond := ⟨_, rfl⟩
  have hu : ∀ i j, i < l.length → j < 2 → u i j = .int .i64 (q i j) := fun i j hi hj => by
    match j with
    | 0 => rw [hq]; exact (hr i 0 _ hi rfl).litEq
    | 1 => rw [hq]; exact (hr i 1 _ hi rfl).litEq
  obtain ⟨vs, hvs⟩ : ∃ vs : List (List Value), vs = (List.range l.length).map fun (i : Nat) => [.agg #[.int .i64 (q i 0), .int .i64 (q i 1)]] := ⟨_, rfl⟩
  have hget : ∀ i, i < l.length → vs[i]! = [.agg #[.int .i64 (q i 0), .int .i64 (q i 1)]] := fun i hi => by
    subst hvs
    rw [getElem!_pos _ i (by simpa using hi)]
    simp
  refine ⟨vs, by subst hvs; simp [vEsP], fun i hi => ?_, ?_⟩
  · rw [hE] at hi
    rw [vEs_getP l hi, hget i hi]
    refine RelL.cons ?_ RelL.nil
    have h1 : Rel A w (.agg (uni.cells 231 l[i]!)) (.agg [u i 0, u i 1].toArray) := .agg _ [u i 0, u i 1] rfl fun j a v h1 h2 => by
      match j with
      | 0 => cases h2; exact hr _ 0 a hi h1
      | 1 => cases h2; exact hr _ 1 a hi h1
      | j + 2 => cases h2
    rw [hu i 0 hi (by omega), hu i 1 hi (by omega)] at h1
    exact h1
  · have henc : (fun i : Fin (vEsP l).length => (vs[i.1]!).toArray) = fun x => #[.agg #[.int .i64 (q x.1 0), .int .i64 (q x.1 1)]] := funext fun x => by
      have hx := x.2
      rw [hget x.1 (by omega)]
    rw [henc]
    intro lp J Jx W hW hJ1 _ hY h0
    have hblk : ∀ b, b < w.heap.size → W.heap[b]? = w.heap[b]? := fun b hb => hW.block b hb
    have hcB' : W.cell? ⟨Bs, o, none⟩ = some (.slice p (vEsP l).length cap) := by rw [World.cell?_of_block (hblk Bs hB), hE]; exact hcB
    by_cases h0l : l.length = 0
    · obtain rfl : l = [] := List.length_eq_zero_iff.1 h0l
      exact (vals_nilP lp Bs o cap p J W hcB' h0).mono fun e W' h => ⟨h.1, .inl ⟨[], rfl, h.2⟩⟩
    · obtain ⟨b, off, rfl, hb, hAb, hcell⟩ := hc 0 (by omega)
      refine (vals_inP lp Bs o b off (vEsP l).length cap w.heap.size q A hb hAb hB hAB (by omega) J Jx (fun pre W o h => hJ1 pre W _ none h (grown_allocP W o) (fun r hr => by cases hr)) hY W hW.size hcB' (fun i j h1 h2 => ?_) h0).mono fun e W' h => h
      obtain ⟨b', off', e1, _, _, h4⟩ := hc i (by omega)
      cases e1
      rw [World.cell?_of_block (hblk b hb), ← hu i j (by omega) h2]
      exact h4 j h2
theorem oneTP : isOne Tryz.prog 227 := ⟨_, Tryz.underlying227, trivial⟩
theorem manyEP : isMany Tryz.prog 231 2 := ⟨⟨_, Tryz.underlying231, trivial⟩, by kernel_rfl⟩
theorem szTP : (Tryz.prog.info? 227).map (·.size) = some 1 := by kernel_rfl
theorem szEP : (Tryz.prog.info? 231).map (·.size) = some (uni.sz 231) := by kernel_rfl
theorem szBP : (Tryz.prog.info? 231).map (fun i => (i.size, i.bytes)) = some (uni.sz 231, 16) := by kernel_rfl
theorem zsEP : zerosOf Tryz.prog 231 = some [.int .i64 0, .int .i64 0] := by kernel_rfl
theorem zaEP : (Tryz.prog.info? 231).bind (fun i => i.zero.map (·.cells)) = some ([.int .i64 0, .int .i64 0] : List Value).toArray := by kernel_rfl
theorem ap_okP (l : List (uni.Dat 231)) (hl : l.length ≤ 1073741824) : Iv.Fn Tryz.prog 292 [.lit (.slice none 0 0), .fn (.func 266) [.fp [.sl 231 l]]] [] (fun a s => ∃ v, a = .lit v ∧ s = [.row v 231 l]) := by
  refine Iv.Fn.of Tryz.func292 rfl rfl rfl (fun C => ?_)
  refine CW.seq ?_
  refine CW.region ?_
  refine RW.v rfl rfl rfl (Yv.box rfl rfl (Pw.p rfl)) ?_
  rintro _ _ ⟨b2, rfl, rfl⟩
  refine RW.p rfl rfl rfl (Yp.assign rfl rfl) ?_
  refine RW.nil ?_
  refine CW.own none 231 ?_
  refine CW.seq ?_
  refine CW.seq ?_
  refine CW.region ?_
  refine RW.p rfl rfl rfl (Yp.move rfl rfl) ?_
  refine RW.nil ?_
  refine CW.block ?_
  have hE : (vEsP l).length = l.length := by simp [vEsP]
  refine CW.rfa (gf := 266) (caps := [.fp [.sl 231 l]]) (es := vEsP l) (fun pre s => ∃ v, s = [.row v 231 (pre.map fun i => l[i]!), .box b2 227 [.lit v]]) (fun i => [(5, .fp (uni.cells 231 l[i]!)), (2, .lit (.pointer (some ⟨b2, 0, none⟩)))]) ?_ ?_ rfl (enters_of Tryz.func266 (by kernel_rfl) rfl) (vals_iterP l) (fun i hi => by rw [vEs_getP l (by omega)]; rfl) (by decide) ⟨_, rfl⟩ ?_ ?_ ?_
  · rintro pre σ ⟨v, rfl⟩ r hr v' es rfl
    simp at hr
  · rintro C0 W pre pre' _ _ ⟨v, rfl⟩ ⟨v', rfl⟩ h1 h2
    have key : ∀ (v : Value) (l' : List (uni.Dat 231)), Iv.Good C0 [.row v 231 l', .box b2 227 [.lit v]] W → ∃ us : List Value, Blk W b2 us.toArray 227 ∧ us = [v] := fun v l' h => by
      obtain ⟨us, g1, g2⟩ := h.res (.box b2 227 [.lit v]) (by simp)
      obtain ⟨u, us', rfl, g3, g4⟩ := g2.head
      have : us' = [] := List.length_eq_zero_iff.1 g4.1
      subst this
      rw [g3.litEq] at g1
      exact ⟨_, g1, rfl⟩
    obtain ⟨_, g1, rfl⟩ := key v _ h1
    obtain ⟨_, g2, rfl⟩ := key v' _ h2
    have : v = v' := by
      have := g1.symm.trans g2
      simpa using this
    rw [this]
    rfl
  · rintro C' pre i _ hi ⟨v, rfl⟩
    rw [vEs_getP l (by omega)]
    refine CWR.region rfl ?_
    refine RW.v rfl rfl rfl (Yv.alloc rfl zaEP) ?_
    rintro _ _ ⟨b5, rfl, rfl⟩
    refine RW.u rfl rfl (Yu.storeB 0 rfl rfl rfl rfl szEP (Pw.p rfl) rfl (Nat.le_of_ble_eq_true rfl)) ?_
    refine RW.frz 0 5 rfl rfl (Vw.box 0 rfl) ?_
    refine RW.nil ?_
    exact ⟨rfl, Sub.cons rfl (Sub.cons rfl Sub.nil), _, ⟨v, rfl⟩, List.Sublist.refl _⟩
  · rintro C' pre i _ hi hp ⟨v, rfl⟩
    refine CWR.block ?_
    refine CWR.region rfl ?_
    refine RW.p rfl rfl rfl (Yp.loadB1 1 rfl rfl rfl oneTP rfl) ?_
    refine RW.p rfl rfl rfl (Yp.loadFN rfl rfl manyEP (Nat.le_of_ble_eq_true rfl)) ?_
    refine RW.v rfl rfl rfl (Yv.lit (e := 231) (zs := [.int .i64 0, .int .i64 0]) [l[i]!] rfl Tryz.underlying227 szEP zsEP rfl (fun A w ρ hd hρ => fill_rel (cs := ([.int .i64 0, .int .i64 0] : List Value).map .lit) (RelL.lits _) (Env.evp_rel hρ rfl) rfl) rfl (fun i hi => uniL.len _ _) (by decide) (by decide)) ?_
    rintro _ _ ⟨v10, rfl, rfl⟩
    refine RW.v rfl rfl rfl (Yv.app (e := 231) (l := pre.map fun i => l[i]!) (l2 := [l[i]!]) (zs := [.int .i64 0, .int .i64 0]) 1 rfl rfl rfl (.inr (.inr ⟨0, _, rfl, rfl⟩)) Tryz.underlying227 szBP zsEP rfl rfl (uniL.one _) (by simp; omega)) ?_
    rintro _ _ ⟨v', rfl, rfl⟩
    refine RW.u rfl rfl (Yu.storeB 2 rfl rfl rfl rfl szTP (Pw.own 1 rfl) rfl (Nat.le_of_ble_eq_true rfl)) ?_
    refine RW.nil ?_
    exact ⟨rfl, [.row v' 231 ((pre ++ [i]).map fun i => l[i]!), .box b2 227 [.lit v']], ⟨v', rfl⟩, by rw [List.map_append]; exact List.sublist_cons_self _ _⟩
  · rintro _ ⟨v, rfl⟩
    have hl2 : (List.range (vEsP l).length).map (fun i => l[i]!) = l := by
      rw [hE]
      exact List.ext_getElem (by simp) fun i h1 h2 => by rw [List.getElem_map, List.getElem_range, getElem!_pos l i h2]
    rw [hl2]
    refine CW.seq ?_
    refine CW.region ?_
    refine RW.p rfl rfl rfl (Yp.loadB1 1 rfl rfl rfl oneTP rfl) ?_
    refine RW.p rfl rfl rfl (Yp.assign rfl rfl) ?_
    refine RW.nil ?_
    refine CW.ret ?_
    exact fin1 (.inr rfl) rfl (ResIs.tmp rfl) (List.Sublist.cons_cons _ (List.nil_sublist _)) ⟨v, rfl, rfl⟩
theorem ap_yP (l : List (uni.Dat 231)) (hl : l.length ≤ 1073741824) : FnY Tryz.prog 292 [.lit (.slice none 0 0), .fn (.func 266) [.fp [.sl 231 l]]] [] 0 ⟨.own 0, [(0, .row 231 l)], 1⟩ := fun ρ => by
 have e1 : [.lit (.slice none 0 0), .fn (.func 266) [.fp [.sl 231 l]]].map (AVq.sub ρ) = ([.lit (.slice none 0 0), .fn (.func 266) [.fp [.sl 231 l]]] : List AV) := by simp [AVq.sub]
 rw [e1]
 exact (ap_okP l hl).mono fun a s ⟨v, h1, h2⟩ => ⟨ρ.putV 0 v, fun i hi => absurd hi (Nat.not_lt_zero _), by rw [h1]; simp [sub_own, Gh.putV], by rw [h2]; simp [IRs.res, IR.res, Gh.putV]⟩
abbrev E292 : Type := List (uni.Dat 231)
def d292 : Td 0 E292 := .c [] [4] (.r 0 1 (ec 4 (qo 0) en) (sr 0 231 sn) (fun z => z.2.1) (fun x => (((), ()), (x, ()))) fun _ => rfl)
def A292 := (lc qn (lc (qf 266 (lc (qr (lc (ql 231) ln)) ln)) ln))
def m292 (l : List (uni.Dat 231)) : Option E292 := if l.length ≤ 1073741824 then some l else none
theorem o292 (l : List (uni.Dat 231)) : outY Tryz.prog 292 0 (d292.pat l) = ⟨.own 0, [(0, .row 231 l)], 1⟩ := by kernel_rfl
theorem hl292 : HL Tryz.prog 292 A292 d292 (fun g => m292 g.2.1.1.1) := fun g b hb => by
  dsimp only [m292] at hb
  split at hb
  · rename_i h
    cases hb
    rw [o292]
    exact ap_yP _ h
  · cases hb
def e292 : Orc → Orc := eL Tryz.prog 292 true A292 d292 (fun g => m292 g.2.1.1.1)
theorem e292_ok {F : Orc} (h : OrcG Tryz.prog F) : OrcG Tryz.prog (e292 F) := eL_ok (sc := scU) scU_ok hl292 ⟨_, Tryz.func292, by kernel_rfl, by kernel_rfl⟩ (fun _ => by kernel_rfl) (fun _ => by kernel_rfl) h
end Go.Proofs.YtghilkcphindjaaGreat
end
noncomputable section
set_option maxRecDepth 100000
namespace Go.Proofs.YtghilkcphindjaaGreat
open Go Go.Iv
open Go.IntKind (i64 u64)
def tb {γ β : Type} [DecidableEq γ] (T : List (γ × β)) (g : γ) : Option β := (T.find? fun p => decide (p.1 = g)).map (·.2)
theorem tb_ok {γ β : Type} [DecidableEq γ] {T : List (γ × β)} {g : γ} {b : β} (h : tb T g = some b) : (g, b) ∈ T := by
 unfold tb at h
 obtain ⟨p, h1, rfl⟩ := Option.map_eq_some_iff.1 h
 have h2 := List.find?_some h1
 rw [decide_eq_true_eq] at h2
 exact h2 ▸ List.mem_of_find?_eq_some h1
def F29a : Orc := callN Tryz.prog (e292 or0) (fun f => Nat.beq f 292) 300 60
theorem F29a_ok : OrcG Tryz.prog F29a := ⟨callN_ok (e292_ok or0_g).ok (e292_ok or0_g).nat 300 60, callN_nat (e292_ok or0_g).nat 300 60⟩
abbrev E210 : Type := Int
def d210 : Td 0 E210 := .c [] [2] (.r 0 0 (ec 2 (qi .i64) en) sn (fun z => z.1.1) (fun x => ((x, ()), (()))) fun _ => rfl)
def A210 := (lc (qg 80) ln)
def t210 : List ((Mtbdd × Unit) × E210) := [((⟨2, [0], [], 0⟩, ()), 0),
 ((⟨2, [0, 2], [⟨0, 0, 1⟩], 2⟩, ()), 0),
 ((⟨2, [0, 1], [⟨1, 0, 1⟩], 2⟩, ()), 0),
 ((⟨2, [0, 1, 2, 3], [⟨1, 0, 1⟩, ⟨1, 2, 3⟩, ⟨0, 4, 5⟩], 6⟩, ()), 0),
 ((⟨2, [2], [], 0⟩, ()), 0),
 ((⟨2, [0, 1, 2], [⟨1, 0, 1⟩, ⟨0, 3, 2⟩], 4⟩, ()), 0),
 ((⟨2, [1], [], 0⟩, ()), 0),
 ((⟨2, [0, 1], [⟨1, 0, 1⟩, ⟨0, 2, 0⟩], 3⟩, ()), 0),
 ((⟨2, [3], [], 0⟩, ()), 0),
 ((⟨2, [0, 1], [⟨1, 1, 0⟩, ⟨0, 1, 2⟩], 3⟩, ()), 0)]
theorem fa210 : FnAn Tryz.prog F29a 0 300 210 .no := fnAn_of (l := []) Tryz.func210 (bodyOf_eq (by kernel_rfl)) (by kernel_rfl) ob_nil
theorem k210 : (t210.map fun p => callR Tryz.prog F29a 300 .no 210 (A210.c p.1) [] 0 d210.rd) = t210.map fun p => some p.2 := by kernel_rfl
theorem hk210 : HL Tryz.prog 210 A210 d210 (tb (γ := Mtbdd × Unit) t210) := fun g b hb =>
 (fnY_of (out := fun p => outY Tryz.prog 210 0 (d210.pat p)) (p := b) F29a_ok fa210 d210.ok (fun p => by kernel_rfl) (ltd_of (by kernel_rfl)) (rltd_of (by kernel_rfl)) (List.map_inj_left.1 k210 _ (tb_ok hb))).2
def e210 : Orc → Orc := eZ Tryz.prog 210 A210 d210 (tb (γ := Mtbdd × Unit) t210)
theorem e210_ok {F : Orc} (h : OrcG Tryz.prog F) : OrcG Tryz.prog (e210 F) := eZ_ok hk210 ⟨_, Tryz.func210, by kernel_rfl, by kernel_rfl⟩ (fun _ => by kernel_rfl) h
abbrev E151 : Type := Int
def d151 : Td 0 E151 := .c [] [2] (.r 0 0 (ec 2 (qi .i64) en) sn (fun z => z.1.1) (fun x => ((x, ()), (()))) fun _ => rfl)
def A151 := (lc (qg 42) ln)
def t151 : List ((Bdd × Unit) × E151) := [((⟨2, [⟨0, 0, 1⟩], 2⟩, ()), 0),
 ((⟨2, [⟨1, 0, 1⟩], 2⟩, ()), 0),
 ((⟨2, [], 1⟩, ()), 0),
 ((⟨2, [], 0⟩, ()), 0),
 ((⟨2, [⟨1, 1, 0⟩, ⟨0, 1, 2⟩], 3⟩, ()), 0)]
theorem fa151 : FnAn Tryz.prog F29a 0 300 151 .no := fnAn_of (l := []) Tryz.func151 (bodyOf_eq (by kernel_rfl)) (by kernel_rfl) ob_nil
theorem k151 : (t151.map fun p => callR Tryz.prog F29a 300 .no 151 (A151.c p.1) [] 0 d151.rd) = t151.map fun p => some p.2 := by kernel_rfl
theorem hk151 : HL Tryz.prog 151 A151 d151 (tb (γ := Bdd × Unit) t151) := fun g b hb =>
 (fnY_of (out := fun p => outY Tryz.prog 151 0 (d151.pat p)) (p := b) F29a_ok fa151 d151.ok (fun p => by kernel_rfl) (ltd_of (by kernel_rfl)) (rltd_of (by kernel_rfl)) (List.map_inj_left.1 k151 _ (tb_ok hb))).2
def e151 : Orc → Orc := eZ Tryz.prog 151 A151 d151 (tb (γ := Bdd × Unit) t151)
theorem e151_ok {F : Orc} (h : OrcG Tryz.prog F) : OrcG Tryz.prog (e151 F) := eZ_ok hk151 ⟨_, Tryz.func151, by kernel_rfl, by kernel_rfl⟩ (fun _ => by kernel_rfl) h
def F29b : Orc := callN Tryz.prog (e210 (e151 (e292 or0))) (fun f => Nat.beq f 210 || Nat.beq f 151 || Nat.beq f 292) 300 60
theorem F29b_ok : OrcG Tryz.prog F29b := ⟨callN_ok (e210_ok (e151_ok (e292_ok or0_g))).ok (e210_ok (e151_ok (e292_ok or0_g))).nat 300 60, callN_nat (e210_ok (e151_ok (e292_ok or0_g))).nat 300 60⟩
abbrev E178 : Type := Mtbdd × Int
def d178 : Td 0 E178 := .c [] [6, 7] (.t (TurnOk.fc 0 1 []) (.t (TurnOk.fc 0 2 []) (.c [] [6, 7] (.r 0 1 (ec 6 (qp 0 0) (ec 7 (qi .i64) en)) (sb 0 80 (lg 80) sn) (fun z => (z.2.1, z.1.2.1)) (fun x => (((), x.2, ()), (x.1, ()))) fun _ => rfl))))
def A178 := (lc (qi .i64) (lc (qg 80) (lc (qg 80) ln)))
def t178 : List ((Int × Mtbdd × Mtbdd × Unit) × E178) := [((0, ⟨2, [0], [], 0⟩, ⟨2, [0, 2], [⟨0, 0, 1⟩], 2⟩, ()), (⟨2, [0, 2], [⟨0, 0, 1⟩], 2⟩, 0)),
 ((0, ⟨2, [0, 2], [⟨0, 0, 1⟩], 2⟩, ⟨2, [0, 1], [⟨1, 0, 1⟩], 2⟩, ()), (⟨2, [0, 1, 2, 3], [⟨1, 0, 1⟩, ⟨1, 2, 3⟩, ⟨0, 4, 5⟩], 6⟩, 0)),
 ((5, ⟨2, [0, 1, 2, 3], [⟨1, 0, 1⟩, ⟨1, 2, 3⟩, ⟨0, 4, 5⟩], 6⟩, ⟨2, [2], [], 0⟩, ()), (⟨2, [0, 1, 2], [⟨1, 0, 1⟩, ⟨0, 3, 2⟩], 4⟩, 0)),
 ((0, ⟨2, [0, 1, 2], [⟨1, 0, 1⟩, ⟨0, 3, 2⟩], 4⟩, ⟨2, [0], [], 0⟩, ()), (⟨2, [0, 1, 2], [⟨1, 0, 1⟩, ⟨0, 3, 2⟩], 4⟩, 0)),
 ((0, ⟨2, [0], [], 0⟩, ⟨2, [1], [], 0⟩, ()), (⟨2, [1], [], 0⟩, 0)),
 ((8, ⟨2, [0, 1, 2], [⟨1, 0, 1⟩, ⟨0, 3, 2⟩], 4⟩, ⟨2, [1], [], 0⟩, ()), (⟨2, [0, 1], [⟨1, 0, 1⟩, ⟨0, 2, 0⟩], 3⟩, 0)),
 ((7, ⟨2, [0, 1, 2, 3], [⟨1, 0, 1⟩, ⟨1, 2, 3⟩, ⟨0, 4, 5⟩], 6⟩, ⟨2, [3], [], 0⟩, ()), (⟨2, [0, 1], [⟨1, 1, 0⟩, ⟨0, 1, 2⟩], 3⟩, 0))]
theorem fa178 : FnAn Tryz.prog F29b 0 300 178 .no := fnAn_of (l := []) Tryz.func178 (bodyOf_eq (by kernel_rfl)) (by kernel_rfl) ob_nil
theorem k178 : (t178.map fun p => callR Tryz.prog F29b 300 .no 178 (A178.c p.1) [] 0 d178.rd) = t178.map fun p => some p.2 := by kernel_rfl
theorem hk178 : HL Tryz.prog 178 A178 d178 (tb (γ := Int × Mtbdd × Mtbdd × Unit) t178) := fun g b hb =>
 (fnY_of (out := fun p => outY Tryz.prog 178 0 (d178.pat p)) (p := b) F29b_ok fa178 d178.ok (fun p => by kernel_rfl) (ltd_of (by kernel_rfl)) (rltd_of (by kernel_rfl)) (List.map_inj_left.1 k178 _ (tb_ok hb))).2
def e178 : Orc → Orc := eZ Tryz.prog 178 A178 d178 (tb (γ := Int × Mtbdd × Mtbdd × Unit) t178)
theorem e178_ok {F : Orc} (h : OrcG Tryz.prog F) : OrcG Tryz.prog (e178 F) := eZ_ok hk178 ⟨_, Tryz.func178, by kernel_rfl, by kernel_rfl⟩ (fun _ => by kernel_rfl) h
abbrev E134 : Type := Mtbdd × Int
def d134 : Td 0 E134 := .c [] [6, 7] (.t (TurnOk.fc 0 1 []) (.t (TurnOk.fc 0 2 []) (.c [] [6, 7] (.r 0 1 (ec 6 (qp 0 0) (ec 7 (qi .i64) en)) (sb 0 80 (lg 80) sn) (fun z => (z.2.1, z.1.2.1)) (fun x => (((), x.2, ()), (x.1, ()))) fun _ => rfl))))
def A134 := (lc (qg 42) (lc (qg 80) (lc (qg 80) ln)))
def t134 : List ((Bdd × Mtbdd × Mtbdd × Unit) × E134) := [((⟨2, [], 1⟩, ⟨2, [0, 1], [⟨1, 0, 1⟩, ⟨0, 2, 0⟩], 3⟩, ⟨2, [0], [], 0⟩, ()), (⟨2, [0, 1], [⟨1, 0, 1⟩, ⟨0, 2, 0⟩], 3⟩, 0)),
 ((⟨2, [], 0⟩, ⟨2, [0, 1], [⟨1, 0, 1⟩, ⟨0, 2, 0⟩], 3⟩, ⟨2, [0], [], 0⟩, ()), (⟨2, [0], [], 0⟩, 0))]
theorem fa134 : FnAn Tryz.prog F29b 0 300 134 .no := fnAn_of (l := []) Tryz.func134 (bodyOf_eq (by kernel_rfl)) (by kernel_rfl) ob_nil
theorem k134 : (t134.map fun p => callR Tryz.prog F29b 300 .no 134 (A134.c p.1) [] 0 d134.rd) = t134.map fun p => some p.2 := by kernel_rfl
theorem hk134 : HL Tryz.prog 134 A134 d134 (tb (γ := Bdd × Mtbdd × Mtbdd × Unit) t134) := fun g b hb =>
 (fnY_of (out := fun p => outY Tryz.prog 134 0 (d134.pat p)) (p := b) F29b_ok fa134 d134.ok (fun p => by kernel_rfl) (ltd_of (by kernel_rfl)) (rltd_of (by kernel_rfl)) (List.map_inj_left.1 k134 _ (tb_ok hb))).2
def e134 : Orc → Orc := eZ Tryz.prog 134 A134 d134 (tb (γ := Bdd × Mtbdd × Mtbdd × Unit) t134)
theorem e134_ok {F : Orc} (h : OrcG Tryz.prog F) : OrcG Tryz.prog (e134 F) := eZ_ok hk134 ⟨_, Tryz.func134, by kernel_rfl, by kernel_rfl⟩ (fun _ => by kernel_rfl) h
abbrev E184 : Type := Bdd × Int
def d184 : Td 0 E184 := .c [] [4, 5] (.t (TurnOk.fc 0 1 []) (.c [] [4, 5] (.r 0 1 (ec 4 (qp 0 0) (ec 5 (qi .i64) en)) (sb 0 42 (lg 42) sn) (fun z => (z.2.1, z.1.2.1)) (fun x => (((), x.2, ()), (x.1, ()))) fun _ => rfl)))
def A184 := (lc (qg 80) (lc (qi .i64) ln))
def t184 : List ((Mtbdd × Int × Unit) × E184) := [((⟨2, [0], [], 0⟩, 0, ()), (⟨2, [], 1⟩, 0)),
 ((⟨2, [0], [], 0⟩, 1, ()), (⟨2, [], 0⟩, 0)),
 ((⟨2, [0], [], 0⟩, 2, ()), (⟨2, [], 0⟩, 0)),
 ((⟨2, [0], [], 0⟩, 3, ()), (⟨2, [], 0⟩, 0)),
 ((⟨2, [0], [], 0⟩, 4, ()), (⟨2, [], 0⟩, 0)),
 ((⟨2, [0], [], 0⟩, 5, ()), (⟨2, [], 0⟩, 0)),
 ((⟨2, [0], [], 0⟩, 6, ()), (⟨2, [], 0⟩, 0)),
 ((⟨2, [0], [], 0⟩, 7, ()), (⟨2, [], 0⟩, 0)),
 ((⟨2, [0, 1], [⟨1, 1, 0⟩, ⟨0, 1, 2⟩], 3⟩, 1, ()), (⟨2, [⟨1, 1, 0⟩, ⟨0, 1, 2⟩], 3⟩, 0))]
theorem fa184 : FnAn Tryz.prog F29b 0 300 184 .no := fnAn_of (l := []) Tryz.func184 (bodyOf_eq (by kernel_rfl)) (by kernel_rfl) ob_nil
theorem k184 : (t184.map fun p => callR Tryz.prog F29b 300 .no 184 (A184.c p.1) [] 0 d184.rd) = t184.map fun p => some p.2 := by kernel_rfl
theorem hk184 : HL Tryz.prog 184 A184 d184 (tb (γ := Mtbdd × Int × Unit) t184) := fun g b hb =>
 (fnY_of (out := fun p => outY Tryz.prog 184 0 (d184.pat p)) (p := b) F29b_ok fa184 d184.ok (fun p => by kernel_rfl) (ltd_of (by kernel_rfl)) (rltd_of (by kernel_rfl)) (List.map_inj_left.1 k184 _ (tb_ok hb))).2
def e184 : Orc → Orc := eZ Tryz.prog 184 A184 d184 (tb (γ := Mtbdd × Int × Unit) t184)
theorem e184_ok {F : Orc} (h : OrcG Tryz.prog F) : OrcG Tryz.prog (e184 F) := eZ_ok hk184 ⟨_, Tryz.func184, by kernel_rfl, by kernel_rfl⟩ (fun _ => by kernel_rfl) h
abbrev E145 : Type := Mtbdd × Int
def d145 : Td 0 E145 := .c [] [6, 7] (.t (TurnOk.fc 0 1 []) (.t (TurnOk.fc 0 2 []) (.c [] [6, 7] (.r 0 1 (ec 6 (qp 0 0) (ec 7 (qi .i64) en)) (sb 0 80 (lg 80) sn) (fun z => (z.2.1, z.1.2.1)) (fun x => (((), x.2, ()), (x.1, ()))) fun _ => rfl))))
def A145 := (lc (qg 42) (lc (qi .i64) (lc (qi .i64) ln)))
def t145 : List ((Bdd × Int × Int × Unit) × E145) := [((⟨2, [⟨0, 0, 1⟩], 2⟩, 0, 2, ()), (⟨2, [0, 2], [⟨0, 0, 1⟩], 2⟩, 0)),
 ((⟨2, [⟨1, 0, 1⟩], 2⟩, 0, 1, ()), (⟨2, [0, 1], [⟨1, 0, 1⟩], 2⟩, 0))]
theorem fa145 : FnAn Tryz.prog F29b 0 300 145 .no := fnAn_of (l := []) Tryz.func145 (bodyOf_eq (by kernel_rfl)) (by kernel_rfl) ob_nil
theorem k145 : (t145.map fun p => callR Tryz.prog F29b 300 .no 145 (A145.c p.1) [] 0 d145.rd) = t145.map fun p => some p.2 := by kernel_rfl
theorem hk145 : HL Tryz.prog 145 A145 d145 (tb (γ := Bdd × Int × Int × Unit) t145) := fun g b hb =>
 (fnY_of (out := fun p => outY Tryz.prog 145 0 (d145.pat p)) (p := b) F29b_ok fa145 d145.ok (fun p => by kernel_rfl) (ltd_of (by kernel_rfl)) (rltd_of (by kernel_rfl)) (List.map_inj_left.1 k145 _ (tb_ok hb))).2
def e145 : Orc → Orc := eZ Tryz.prog 145 A145 d145 (tb (γ := Bdd × Int × Int × Unit) t145)
theorem e145_ok {F : Orc} (h : OrcG Tryz.prog F) : OrcG Tryz.prog (e145 F) := eZ_ok hk145 ⟨_, Tryz.func145, by kernel_rfl, by kernel_rfl⟩ (fun _ => by kernel_rfl) h
abbrev E148 : Type := Mtbdd × List Pair × Int
def d148 : Td 0 E148 := .c [] [4, 5, 6] (.t (TurnOk.fc 0 1 []) (.t (TurnOk.fc 0 2 []) (.t (TurnOk.fs 5 []) (.c [] [4, 5, 6] (.r 0 1 (ec 4 (qp 0 0) (ec 5 (ql 231) (ec 6 (qi .i64) en))) (sb 0 80 (lg 80) sn) (fun z => (z.2.1, z.1.2.1, z.1.2.2.1)) (fun x => (((), x.2.1, x.2.2, ()), (x.1, ()))) fun _ => rfl)))))
def A148 := (lc (qg 80) (lc (qg 80) ln))
def t148 : List ((Mtbdd × Mtbdd × Unit) × E148) := [((⟨2, [1], [], 0⟩, ⟨2, [1], [], 0⟩, ()), (⟨2, [0], [], 0⟩, [⟨1, 1⟩], 0)),
 ((⟨2, [0], [], 0⟩, ⟨2, [0, 1], [⟨1, 0, 1⟩, ⟨0, 2, 0⟩], 3⟩, ()), (⟨2, [0, 1], [⟨1, 0, 1⟩, ⟨0, 2, 0⟩], 3⟩, [⟨0, 0⟩, ⟨0, 1⟩], 0)),
 ((⟨2, [0, 1], [⟨1, 0, 1⟩, ⟨0, 2, 0⟩], 3⟩, ⟨2, [0], [], 0⟩, ()), (⟨2, [0, 1], [⟨1, 0, 1⟩, ⟨0, 2, 0⟩], 3⟩, [⟨0, 0⟩, ⟨1, 0⟩], 0)),
 ((⟨2, [1], [], 0⟩, ⟨2, [0], [], 0⟩, ()), (⟨2, [0], [], 0⟩, [⟨1, 0⟩], 0))]
theorem fa148 : FnAn Tryz.prog F29b 0 300 148 .no := fnAn_of (l := []) Tryz.func148 (bodyOf_eq (by kernel_rfl)) (by kernel_rfl) ob_nil
theorem k148 : (t148.map fun p => callR Tryz.prog F29b 300 .no 148 (A148.c p.1) [] 0 d148.rd) = t148.map fun p => some p.2 := by kernel_rfl
theorem hk148 : HL Tryz.prog 148 A148 d148 (tb (γ := Mtbdd × Mtbdd × Unit) t148) := fun g b hb =>
 (fnY_of (out := fun p => outY Tryz.prog 148 0 (d148.pat p)) (p := b) F29b_ok fa148 d148.ok (fun p => by kernel_rfl) (ltd_of (by kernel_rfl)) (rltd_of (by kernel_rfl)) (List.map_inj_left.1 k148 _ (tb_ok hb))).2
def e148 : Orc → Orc := eZ Tryz.prog 148 A148 d148 (tb (γ := Mtbdd × Mtbdd × Unit) t148)
theorem e148_ok {F : Orc} (h : OrcG Tryz.prog F) : OrcG Tryz.prog (e148 F) := eZ_ok hk148 ⟨_, Tryz.func148, by kernel_rfl, by kernel_rfl⟩ (fun _ => by kernel_rfl) h
abbrev E117 : Type := Bdd × Int
def d117 : Td 0 E117 := .c [] [6, 7] (.t (TurnOk.fc 0 1 []) (.c [] [6, 7] (.r 0 1 (ec 6 (qp 0 0) (ec 7 (qi .i64) en)) (sb 0 42 (lg 42) sn) (fun z => (z.2.1, z.1.2.1)) (fun x => (((), x.2, ()), (x.1, ()))) fun _ => rfl)))
def A117 := (lc (qi .i64) (lc (qg 42) (lc (qg 42) ln)))
def t117 : List ((Int × Bdd × Bdd × Unit) × E117) := [((8, ⟨2, [], 1⟩, ⟨2, [⟨1, 1, 0⟩, ⟨0, 1, 2⟩], 3⟩, ()), (⟨2, [⟨1, 1, 0⟩, ⟨0, 1, 2⟩], 3⟩, 0))]
theorem fa117 : FnAn Tryz.prog F29b 0 300 117 .no := fnAn_of (l := []) Tryz.func117 (bodyOf_eq (by kernel_rfl)) (by kernel_rfl) ob_nil
theorem k117 : (t117.map fun p => callR Tryz.prog F29b 300 .no 117 (A117.c p.1) [] 0 d117.rd) = t117.map fun p => some p.2 := by kernel_rfl
theorem hk117 : HL Tryz.prog 117 A117 d117 (tb (γ := Int × Bdd × Bdd × Unit) t117) := fun g b hb =>
 (fnY_of (out := fun p => outY Tryz.prog 117 0 (d117.pat p)) (p := b) F29b_ok fa117 d117.ok (fun p => by kernel_rfl) (ltd_of (by kernel_rfl)) (rltd_of (by kernel_rfl)) (List.map_inj_left.1 k117 _ (tb_ok hb))).2
def e117 : Orc → Orc := eZ Tryz.prog 117 A117 d117 (tb (γ := Int × Bdd × Bdd × Unit) t117)
theorem e117_ok {F : Orc} (h : OrcG Tryz.prog F) : OrcG Tryz.prog (e117 F) := eZ_ok hk117 ⟨_, Tryz.func117, by kernel_rfl, by kernel_rfl⟩ (fun _ => by kernel_rfl) h
end Go.Proofs.YtghilkcphindjaaGreat
end
noncomputable section
set_option maxRecDepth 100000
namespace Go.Proofs.YtghilkcphindjaaGreat
open Go Go.Iv Go.Sort Go.Proofs Go.Shelf Go.RowKit Go.Lib
section
variable {α : Type} [Inhabited α] (r : α → α → Bool)
def kpB (d : Array α) (j : Nat) : Bool := decide (j = 0) || !r d[j]! d[j - 1]!
def upB (d : Array α) (m : Nat) : List α := ((List.range m).filter (kpB r d)).map (d[·]!)
variable {r}
theorem upB_succ (d : Array α) (m : Nat) : upB r d (m + 1) = upB r d m ++ (if kpB r d m then [d[m]!] else []) := by
 unfold upB
 rw [List.range_succ, List.filter_append, List.map_append]
 congr 1
 by_cases h : kpB r d m <;> simp [h]
theorem upB_all (d : Array α) (m : Nat) (h : ∀ j, j < m → kpB r d j = true) : upB r d m = (List.range m).map (d[·]!) := by
  unfold upB
  rw [List.filter_eq_self.2 (fun j hj => h j (List.mem_range.1 hj))]
theorem range_getB (d : Array α) : (List.range d.size).map (d[·]!) = d.toList := by
  apply List.ext_getElem
  · simp
  · intro i h1 h2
    have hi : i < d.size := by simpa using h2
    simp [getElem!_pos, hi]
structure InvB (r : α → α → Bool) (d : Array α) (m k : Nat) (dk : Array α) : Prop where
 size : dk.size = d.size
 len : (upB r d m).length = k
 lt : k < m
 low : ∀ j, j < k → (upB r d m)[j]? = some dk[j]!
 high : ∀ j, k ≤ j → dk[j]! = d[j]!
theorem InvB.start {d : Array α} {k0 : Nat} (hall : ∀ j, j < k0 → kpB r d j = true) (hdup : kpB r d k0 = false) : InvB r d (k0 + 1) k0 d where
 size := rfl
 len := by rw [upB_succ, hdup, upB_all d k0 hall]; simp
 lt := Nat.lt_succ_self _
 low := fun j hj => by rw [upB_succ, hdup, upB_all d k0 hall]; simp [hj]
 high := fun _ _ => rfl
theorem InvB.keep {d dk : Array α} {m k : Nat} (h : InvB r d m k dk) (hm : m < d.size) (hk : kpB r d m = true) : InvB r d (m + 1) (k + 1) (dk.setIfInBounds k d[m]!) where
  size := by simp [h.size]
  len := by rw [upB_succ, hk]; simp [h.len]
  lt := by have := h.lt; omega
  low := fun j hj => by
    rw [upB_succ, hk, if_pos rfl]
    by_cases e : j = k
    · subst e
      rw [List.getElem?_append_right (by rw [h.len]; exact Nat.le_refl _), h.len, Nat.sub_self, getElem!_set_same dk j _ (by have := h.lt; have := h.size; omega)]
      rfl
    · rw [List.getElem?_append_left (by rw [h.len]; omega), h.low j (by omega), getElem!_set_other dk k j _ e]
  high := fun j hj => by rw [getElem!_set_other dk k j _ (by omega), h.high j (by omega)]
theorem InvB.skip {d dk : Array α} {m k : Nat} (h : InvB r d m k dk) (hk : kpB r d m = false) : InvB r d (m + 1) k dk where
 size := h.size
 len := by rw [upB_succ, hk]; simpa using h.len
 lt := by have := h.lt; omega
 low := fun j hj => by rw [upB_succ, hk]; simpa using h.low j hj
 high := h.high
end
section
variable {P : Program} {α : Type} [Inhabited α] {enc : α → List Value} {k : Nat} {w0 W : World} {blk off : Nat} {dk : Array α}
theorem setMany_set (hk : ∀ x, (enc x).length = k) (d : Array α) (i : Nat) (hi : i < d.size) (x : α) : setMany (flatK enc k d) (i * k) (enc x) = flatK enc k (d.setIfInBounds i x) := by
  refine ext_get! (by simp) fun t ht => ?_
  have ht' : t < d.size * k := by simpa using ht
  have k0 : 0 < k := by
    rcases Nat.eq_zero_or_pos k with h | h
    · subst h; simp at ht'
    · exact h
  rw [get_setMany _ _ _ t (by simpa using ht'), get_flatK _ _ _ t ht', get_flatK _ _ _ t (by simpa using ht'), hk]
  by_cases a : t / k = i
  · rw [if_pos ((blk_iff k i t k0).2 a), a, getElem!_set_same d i x hi, Nat.mod_eq_sub_div_mul, a]
  · rw [if_neg (fun h => a ((blk_iff k i t k0).1 h)), getElem!_set_other d i _ x a]
theorem swk_stored (h : SWK enc k w0 blk off dk W) (hk : ∀ x, (enc x).length = k) (hb : blk < w0.heap.size) (i : Nat) (hi : i < dk.size) (x : α) : SWK enc k w0 blk off (dk.setIfInBounds i x) (W.setCells blk (off + i * k) (enc x)) := by
 obtain ⟨n, os, rfl⟩ := h
 refine ⟨n, os, ?_⟩
 unfold sortWorldK
 rw [setCells_grow os blk _ _ _ (by show blk < (putRowK enc k _ blk off dk).heap.size; rw [size_putRowK]; exact hb)]
 congr 1
 unfold putRowK
 have := Nat.mul_le_mul_right k (show i + 1 ≤ dk.size from hi)
 rw [Nat.add_mul, Nat.one_mul] at this
 rw [setCells_putRow _ _ _ _ _ _ (by rw [hk, size_flatK]; exact this), setMany_set hk dk i hi x]
theorem swk_st0 (h : SWK enc k w0 blk off dk W) {d0 : Array α} (R : RowK enc k w0 blk off d0) (hs : dk.size = d0.size) (P : Program) (i : Nat) (hi : i < dk.size) (x : α) :
  Sem.run P (storeCells ⟨blk, off + i * k, none⟩ (enc x) 0) W = .ok () (W.setCells blk (off + i * k) (enc x)) :=
 stores_of_holds P (h.holds R.hblk R.hH hs) (i * k) _ (by rw [R.hk, size_flatK]; exact rowK_bnd dk k i hi) (R.h1 _)
def SWD (enc : α → List Value) (k : Nat) (w0 : World) (blk off : Nat) (dk : Array α) (W : World) : Prop := ∃ q, SWK enc k (redrawn w0 q) blk off dk W
theorem rowK_redrawn {d0 : Array α} (R : RowK enc k w0 blk off d0) (q : Nat) : RowK enc k (redrawn w0 q) blk off d0 := ⟨R.hk, R.h1, R.hH, R.hblk⟩
theorem SWD.start {d0 : Array α} (h : HoldsK enc k w0 blk off d0) : SWD enc k w0 blk off d0 w0 := ⟨w0.drawn, SWK.start h⟩
theorem SWD.grown (h : SWD enc k w0 blk off dk W) (d : Nat) (os : Array Obj) : SWD enc k w0 blk off dk (grow (redrawn W d) os) := by
 obtain ⟨q, n, os0, rfl⟩ := h
 have h1 : SWK enc k (redrawn w0 d) blk off dk (redrawn (sortWorldK enc k (redrawn w0 q) blk off n dk os0) d) := ⟨0, os0, rfl⟩
 exact ⟨d, h1.grown 0 os⟩
theorem SWD.ld {d0 : Array α} (h : SWD enc k w0 blk off dk W) (R : RowK enc k w0 blk off d0) (hs : dk.size = d0.size) (P : Program) (i : Nat) (hi : i < dk.size) (n : Nat) (os : Array Obj) :
  Sem.run P (loadCellsFrom ⟨blk, off + i * k, none⟩ 0 k #[]) (grow (redrawn W n) os) = .ok (enc dk[i]!).toArray (grow (redrawn W n) os) := by
 obtain ⟨q, h1⟩ := h.grown n os
 exact h1.load (rowK_redrawn R q) hs P i hi
theorem swd_stored (h : SWD enc k w0 blk off dk W) (hk : ∀ x, (enc x).length = k) (hb : blk < w0.heap.size) (i : Nat) (hi : i < dk.size) (x : α) : SWD enc k w0 blk off (dk.setIfInBounds i x) (W.setCells blk (off + i * k) (enc x)) := by
 obtain ⟨q, h⟩ := h
 exact ⟨q, swk_stored h hk hb i hi x⟩
theorem swd_st0 {d0 : Array α} (h : SWD enc k w0 blk off dk W) (R : RowK enc k w0 blk off d0) (hs : dk.size = d0.size) (P : Program) (i : Nat) (hi : i < dk.size) (x : α) :
  Sem.run P (storeCells ⟨blk, off + i * k, none⟩ (enc x) 0) W = .ok () (W.setCells blk (off + i * k) (enc x)) := by
 obtain ⟨q, h⟩ := h
 exact swk_st0 h (rowK_redrawn R q) hs P i hi x
theorem calls_regr {f : FuncId} {args : Array Value} {w : World} {n : Nat} {os : Array Obj} {v : Value}
  (h : Calls P f args (grow (redrawn w n) os) fun e w' => e = .returned v ∧ ∃ q os', w' = grow (redrawn (grow (redrawn w n) os) q) os') : Calls P f args (grow (redrawn w n) os) fun e w'' => e = .returned v ∧ ∃ p : Regrown, w'' = grow (redrawn w p.d) p.os :=
 h.mono fun _ _ ⟨he, q, os', hq⟩ => ⟨he, ⟨q, os ++ os'⟩, by rw [hq]; show grow (grow (redrawn w q) os) os' = _; rw [grow_grow]⟩
end
set_option maxHeartbeats 8000000 in
set_option maxRecDepth 1000000 in
theorem compactF {P : Program} {α : Type} [Inhabited α] (FG : P.funcs[89]? = some Tryz.f89) (mixed : P.follows .mixedOrders = true)
    (t3 : P.underlying 3 = some (.int .i64)) (a3 : ∀ w, (isAgg 3).run P w = .ok false w) (z3 : ∀ w, (Go.sizeOf 3).run P w = .ok 1 w) (v3 : ∀ w, (zeroValue 3).run P w = .ok (.int .i64 0) w)
    (t4 : P.underlying 4 = some .bool) (a4 : ∀ w, (isAgg 4).run P w = .ok false w) (z4 : ∀ w, (Go.sizeOf 4).run P w = .ok 1 w) (v4 : ∀ w, (zeroValue 4).run P w = .ok (.bool false) w)
    (t74 : P.underlying 74 = some (.slice 55)) (a74 : ∀ w, (isAgg 74).run P w = .ok false w) (z74 : ∀ w, (Go.sizeOf 74).run P w = .ok 1 w) (v74 : ∀ w, (zeroValue 74).run P w = .ok (.slice none 0 0) w)
    (k : Nat) (aE : ∀ w, (isAgg 55).run P w = .ok true w) (zE : ∀ w, (Go.sizeOf 55).run P w = .ok k w)
    (enc : α → List Value) (r : α → α → Bool) (g : Nat) (cb : Array Value) (blk off cap : Nat) (d : Array α) (w : World)
    (eg : ∀ args w, (callFunc g args).run P w = .ok (.enter g args) w)
    (hcmp : ∀ (dk : Array α) (W : World), dk.size = d.size → SWD enc k w blk off dk W → ∀ x y : α, Calls P g (#[.agg (enc x).toArray, .agg (enc y).toArray] ++ cb) W fun e w' => e = .returned (.bool (r x y)) ∧ ∃ q os', w' = grow (redrawn W q) os')
    (R : RowK enc k w blk off d) (hsz : d.size < 4611686018427387904) (hcap : d.size ≤ cap)
    (zs : Nat → List Value) (hclr : ∀ (W : World) (dk : Array α) (kk : Nat), SWD enc k w blk off dk W → dk.size = d.size → kk < d.size → ∀ ty, (Builtin.clear_ #[74] ty #[.slice (some ⟨blk, off + kk * k, none⟩) (d.size - kk) (cap - kk)]).run P W = .ok (.tuple #[]) (W.setCells blk (off + kk * k) (zs kk))) :
    Calls P 89 #[.slice (some ⟨blk, off, none⟩) d.size cap, .func (.func g) #[] cb] w fun e w' =>
      e = .returned (.slice (some ⟨blk, off, none⟩) (upB r d d.size).length cap) ∧ ∃ (dk : Array α) (W : World), SWD enc k w blk off dk W ∧ dk.size = d.size ∧ (∀ j, j < (upB r d d.size).length → (upB r d d.size)[j]? = some dk[j]!) ∧
        (w' = W ∨ w' = W.setCells blk (off + (upB r d d.size).length * k) (zs (upB r d d.size).length)) := by
  have S00 : SWD enc k w blk off d w := SWD.start R.hH
  have HC : Aside _ := hcmp
  have HCL : Aside _ := hclr
  have S0 : Aside (SWD enc k w blk off d w) := S00
  have same : ∀ W, SWD enc k w blk off d W → (∀ j, j < d.size → kpB r d j = true) → (upB r d d.size).length = d.size ∧ ∃ (dk : Array α) (W' : World), SWD enc k w blk off dk W' ∧ dk.size = d.size ∧ (∀ j, j < (upB r d d.size).length → (upB r d d.size)[j]? = some dk[j]!) ∧ (W = W' ∨ W = W'.setCells blk (off + (upB r d d.size).length * k) (zs (upB r d d.size).length)) := fun W hS hall => by
    have e : upB r d d.size = d.toList := by rw [upB_all d _ hall, range_getB]
    refine ⟨by rw [e]; simp, d, W, hS, rfl, fun j hj => ?_, .inl rfl⟩
    rw [e] at hj ⊢
    have hj' : j < d.size := by simpa using hj
    rw [List.getElem?_eq_getElem hj, getElem!_pos d j hj']
    simp
  have HS : Aside _ := same
  have kp1 : ∀ j, j < 1 → kpB r d j = true := fun j hj => by
    have : j = 0 := by omega
    subst this; rfl
  clear same S00 hcmp hclr
  by_cases h2 : d.size < 2
  · have K1 : Aside (∀ j, j < 1 → kpB r d j = true) := kp1
    clear kp1
    go_enter FG, Tryz.ntmps89
    go_wp2
    go_ret
    obtain ⟨e1, e2⟩ := HS.out w S0.out (fun j hj => K1.out j (by omega))
    exact ⟨by rw [e1]; rfl, e2⟩
  · have K1 : Aside (∀ j, j < 1 → kpB r d j = true) := kp1
    clear kp1
    go_enter FG, Tryz.ntmps89
    go_wp2
    go_loopg [5] d.size (fun g1 s5 wr => ∃ (k1 : Nat), s5 = .int .i64 k1 ∧ 1 ≤ k1 ∧ k1 ≤ d.size ∧ d.size - k1 ≤ g1 ∧ Aside (SWD enc k w blk off d wr) ∧ Aside (∀ j, j < k1 → kpB r d j = true))
    case atStart => exact ⟨1, rfl, Nat.le_refl _, by omega, by omega, S0, K1⟩
    case round =>
      obtain ⟨k1, rfl, hk1, hk2, hg, S1, A1⟩ := hrel
      by_cases hlt : k1 < d.size
      · obtain ⟨kp, rfl⟩ : ∃ kp, k1 = kp + 1 := ⟨k1 - 1, by omega⟩
        obtain ⟨xj, hxj⟩ : ∃ x, d[kp + 1]! = x := ⟨_, rfl⟩
        obtain ⟨xp, hxp⟩ : ∃ x, d[kp]! = x := ⟨_, rfl⟩
        have hwp : IntKind.i64.wrap (kp : Int) = (kp : Int) := by rw [IntKind.wrap_i64]; omega
        have jz : (kp : Int) + 1 < (d.size : Int) := by omega
        have jz1 : (kp : Int) < (d.size : Int) := by omega
        have p0 : (0 : Int) ≤ (kp : Int) + 1 := by omega
        have e0 : ((kp : Int) + 1).toNat = kp + 1 := by omega
        have lj : ∀ n' os', Sem.run P (loadCellsFrom ⟨blk, off + (kp + 1) * k, none⟩ 0 k #[]) (grow (redrawn wr n') os') = .ok (enc xj).toArray (grow (redrawn wr n') os') := fun n' os' => by
          rw [← hxj]; exact S1.out.ld R rfl P (kp + 1) hlt n' os'
        have lp : ∀ n' os', Sem.run P (loadCellsFrom ⟨blk, off + kp * k, none⟩ 0 k #[]) (grow (redrawn wr n') os') = .ok (enc xp).toArray (grow (redrawn wr n') os') := fun n' os' => by
          rw [← hxp]; exact S1.out.ld R rfl P kp (by omega) n' os'
        have hcg : ∀ n' os', Calls P g (#[.agg (enc xj).toArray, .agg (enc xp).toArray] ++ cb) (grow (redrawn wr n') os') fun e w' => e = .returned (.bool (r xj xp)) ∧ ∃ q os'', w' = grow (redrawn (grow (redrawn wr n') os') q) os'' := fun n' os' => HC.out d _ rfl (S1.out.grown n' os') xj xp
        cases hr : r xj xp with
        | true =>
          rw [hr] at hcg
          go_wp2_with fail
          refine wp_region_quiet_below (by assumption) (by kernel_rfl) ?_
          repeat (quiet_step (first | (go_at_fn g; refine calls_regr (hcg _ _))))
          refine wpQuiet_nil ?_
          intro _ hw'
          obtain ⟨⟨nq, osq⟩, hw''⟩ := hw'
          subst hw''
          have S2 : Aside (SWD enc k w blk off d (grow (redrawn wr nq) osq)) := S1.out.grown nq osq
          have I0 : Aside (InvB r d (kp + 1 + 1) (kp + 1) d) := InvB.start A1.out (by unfold kpB; rw [Nat.add_sub_cancel, hxj, hxp, hr]; simp)
          clear lj lp hcg
          generalize grow (redrawn wr nq) osq = wq at S2 ⊢
          go_wp2
          go_loopg [5, 7] d.size (fun g2 s5 s7 wr => ∃ (kk k2 : Nat) (dk : Array α), s5 = .int .i64 kk ∧ s7 = .int .i64 k2 ∧ 1 ≤ k2 ∧ kp + 1 + k2 ≤ d.size ∧ d.size - (kp + 1 + k2) ≤ g2 ∧ Aside (SWD enc k w blk off dk wr) ∧ Aside (InvB r d (kp + 1 + k2) kk dk))
          case atStart => exact ⟨kp + 1, 1, d, rfl, rfl, Nat.le_refl _, by omega, by omega, S2, I0⟩
          case round =>
            obtain ⟨kk, k2, dk, rfl, rfl, hk21, hle, hg2, S3, I3⟩ := hrel
            have hds := I3.out.size
            have hkk := I3.out.lt
            by_cases hlt2 : kp + 1 + k2 < d.size
            · obtain ⟨kq, rfl⟩ : ∃ kq, k2 = kq + 1 := ⟨k2 - 1, by omega⟩
              obtain ⟨xm, hxm⟩ : ∃ x, d[kp + 1 + (kq + 1)]! = x := ⟨_, rfl⟩
              obtain ⟨xq, hxq⟩ : ∃ x, d[kp + 1 + kq]! = x := ⟨_, rfl⟩
              have hm : dk[kp + 1 + (kq + 1)]! = xm := by rw [I3.out.high _ (by omega), hxm]
              have hq : dk[kp + 1 + kq]! = xq := by rw [I3.out.high _ (by omega), hxq]
              have hwq : IntKind.i64.wrap (kq : Int) = (kq : Int) := by rw [IntKind.wrap_i64]; omega
              have q0 : (0 : Int) ≤ (kq : Int) + 1 := by omega
              have f0 : ((kq : Int) + 1).toNat = kq + 1 := by omega
              have lm : ∀ n' os', Sem.run P (loadCellsFrom ⟨blk, off + (kp + 1) * k + (kq + 1) * k, none⟩ 0 k #[]) (grow (redrawn wr n') os') = .ok (enc xm).toArray (grow (redrawn wr n') os') := fun n' os' => by
                have := S3.out.ld R hds P (kp + 1 + (kq + 1)) (by omega) n' os'
                rw [hm, Nat.add_mul (kp + 1) (kq + 1), ← Nat.add_assoc] at this
                exact this
              have lq : ∀ n' os', Sem.run P (loadCellsFrom ⟨blk, off + (kp + 1) * k + kq * k, none⟩ 0 k #[]) (grow (redrawn wr n') os') = .ok (enc xq).toArray (grow (redrawn wr n') os') := fun n' os' => by
                have := S3.out.ld R hds P (kp + 1 + kq) (by omega) n' os'
                rw [hq, Nat.add_mul (kp + 1) kq, ← Nat.add_assoc] at this
                exact this
              have hcg : ∀ n' os', Calls P g (#[.agg (enc xm).toArray, .agg (enc xq).toArray] ++ cb) (grow (redrawn wr n') os') fun e w' => e = .returned (.bool (r xm xq)) ∧ ∃ q os'', w' = grow (redrawn (grow (redrawn wr n') os') q) os'' := fun n' os' => HC.out dk _ hds (S3.out.grown n' os') xm xq
              have jl : (kq : Int) + 1 < ((d.size - (kp + 1) : Nat) : Int) := by omega
              have jl1 : (kq : Int) < ((d.size - (kp + 1) : Nat) : Int) := by omega
              cases hr2 : r xm xq with
              | true =>
                rw [hr2] at hcg
                go_wp2_with fail
                refine wp_region_quiet_below (by assumption) (by kernel_rfl) ?_
                repeat (quiet_step (first | (go_at_fn g; refine calls_regr (hcg _ _))))
                refine wpQuiet_nil ?_
                intro _ hw'
                obtain ⟨⟨nq, osq⟩, hw''⟩ := hw'
                subst hw''
                go_wp2
                go_roundg (d.size - (kp + 1 + (kq + 1 + 1)))
                case measure => omega
                case rel => exact ⟨kk, kq + 1 + 1, dk, rfl, by go_num, by omega, by omega, Nat.le_refl _, S3.out.grown nq osq, I3.out.skip (by unfold kpB; rw [show kp + 1 + (kq + 1) - 1 = kp + 1 + kq by omega, hxm, hxq, hr2]; simp)⟩
              | false =>
                rw [hr2] at hcg
                go_wp2_with fail
                refine wp_region_quiet_below (by assumption) (by kernel_rfl) ?_
                repeat (quiet_step (first | (go_at_fn g; refine calls_regr (hcg _ _))))
                refine wpQuiet_nil ?_
                intro _ hw'
                obtain ⟨⟨nq, osq⟩, hw''⟩ := hw'
                subst hw''
                have lm3 := lm nq osq
                have S4 : Aside (SWD enc k w blk off dk (grow (redrawn wr nq) osq)) := S3.out.grown nq osq
                have st := swd_st0 S4.out R hds P kk (by omega) xm
                have S5 : Aside (SWD enc k w blk off (dk.setIfInBounds kk xm) ((grow (redrawn wr nq) osq).setCells blk (off + kk * k) (enc xm))) := swd_stored S4.out R.hk R.hblk kk (by omega) xm
                have hlm : (enc xm).length = k := R.hk xm
                have I4 : Aside (InvB r d (kp + 1 + (kq + 1) + 1) (kk + 1) (dk.setIfInBounds kk xm)) := by
                  have := I3.out.keep hlt2 (by unfold kpB; rw [show kp + 1 + (kq + 1) - 1 = kp + 1 + kq by omega, hxm, hxq, hr2]; simp)
                  rwa [hxm] at this
                have kz : (kk : Int) < (d.size : Int) := by omega
                have kz0 : (0 : Int) ≤ (kk : Int) := by omega
                clear lm lq hcg
                generalize grow (redrawn wr nq) osq = wq3 at lm3 S4 st S5 ⊢
                generalize enc xm = cm at lm3 st S5 hlm
                go_wp2
                go_roundg (d.size - (kp + 1 + (kq + 1 + 1)))
                case measure => omega
                case rel => exact ⟨kk + 1, kq + 1 + 1, dk.setIfInBounds kk xm, by go_num, by go_num, by omega, by omega, Nat.le_refl _, S5, I4⟩
            · have hend : kp + 1 + k2 = d.size := by omega
              have hcl := fun ty => HCL.out wr dk kk S3.out hds (by omega) ty
              have kz : (kk : Int) ≤ (d.size : Int) := by omega
              have kz1 : (kk : Int) ≤ (cap : Int) := by omega
              go_wp2
              go_ret
              have hI := I3.out
              rw [hend] at hI
              exact ⟨by rw [hI.len]; rfl, dk, wr, S3.out, hds, fun j hj => hI.low j (by rw [← hI.len]; exact hj), .inr (by rw [hI.len])⟩
        | false =>
          rw [hr] at hcg
          go_wp2_with fail
          refine wp_region_quiet_below (by assumption) (by kernel_rfl) ?_
          repeat (quiet_step (first | (go_at_fn g; refine calls_regr (hcg _ _))))
          refine wpQuiet_nil ?_
          intro _ hw'
          obtain ⟨⟨nq, osq⟩, hw''⟩ := hw'
          subst hw''
          go_wp2
          go_roundg (d.size - (kp + 1 + 1))
          case measure => omega
          case rel =>
            refine ⟨kp + 1 + 1, by go_num, by omega, by omega, Nat.le_refl _, S1.out.grown nq osq, fun j hj => ?_⟩
            by_cases e : j = kp + 1
            · subst e
              unfold kpB
              rw [Nat.add_sub_cancel, hxj, hxp, hr]
              simp
            · exact A1.out j (by omega)
      · have : k1 = d.size := by omega
        subst this
        go_wp2
        go_ret
        obtain ⟨e1, e2⟩ := HS.out _ S1.out A1.out
        exact ⟨by rw [e1]; rfl, e2⟩
set_option maxHeartbeats 1000000 in
theorem compactF_nil (FG : Tryz.prog.funcs[89]? = some Tryz.f89) (p : Option Addr) (cap : Nat) (fv : Value) (w : World) :
  Calls Tryz.prog 89 #[.slice p 0 cap, fv] w fun e w' => e = .returned (.slice p 0 cap) ∧ w' = w := by
 go_enter FG, Tryz.ntmps89
 go_wp2
 go_ret
 exact ⟨rfl, rfl⟩
end Go.Proofs.YtghilkcphindjaaGreat
end
noncomputable section
set_option maxRecDepth 100000
namespace Go.Proofs.YtghilkcphindjaaGreat
open Go Go.Iv
open Go.IntKind (i64 u64)
def F273 : Orc := or0
theorem F273_ok : OrcG Tryz.prog F273 := or0_g
abbrev E273 : Type := Bool
def d273 : Td 0 E273 := .c [] [2] (.r 0 0 (ec 2 qb en) sn (fun z => z.1.1) (fun x => ((x, ()), (()))) fun _ => rfl)
def A273 := (lc (qi .i64) ln)
def an273 : An := .no
theorem fa273 : FnAn Tryz.prog (F273) 0 300 273 (an273) := fnAn_of (l := []) Tryz.func273 (bodyOf_eq (by kernel_rfl)) (by kernel_rfl) ob_nil
def m273 (a0 : Int) : E273 :=
 bif decide (a0 = a0) then false else true
theorem c273 (a0 : Int) : callR Tryz.prog (F273) 300 (an273) 273 (A273.c (a0, ())) [] 0 d273.rd = some (m273 a0) := by
 refine Eq.trans (b := (
  some (bif decide (a0 = a0) then false else true) : Option E273)) (by kernel_rfl) ?_
 simp only [m273, cond_some, ite_some]
def e273 : Orc → Orc := eL Tryz.prog 273 false A273 d273 (fun g => some (m273 g.1))
theorem e273_ok {F : Orc} (h : OrcG Tryz.prog F) : OrcG Tryz.prog (e273 F) := eL_ok (sc := scU) scU_ok (hl_of F273_ok fa273 (fun _ => by kernel_rfl) (fun _ => by kernel_rfl) fun g => c273 g.1) ⟨_, Tryz.func273, by kernel_rfl, by kernel_rfl⟩ (fun _ => by kernel_rfl) (fun _ => by kernel_rfl) h
def F223 : Orc := (e273 or0)
theorem F223_ok : OrcG Tryz.prog F223 := (e273_ok or0_g)
abbrev E223 : Type := Int
def d223 : Td 0 E223 := .c [] [4] (.r 0 0 (ec 4 (qi .i64) en) sn (fun z => z.1.1) (fun x => ((x, ()), (()))) fun _ => rfl)
def A223 := (lc (qi .i64) (lc (qi .i64) ln))
def an223 : An := .no
theorem fa223 : FnAn Tryz.prog (F223) 0 300 223 (an223) := fnAn_of (l := []) Tryz.func223 (bodyOf_eq (by kernel_rfl)) (by kernel_rfl) ob_nil
def m223 (a0 : Int) (a1 : Int) : E223 :=
 bif m273 a0 then bif m273 a1 then 0 else -1 else bif m273 a1 then 1 else bif decide (a0 < a1) then -1 else bif decide (a1 < a0) then 1 else 0
theorem c223 (a0 : Int) (a1 : Int) : callR Tryz.prog (F223) 300 (an223) 223 (A223.c (a0, a1, ())) [] 0 d223.rd = some (m223 a0 a1) := by
 refine Eq.trans (b := (
  bif m273 a0 then bif m273 a1 then some (0) else some (-1) else bif m273 a1 then some (1) else bif decide (a0 < a1) then some (-1) else bif decide (a1 < a0) then some (1) else some (0) : Option E223)) (by kernel_rfl) ?_
 simp only [m223, cond_some, ite_some]
def e223 : Orc → Orc := eL Tryz.prog 223 false A223 d223 (fun g => some (m223 g.1 g.2.1))
theorem e223_ok {F : Orc} (h : OrcG Tryz.prog F) : OrcG Tryz.prog (e223 F) := eL_ok (sc := scU) scU_ok (hl_of F223_ok fa223 (fun _ => by kernel_rfl) (fun _ => by kernel_rfl) fun g => c223 g.1 g.2.1) ⟨_, Tryz.func223, by kernel_rfl, by kernel_rfl⟩ (fun _ => by kernel_rfl) (fun _ => by kernel_rfl) h
def F155 : Orc := (e223 or0)
theorem F155_ok : OrcG Tryz.prog F155 := (e223_ok or0_g)
structure L155_0 where
 t0 : List Int
 t1 : List Int
 t9 : List Int
 t10 : Int
 t11 : Int
def d155_0 : Td 0 L155_0 := .c [] [0, 1, 9, 10, 11] (.r 0 0 (ec 0 (ql 3) (ec 1 (ql 3) (ec 9 (ql 3) (ec 10 (qi .i64) (ec 11 (qi .i64) en))))) sn (fun z => ⟨z.1.1, z.1.2.1, z.1.2.2.1, z.1.2.2.2.1, z.1.2.2.2.2.1⟩) (fun x => ((x.t0, x.t1, x.t9, x.t10, x.t11, ()), (()))) fun _ => rfl)
def n155_0 (p : L155_0) : Option (Option L155_0) :=
 bif decide (p.t11 < p.t10) then if (0 : Int) ≤ p.t11 ∧ p.t11 < (↑p.t9.length : Int) then bif decide ((↑p.t1.length : Int) ≤ p.t11) then some (none) else if (0 : Int) ≤ p.t11 ∧ p.t11 < (↑p.t1.length : Int) then bif bif decide (m223 p.t9[p.t11.toNat]! p.t1[p.t11.toNat]! = 0) then false else true then some (none) else some (some (L155_0.mk p.t0 p.t1 p.t9 p.t10 (i64.wrap (p.t11 + 1)))) else none else none else some (none)
theorem q155_0 (p : L155_0) : execA Tryz.prog (F155) Tryz.f155.ntmps 300 (loopAt Tryz.f155 0) .no (Option L155_0) (d155_0.pat p) (kOn d155_0.rd) = n155_0 p := by kernel_rfl
def a155_0 : L155_0 → Option L155_0 := advG (n155_0)
abbrev E155 : Type := Int
def d155 : Td 0 E155 := .c [] [4] (.r 0 0 (ec 4 (qi .i64) en) sn (fun z => z.1.1) (fun x => ((x, ()), (()))) fun _ => rfl)
def A155 := (lc (ql 3) (lc (ql 3) ln))
def an155 : An := (.two .no (.two (.two .no (d155_0.lp a155_0 .no)) .no))
theorem fa155 : FnAn Tryz.prog (F155) 0 300 155 (an155) := fnAn_of (l := [(loopAt Tryz.f155 0, (d155_0.lp a155_0 .no))]) Tryz.func155 (bodyOf_eq (by kernel_rfl)) (by kernel_rfl) (ob_cons ⟨d155_0.ok _, advG_ok (q155_0)⟩ ob_nil)
def m155 (a0 : List Int) (a1 : List Int) : Option E155 :=
 match a155_0 (L155_0.mk a0 a1 a0 (↑a0.length : Int) (0)) with | none => none | some r1 => bif decide (r1.t11 < r1.t10) then if (0 : Int) ≤ r1.t11 ∧ r1.t11 < (↑r1.t9.length : Int) then bif decide ((↑r1.t1.length : Int) ≤ r1.t11) then some (1) else if (0 : Int) ≤ r1.t11 ∧ r1.t11 < (↑r1.t1.length : Int) then bif bif decide (m223 r1.t9[r1.t11.toNat]! r1.t1[r1.t11.toNat]! = 0) then false else true then some (m223 r1.t9[r1.t11.toNat]! r1.t1[r1.t11.toNat]!) else none else none else none else bif decide ((↑r1.t0.length : Int) < (↑r1.t1.length : Int)) then some (-1) else some (0)
theorem c155 (a0 : List Int) (a1 : List Int) : callR Tryz.prog (F155) 300 (an155) 155 (A155.c (a0, a1, ())) [] 0 d155.rd = m155 a0 a1 := by kernel_rfl
def e155 : Orc → Orc := eL Tryz.prog 155 false A155 d155 (fun g => m155 g.1 g.2.1)
theorem e155_ok {F : Orc} (h : OrcG Tryz.prog F) : OrcG Tryz.prog (e155 F) := eL_ok (sc := scU) scU_ok (hl_of F155_ok fa155 (fun _ => by kernel_rfl) (fun _ => by kernel_rfl) fun g => c155 g.1 g.2.1) ⟨_, Tryz.func155, by kernel_rfl, by kernel_rfl⟩ (fun _ => by kernel_rfl) (fun _ => by kernel_rfl) h
def F88 : Orc := (e155 or0)
theorem F88_ok : OrcG Tryz.prog F88 := (e155_ok or0_g)
abbrev E88 : Type := Int
def d88 : Td 0 E88 := .c [] [4] (.r 0 0 (ec 4 (qi .i64) en) sn (fun z => z.1.1) (fun x => ((x, ()), (()))) fun _ => rfl)
def A88 := (lc (qg 55) (lc (qg 55) ln))
def an88 : An := .no
theorem fa88 : FnAn Tryz.prog (F88) 0 300 88 (an88) := fnAn_of (l := []) Tryz.func88 (bodyOf_eq (by kernel_rfl)) (by kernel_rfl) ob_nil
def m88 (a0 : Observation) (a1 : Observation) : Option E88 :=
 match m155 a0.fOutputs a1.fOutputs with | none => none | some r1 => bif bif decide (r1 = 0) then false else true then some (r1) else bif decide (a0.fTime < a1.fTime) then some (-1) else bif decide (a1.fTime < a0.fTime) then some (1) else some (0)
theorem c88 (a0 : Observation) (a1 : Observation) : callR Tryz.prog (F88) 300 (an88) 88 (A88.c (a0, a1, ())) [] 0 d88.rd = m88 a0 a1 := by kernel_rfl
def e88 : Orc → Orc := eL Tryz.prog 88 false A88 d88 (fun g => m88 g.1 g.2.1)
theorem e88_ok {F : Orc} (h : OrcG Tryz.prog F) : OrcG Tryz.prog (e88 F) := eL_ok (sc := scU) scU_ok (hl_of F88_ok fa88 (fun _ => by kernel_rfl) (fun _ => by kernel_rfl) fun g => c88 g.1 g.2.1) ⟨_, Tryz.func88, by kernel_rfl, by kernel_rfl⟩ (fun _ => by kernel_rfl) (fun _ => by kernel_rfl) h
def F90 : Orc := (e88 or0)
theorem F90_ok : OrcG Tryz.prog F90 := (e88_ok or0_g)
abbrev E90 : Type := Bool
def d90 : Td 0 E90 := .c [] [4] (.r 0 0 (ec 4 qb en) sn (fun z => z.1.1) (fun x => ((x, ()), (()))) fun _ => rfl)
def A90 := (lc (qg 55) (lc (qg 55) ln))
def an90 : An := .no
theorem fa90 : FnAn Tryz.prog (F90) 0 300 90 (an90) := fnAn_of (l := []) Tryz.func90 (bodyOf_eq (by kernel_rfl)) (by kernel_rfl) ob_nil
def m90 (a0 : Observation) (a1 : Observation) : Option E90 :=
 match m88 a0 a1 with | none => none | some r1 => some (decide (r1 = 0))
theorem c90 (a0 : Observation) (a1 : Observation) : callR Tryz.prog (F90) 300 (an90) 90 (A90.c (a0, a1, ())) [] 0 d90.rd = m90 a0 a1 := by kernel_rfl
def e90 : Orc → Orc := eL Tryz.prog 90 false A90 d90 (fun g => m90 g.1 g.2.1)
theorem e90_ok {F : Orc} (h : OrcG Tryz.prog F) : OrcG Tryz.prog (e90 F) := eL_ok (sc := scU) scU_ok (hl_of F90_ok fa90 (fun _ => by kernel_rfl) (fun _ => by kernel_rfl) fun g => c90 g.1 g.2.1) ⟨_, Tryz.func90, by kernel_rfl, by kernel_rfl⟩ (fun _ => by kernel_rfl) (fun _ => by kernel_rfl) h
def cmpI : List Int → List Int → Int
 | [], [] => 0
 | [], _ :: _ => -1
 | _ :: _, [] => 1
 | x :: a, y :: b => if x < y then -1 else if y < x then 1 else cmpI a b
def cmpB (x y : Observation) : Int := if cmpI x.fOutputs y.fOutputs ≠ 0 then cmpI x.fOutputs y.fOutputs else if x.fTime < y.fTime then -1 else if y.fTime < x.fTime then 1 else 0
theorem m223_eq (x y : Int) : m223 x y = if x < y then -1 else if y < x then 1 else 0 := by
  unfold m223 m273
  simp only [decide_true, cond_true, cond_false]
  by_cases h : x < y
  · simp [h]
  · by_cases k : y < x <;> simp [h, k]
theorem m155_min (a b : List Int) (ha : a.length ≤ 9223372036854775807 ∨ b.length ≤ 9223372036854775807) : m155 a b = some (cmpI a b) := by
  obtain ⟨step, hs⟩ : ∃ step : Nat → Unit → Int → Unit ⊕ Int, step = fun i _ x => if b.length ≤ i then .inr 1 else if m223 x b[i]! ≠ 0 then .inr (m223 x b[i]!) else .inl () := ⟨_, rfl⟩
  obtain ⟨fin, hf⟩ : ∃ fin : Unit → Option Int, fin = fun _ => some (if a.length < b.length then -1 else 0) := ⟨_, rfl⟩
  obtain ⟨i, v, e1, -, hI⟩ := loopV (rnd := n155_0) a (fun i (_ : Unit) => ⟨a, b, a, (a.length : Int), (i : Int)⟩) step some fin (fun _ _ => True) (fun i v hi _ => by
    have i1 : (i : Int) < (a.length : Int) := by omega
    have i2 : (0 : Int) ≤ (i : Int) := by omega
    rw [hs]
    refine ⟨fun b' h => ⟨?_, trivial⟩, fun r h => ?_⟩ <;> dsimp only at h
    · split at h
      · cases h
      · split at h
        · cases h
        · rename_i g1 g2
          have g3 : ¬ (b.length : Int) ≤ (i : Int) := by omega
          have g4 : (i : Int) < (b.length : Int) := by omega
          have hw : i64.wrap ((i : Int) + 1) = ((i + 1 : Nat) : Int) := by rw [wrap_id (by omega) (by omega)]; omega
          unfold n155_0
          simp only [Int.toNat_natCast, i1, i2, g3, g4, decide_true, decide_false, cond_true, cond_false, and_self, if_true, hw, Decidable.not_not.1 g2]
    · split at h
      · rename_i g1
        have g3 : (b.length : Int) ≤ (i : Int) := by omega
        unfold n155_0
        simp only [Int.toNat_natCast, i1, i2, g3, decide_true, cond_true, and_self, if_true]
      · split at h
        · rename_i g1 g2
          have g3 : ¬ (b.length : Int) ≤ (i : Int) := by omega
          have g4 : (i : Int) < (b.length : Int) := by omega
          unfold n155_0
          simp only [Int.toNat_natCast, i1, i2, g3, g4, decide_true, decide_false, cond_true, cond_false, and_self, if_true, g2]
        · cases h) (fun v _ => by unfold n155_0; simp) (b := ()) trivial
  have e1' : a155_0 ⟨a, b, a, (a.length : Int), 0⟩ = some ⟨a, b, a, (a.length : Int), (i : Int)⟩ := e1
  have key : ∀ (l : List Int) (k : Nat), k ≤ b.length → a.length = k + l.length → goE step some fin l k () = some (cmpI l (b.drop k)) := by
    intro l
    induction l with
    | nil =>
      intro k hk hl
      simp only [goE, hf]
      simp only [List.length_nil, Nat.add_zero] at hl
      by_cases h : k = b.length
      · rw [h, List.drop_length, if_neg (by omega)]; rfl
      · rw [List.drop_eq_getElem_cons (by omega), if_pos (by omega)]; rfl
    | cons x l ih =>
      intro k hk hl
      simp only [List.length_cons] at hl
      by_cases h : k = b.length
      · rw [goE_inr (r := 1) (by rw [hs]; simp [h]), h, List.drop_length]; rfl
      · have hk' : k < b.length := by omega
        rw [List.drop_eq_getElem_cons hk']
        have e := m223_eq x b[k]!
        have eb : b[k]! = b[k] := getElem!_pos b k hk'
        rw [eb] at e
        unfold cmpI
        by_cases h1 : x < b[k]
        · rw [goE_inr (r := -1) (by rw [hs]; simp [show ¬ b.length ≤ k by omega, e, eb, h1]), if_pos h1]
        · by_cases h2 : b[k] < x
          · rw [goE_inr (r := 1) (by rw [hs]; simp [show ¬ b.length ≤ k by omega, e, eb, h1, h2]), if_neg h1, if_pos h2]
          · rw [goE_inl (b' := ()) (by rw [hs]; simp [show ¬ b.length ≤ k by omega, e, eb, h1, h2]), if_neg h1, if_neg h2]
            exact ih (k + 1) (by omega) (by omega)
  have hk := key a 0 (by omega) (by omega)
  rw [List.drop_zero] at hk
  rw [← hk]
  unfold m155
  simp only [e1']
  rcases hI with ⟨rfl, hg⟩ | ⟨hi, r, hr, hg⟩
  · rw [hg, hf]
    simp only [Int.lt_irrefl, decide_false, cond_false]
    by_cases h : a.length < b.length
    · rw [if_pos h, decide_eq_true (by omega : (a.length : Int) < (b.length : Int))]; rfl
    · rw [if_neg h, decide_eq_false (by omega : ¬ (a.length : Int) < (b.length : Int))]; rfl
  · rw [hg]
    have i1 : (i : Int) < (a.length : Int) := by omega
    have i2 : (0 : Int) ≤ (i : Int) := by omega
    rw [hs] at hr
    simp only at hr
    split at hr
    · rename_i g1
      have g3 : (b.length : Int) ≤ (i : Int) := by omega
      simp only [Int.toNat_natCast, i1, i2, g3, decide_true, cond_true, and_self, if_true]
      cases hr; rfl
    · split at hr
      · rename_i g1 g2
        have g3 : ¬ (b.length : Int) ≤ (i : Int) := by omega
        have g4 : (i : Int) < (b.length : Int) := by omega
        simp only [Int.toNat_natCast, i1, i2, g3, g4, decide_true, decide_false, cond_true, cond_false, and_self, if_true, g2]
        cases hr; rfl
      · cases hr
theorem m88_min (a b : Observation) (ha : a.fOutputs.length ≤ 9223372036854775807 ∨ b.fOutputs.length ≤ 9223372036854775807) : m88 a b = some (cmpB a b) := by
  unfold m88 cmpB
  rw [m155_min _ _ ha]
  dsimp only
  by_cases h : cmpI a.fOutputs b.fOutputs = 0
  · by_cases h1 : a.fTime < b.fTime
    · simp [h, h1]
    · by_cases h2 : b.fTime < a.fTime <;> simp [h, h1, h2]
  · simp [h]
theorem m88_eq (a b : Observation) (ha : a.fOutputs.length ≤ 9223372036854775807) : m88 a b = some (cmpB a b) := m88_min a b (.inl ha)
def cmpG : Observation → List Observation → List Observation
 | _, [] => []
 | p, y :: l => if cmpB y p = 0 then cmpG y l else y :: cmpG y l
def cmpO : List Observation → List Observation
 | [] => []
 | x :: l => x :: cmpG x l
end Go.Proofs.YtghilkcphindjaaGreat
end
