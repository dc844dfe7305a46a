/- Merged: Pv3, Pv1, Pv1b, Pv2, Pv2b, Ha, Qv, Qw, Pv4, Pv5, Pv6, Pv7, Qr. -/
import Derived.Test.YtnfljbehcffmcaaGreatM3AbstractExact
set_option linter.unusedSectionVars false
set_option linter.unusedVariables false
set_option linter.unusedSimpArgs false
noncomputable section
namespace Go.Proofs.YtnfljbehcffmcaaGreat
open Go Go.Iv
open Go.IntKind (i64)
theorem nTs_app (a b : List GTerm) : nTs (a ++ b) = nTs a + nTs b := by simp [nTs]
theorem nTs_take (l : List GTerm) (i : Nat) : nTs (l.take i) ≤ nTs l := by
 have := nTs_app (l.take i) (l.drop i)
 rw [List.take_append_drop] at this
 omega
theorem nTs_len (l : List GTerm) : l.length ≤ nTs l := by
 induction l with
 | nil => simp
 | cons a l ih => rw [nTs_cons]; have := nT_pos a; simp; omega
theorem nSs_app (a b : List GStep) : nSs (a ++ b) = nSs a + nSs b := by simp [nSs]
theorem nSs_take (l : List GStep) (i : Nat) : nSs (l.take i) ≤ nSs l := by
 have := nSs_app (l.take i) (l.drop i)
 rw [List.take_append_drop] at this
 omega
theorem nS_pos (s : GStep) : 0 < nS s := by rw [nS_eq]; omega
theorem nSs_len (l : List GStep) : l.length ≤ nSs l := by
 induction l with
 | nil => simp
 | cons a l ih => rw [nSs_cons]; have := nS_pos a; simp; omega
theorem nTs_step {l : List GTerm} {i : Nat} (hi : i < l.length) : nTs (l.take i) + nT l[i]! ≤ nTs l := by
 have := nTs_take l (i + 1)
 rw [take_succL hi, nTs_snoc] at this
 exact this
theorem nSs_step {l : List GStep} {i : Nat} (hi : i < l.length) : nSs (l.take i) + nS l[i]! ≤ nSs l := by
 have := nSs_take l (i + 1)
 rw [take_succL hi, nSs_snoc] at this
 exact this
theorem dTs_le (l : List GTerm) (h : ∀ k ∈ l, dT k ≤ nT k) : ∀ i, i ≤ l.length → dTs (l.take i) ≤ nTs (l.take i) := by
 intro i
 induction i with
 | zero => intro _; simp [dTs, nTs]
 | succ i ih =>
  intro hi
  have := ih (by omega)
  have h2 := h _ (get_memL (show i < l.length by omega))
  rw [take_succL (by omega), dTs_snoc, nTs_snoc]
  omega
theorem dT_le (t : GTerm) : dT t ≤ nT t := by
 have key : ∀ (n : Nat) (t : GTerm), SizeOf.sizeOf t < n → dT t ≤ nT t := by
  intro n
  induction n with
  | zero => intro t h; omega
  | succ n ih =>
   intro t h
   have := dTs_le t.fKids (fun k hk => ih k (by have := GTerm.kids_lt hk; omega)) t.fKids.length (Nat.le_refl _)
   rw [List.take_length] at this
   rw [dT_eq, nT_eq]
   omega
 exact key _ t (Nat.lt_succ_self _)
theorem dTs_take (l : List GTerm) (i : Nat) : dTs (l.take i) ≤ nTs l := by
  have h1 := nTs_take l i
  by_cases h : i ≤ l.length
  · have := dTs_le l (fun k _ => dT_le k) i h
    omega
  · have := dTs_le l (fun k _ => dT_le k) l.length (Nat.le_refl _)
    rw [List.take_length] at this
    rw [List.take_of_length_le (by omega)]
    omega
theorem dSs_le (l : List GStep) : dSs l ≤ nSs l := by
 have key : ∀ (n : Nat) (l : List GStep), SizeOf.sizeOf l < n → dSs l ≤ nSs l := by
  intro n
  induction n with
  | zero => intro t h; omega
  | succ n ih =>
   intro l h
   cases l with
   | nil => rw [dSs]; simp [nSs]
   | cons s l =>
    have q1 := ih s.fThen (by have := sizeOf_then (l := s :: l) (List.mem_cons_self ..); omega)
    have q2 := ih s.fElse (by have := sizeOf_then (l := s :: l) (List.mem_cons_self ..); omega)
    have q3 := ih l (by have := size_tail s l; omega)
    rw [dSs, nSs_cons, nS_eq]
    omega
 exact key _ l (Nat.lt_succ_self _)
theorem s216_eq (M : GTerm → Option E216) (t : GTerm) (hM : ∀ k ∈ t.fKids, M k = some (nT k : Int)) (h : nT t ≤ 1000) : s216 M t = some (nT t : Int) := by
  have hN := nT_eq t
  have hL := nTs_len t.fKids
  obtain ⟨v, e1, hv⟩ := loopI (rnd := n216_0 M) t.fKids.length (fun i (b : Int) => ⟨b, (i : Int), t⟩) (fun i b => b = 1 + nTs (t.fKids.take i)) (fun i b hi hb => by
      have hs := nTs_step hi
      refine ⟨b + nT t.fKids[i]!, ?_, ?_⟩
      · have hk := hM _ (get_memL hi)
        have hw := w1L hi (by omega)
        have hw2 : i64.wrap (b + nT t.fKids[i]!) = b + nT t.fKids[i]! := wrap_id (by omega) (by omega)
        unfold n216_0
        dsimp only
        simp only [Bool.cond_decide, Int.toNat_natCast, GTerm.eta, hk]
        grind
      · rw [take_succL hi, nTs_snoc]; omega) (fun b _ => by unfold n216_0; simp) (b := 1) (by simp [nTs])
  have e1' : a216_0 M ⟨1, 0, t⟩ = some ⟨v, (t.fKids.length : Int), t⟩ := e1
  unfold s216
  rw [GTerm.eta, e1', hN]
  rw [List.take_length] at hv
  simp [hv]
theorem m216_eq : ∀ (n : Nat) (t : GTerm), SizeOf.sizeOf t < n → nT t ≤ 1000 → m216 n t = some (nT t : Int)
 | 0, _, h, _ => by omega
 | n + 1, t, h, h2 => s216_eq (m216 n) t (fun k hk => m216_eq n k (by have := GTerm.kids_lt hk; omega) (by have := nTs_mem hk; have := nT_eq t; omega)) h2
theorem r216_eq (t : GTerm) (h : nT t ≤ 1000) : r216 t = some (nT t : Int) := lim_eq (SizeOf.sizeOf t + 1) fun n hn => m216_eq n t (by omega) h
theorem s217_eq (M : GTerm → Option E217) (t : GTerm) (hM : ∀ k ∈ t.fKids, M k = some (dT k)) (h : nT t ≤ 1000) : s217 M t = some (dT t) := by
  have hN := nT_eq t
  have hL := nTs_len t.fKids
  obtain ⟨v, e1, hv⟩ := loopI (rnd := n217_0 M) t.fKids.length (fun i (b : Int) => ⟨b, (i : Int), t⟩) (fun i b => b = dTs (t.fKids.take i)) (fun i b hi hb => by
      refine ⟨max b (dT t.fKids[i]!), ?_, ?_⟩
      · have hk := hM _ (get_memL hi)
        have hw := w1L hi (by omega)
        unfold n217_0
        dsimp only
        simp only [Bool.cond_decide, Int.toNat_natCast, GTerm.eta, hk]
        grind
      · rw [take_succL hi, dTs_snoc, hb]) (fun b _ => by unfold n217_0; simp) (b := 0) (by simp [dTs])
  have e1' : a217_0 M ⟨0, 0, t⟩ = some ⟨v, (t.fKids.length : Int), t⟩ := e1
  unfold s217
  rw [GTerm.eta, e1', dT_eq]
  have hd := dTs_take t.fKids t.fKids.length
  have hp := dTs_pos t.fKids
  rw [List.take_length] at hv hd
  subst hv
  have hw2 : i64.wrap (dTs t.fKids + 1) = dTs t.fKids + 1 := wrap_id (by omega) (by omega)
  dsimp only
  rw [decide_eq_false (by omega)]
  show some (i64.wrap (dTs t.fKids + 1)) = _
  rw [hw2]
  congr 1
  omega
theorem m217_eq : ∀ (n : Nat) (t : GTerm), SizeOf.sizeOf t < n → nT t ≤ 1000 → m217 n t = some (dT t)
 | 0, _, h, _ => by omega
 | n + 1, t, h, h2 => s217_eq (m217 n) t (fun k hk => m217_eq n k (by have := GTerm.kids_lt hk; omega) (by have := nTs_mem hk; have := nT_eq t; omega)) h2
theorem r217_eq (t : GTerm) (h : nT t ≤ 1000) : r217 t = some (dT t) := lim_eq (SizeOf.sizeOf t + 1) fun n hn => m217_eq n t (by omega) h
theorem nSs_mem {s : GStep} {l : List GStep} (h : s ∈ l) : nS s ≤ nSs l := by
  induction l with
  | nil => cases h
  | cons a l ih =>
    rw [nSs_cons]
    rcases List.mem_cons.1 h with rfl | h
    · omega
    · have := ih h; omega
def nodS : List GStep → Int
 | [] => 0
 | s :: l => 1 + nT s.fTerm + nodS s.fThen + nodS s.fElse + nodS l
termination_by l => SizeOf.sizeOf l
decreasing_by
  · exact (sizeOf_then (List.mem_cons_self ..)).1
  · exact (sizeOf_then (List.mem_cons_self ..)).2
  · exact size_tail _ _
theorem nodS_le (l : List GStep) : 0 ≤ nodS l ∧ nodS l ≤ nSs l := by
 have key : ∀ (n : Nat) (l : List GStep), SizeOf.sizeOf l < n → 0 ≤ nodS l ∧ nodS l ≤ nSs l := by
  intro n
  induction n with
  | zero => intro t h; omega
  | succ n ih =>
   intro l h
   cases l with
   | nil => rw [nodS]; simp [nSs]
   | cons s l =>
    have q1 := ih s.fThen (by have := sizeOf_then (l := s :: l) (List.mem_cons_self ..); omega)
    have q2 := ih s.fElse (by have := sizeOf_then (l := s :: l) (List.mem_cons_self ..); omega)
    have q3 := ih l (by have := size_tail s l; omega)
    rw [nodS, nSs_cons, nS_eq]
    omega
 exact key _ l (Nat.lt_succ_self _)
theorem nodS_snoc (l : List GStep) (s : GStep) : nodS (l ++ [s]) = nodS l + (1 + nT s.fTerm + nodS s.fThen + nodS s.fElse) := by
 induction l with
 | nil => rw [List.nil_append, show nodS [] = 0 by rw [nodS], nodS, show nodS [] = 0 by rw [nodS]]; omega
 | cons a l ih => rw [List.cons_append, nodS, nodS, ih]; omega
theorem s215_eq (M : List GStep → Option E215) (l : List GStep) (hM : ∀ s ∈ l, M s.fThen = some (nodS s.fThen) ∧ M s.fElse = some (nodS s.fElse)) (h : nSs l ≤ 1000) : s215 M l = some (nodS l) := by
  have hL := nSs_len l
  obtain ⟨v, e1, hv⟩ := loopI (rnd := n215_0 M) l.length (fun i (b : Int) => ⟨l, b, (i : Int)⟩) (fun i b => b = nodS (l.take i)) (fun i b hi hb => by
      have hs := nSs_step hi
      have hE := nS_eq l[i]!
      obtain ⟨k1, k4⟩ := hM _ (get_memL hi)
      have k2 := nodS_le l[i]!.fThen
      have k3 := nodS_le l[i]!.fElse
      have k5 := nodS_le (l.take i)
      have hk := r216_eq l[i]!.fTerm (by omega)
      have hw := w1L hi (by omega)
      refine ⟨b + (1 + nT l[i]!.fTerm + nodS l[i]!.fThen + nodS l[i]!.fElse), ?_, ?_⟩
      · have w1 : i64.wrap (b + 1) = b + 1 := wrap_id (by omega) (by omega)
        have w2 : i64.wrap (b + 1 + nT l[i]!.fTerm) = b + 1 + nT l[i]!.fTerm := wrap_id (by omega) (by omega)
        have w3 : i64.wrap (b + 1 + nT l[i]!.fTerm + nodS l[i]!.fThen) = b + 1 + nT l[i]!.fTerm + nodS l[i]!.fThen := wrap_id (by omega) (by omega)
        have w4 : i64.wrap (b + 1 + nT l[i]!.fTerm + nodS l[i]!.fThen + nodS l[i]!.fElse) = b + (1 + nT l[i]!.fTerm + nodS l[i]!.fThen + nodS l[i]!.fElse) := by rw [wrap_id (by omega) (by omega)]; omega
        unfold n215_0
        dsimp only
        simp only [Bool.cond_decide, Int.toNat_natCast, GTerm.eta, hk, k1, k4, w1, w2, w3, w4, hw]
        grind
      · rw [take_succL hi, nodS_snoc]; omega) (fun b _ => by unfold n215_0; simp) (b := 0) (by simp [nodS])
  have e1' : a215_0 M ⟨l, 0, 0⟩ = some ⟨l, v, (l.length : Int)⟩ := e1
  unfold s215
  rw [e1']
  rw [List.take_length] at hv
  simp [hv]
theorem then_le {s : GStep} {l : List GStep} (h : s ∈ l) : nSs s.fThen ≤ nSs l ∧ nSs s.fElse ≤ nSs l := by
 have := nSs_mem h
 have := nS_eq s
 omega
theorem m215_eq : ∀ (n : Nat) (l : List GStep), SizeOf.sizeOf l < n → nSs l ≤ 1000 → m215 n l = some (nodS l)
 | 0, _, h, _ => by omega
 | n + 1, l, h, h2 => s215_eq (m215 n) l (fun s hs => ⟨m215_eq n _ (by have := sizeOf_then hs; omega) (by have := then_le hs; omega), m215_eq n _ (by have := sizeOf_then hs; omega) (by have := then_le hs; omega)⟩) h2
theorem r215_eq (l : List GStep) (h : nSs l ≤ 1000) : r215 l = some (nodS l) := lim_eq (SizeOf.sizeOf l + 1) fun n hn => m215_eq n l (by omega) h
theorem s218_eq (M : List GStep → Option E218) (l : List GStep) (hM : ∀ s ∈ l, M s.fThen = some (dSs s.fThen) ∧ M s.fElse = some (dSs s.fElse)) (h : nSs l ≤ 1000) : s218 M l = some (dSs l) := by
  have hL := nSs_len l
  obtain ⟨v, e1, hv⟩ := loopI (rnd := n218_0 M) l.length (fun i (b : Int) => ⟨l, b, (i : Int)⟩) (fun i b => b = dSs (l.take i)) (fun i b hi hb => by
      obtain ⟨k1, k4⟩ := hM _ (get_memL hi)
      have k2 := dSs_le l[i]!.fThen
      have k3 := dSs_le l[i]!.fElse
      have k5 := then_le (get_memL hi)
      have k6 := dSs_pos l[i]!.fThen
      have k7 := dSs_pos l[i]!.fElse
      have hw := w1L hi (by omega)
      refine ⟨max b (max (dSs l[i]!.fThen + 1) (dSs l[i]!.fElse + 1)), ?_, ?_⟩
      · have w1 : i64.wrap (dSs l[i]!.fThen + 1) = dSs l[i]!.fThen + 1 := wrap_id (by omega) (by omega)
        have w2 : i64.wrap (dSs l[i]!.fElse + 1) = dSs l[i]!.fElse + 1 := wrap_id (by omega) (by omega)
        unfold n218_0
        dsimp only
        simp only [Bool.cond_decide, Int.toNat_natCast, k1, k4, w1, w2, hw]
        grind
      · rw [take_succL hi, dSs_snoc]; omega) (fun b _ => by unfold n218_0; simp) (b := 0) (by simp [dSs])
  have e1' : a218_0 M ⟨l, 0, 0⟩ = some ⟨l, v, (l.length : Int)⟩ := e1
  unfold s218
  rw [e1']
  rw [List.take_length] at hv
  simp [hv]
theorem m218_eq : ∀ (n : Nat) (l : List GStep), SizeOf.sizeOf l < n → nSs l ≤ 1000 → m218 n l = some (dSs l)
 | 0, _, h, _ => by omega
 | n + 1, l, h, h2 => s218_eq (m218 n) l (fun s hs => ⟨m218_eq n _ (by have := sizeOf_then hs; omega) (by have := then_le hs; omega), m218_eq n _ (by have := sizeOf_then hs; omega) (by have := then_le hs; omega)⟩) h2
theorem r218_eq (l : List GStep) (h : nSs l ≤ 1000) : r218 l = some (dSs l) := lim_eq (SizeOf.sizeOf l + 1) fun n hn => m218_eq n l (by omega) h
def deep1 (s : GStep) : Bool := decide (12 < dT s.fTerm) || tDeep s.fThen || tDeep s.fElse
theorem tDeep_any (l : List GStep) : tDeep l = l.any deep1 := by
 induction l with
 | nil => rw [tDeep]; rfl
 | cons s l ih => rw [tDeep, ih, List.any_cons]; rfl
theorem s219_eq (M : List GStep → Option E219) (l : List GStep) (hM : ∀ s ∈ l, M s.fThen = some (tDeep s.fThen) ∧ M s.fElse = some (tDeep s.fElse)) (h : nSs l ≤ 1000) : s219 M l = some (tDeep l) := by
  have hL := nSs_len l
  have hT : ∀ i, i < l.length → r217 l[i]!.fTerm = some (dT l[i]!.fTerm) := fun i hi => r217_eq _ (by have := nSs_mem (get_memL hi); have := nS_eq l[i]!; omega)
  obtain ⟨i, e1, hc⟩ := loopB (rnd := n219_0 M) l (fun i => ⟨l, (i : Int)⟩) (fun _ s => !deep1 s) (fun i hi => by
      obtain ⟨k1, k4⟩ := hM _ (get_memL hi)
      have hk := hT i hi
      have hw := w1L hi (by omega)
      unfold n219_0 deep1
      dsimp only
      simp only [Bool.cond_decide, Int.toNat_natCast, GTerm.eta, hk, k1, k4, hw]
      cases tDeep l[i]!.fThen <;> cases tDeep l[i]!.fElse <;> grind) (by unfold n219_0; simp)
  have e1' : a219_0 M ⟨l, 0⟩ = some ⟨l, (i : Int)⟩ := e1
  unfold s219
  rw [e1', tDeep_any]
  dsimp only
  rcases hc with ⟨rfl, hc⟩ | ⟨hi, hc⟩
  · rw [not_any fun j hj => by have := hc j hj; simpa using this]
    simp
  · have hc' : deep1 l[i]! = true := by simpa using hc
    rw [is_any hi hc']
    obtain ⟨k1, k4⟩ := hM _ (get_memL hi)
    have hk := hT i hi
    unfold deep1 at hc'
    simp only [Bool.cond_decide, Int.toNat_natCast, GTerm.eta, hk, k1, k4]
    revert hc'
    cases tDeep l[i]!.fThen <;> cases tDeep l[i]!.fElse <;> grind
theorem m219_eq : ∀ (n : Nat) (l : List GStep), SizeOf.sizeOf l < n → nSs l ≤ 1000 → m219 n l = some (tDeep l)
 | 0, _, h, _ => by omega
 | n + 1, l, h, h2 => s219_eq (m219 n) l (fun s hs => ⟨m219_eq n _ (by have := sizeOf_then hs; omega) (by have := then_le hs; omega), m219_eq n _ (by have := sizeOf_then hs; omega) (by have := then_le hs; omega)⟩) h2
theorem r219_eq (l : List GStep) (h : nSs l ≤ 1000) : r219 l = some (tDeep l) := lim_eq (SizeOf.sizeOf l + 1) fun n hn => m219_eq n l (by omega) h
def overM (b : Measure) : Bool := b.fDeep || decide (1024 < b.fNodes)
theorem m208_eq (b : Measure) : m208 b = (overM b, b) := by
 unfold m208 overM
 cases b.fDeep <;> rfl
def incM (d : Int) (b : Measure) : Measure := ⟨b.fNodes + 1, b.fDeep || decide (12 < d)⟩
def msT (t : GTerm) (d : Int) (b : Measure) : Measure := if overM (incM d b) = true then incM d b else t.fKids.attach.foldl (fun b k => msT k.1 (d + 1) b) (incM d b)
termination_by SizeOf.sizeOf t
decreasing_by exact GTerm.kids_lt k.2
def msTs (l : List GTerm) (d : Int) (b : Measure) : Measure := l.foldl (fun b k => msT k d b) b
theorem msT_eq (t : GTerm) (d : Int) (b : Measure) : msT t d b = if overM (incM d b) = true then incM d b else msTs t.fKids (d + 1) (incM d b) := by
 rw [msT, msTs]
 rw [show t.fKids.attach.foldl (fun b k => msT k.1 (d + 1) b) (incM d b) = t.fKids.foldl (fun b k => msT k (d + 1) b) (incM d b) from List.foldl_attach (f := fun b k => msT k (d + 1) b)]
theorem msTs_snoc (l : List GTerm) (k : GTerm) (d : Int) (b : Measure) : msTs (l ++ [k]) d b = msT k d (msTs l d b) := by simp [msTs]
def MsP (d0 : Int) (n : Int) (b r : Measure) : Prop := r.fDeep = (b.fDeep || decide (12 < d0)) ∧ b.fNodes ≤ r.fNodes ∧ r.fNodes ≤ b.fNodes + n
theorem msT_ok (t : GTerm) (d : Int) (b : Measure) (h0 : 0 ≤ d) (h1 : 0 ≤ b.fNodes) (h2 : b.fNodes + nT t ≤ 1000) : MsP (d - 1 + dT t) (nT t) b (msT t d b) := by
  have key : ∀ (n : Nat) (t : GTerm) (d : Int) (b : Measure), SizeOf.sizeOf t < n → 0 ≤ d → 0 ≤ b.fNodes → b.fNodes + nT t ≤ 1000 → MsP (d - 1 + dT t) (nT t) b (msT t d b) := by
    intro n
    induction n with
    | zero => intro t d b h; omega
    | succ n ih =>
      intro t d b h h0 h1 h2
      have hN := nT_eq t
      have hD := dT_eq t
      have hd0 := dTs_pos t.fKids
      rw [msT_eq]
      by_cases ho : overM (incM d b) = true
      · rw [if_pos ho]
        unfold overM incM at ho
        unfold MsP incM
        grind
      · rw [if_neg ho]
        have hi : ∀ i, i ≤ t.fKids.length → MsP (d + dTs (t.fKids.take i)) (nTs (t.fKids.take i)) (incM d b) (msTs (t.fKids.take i) (d + 1) (incM d b)) := by
          intro i
          induction i with
          | zero =>
            intro _
            unfold overM incM at ho
            simp only [List.take_zero, msTs, List.foldl_nil, MsP, dTs, nTs, List.map_nil, incM]
            grind
          | succ i ihi =>
            intro hi
            have q := ihi (by omega)
            have hs := nTs_step (show i < t.fKids.length by omega)
            have hm : t.fKids[i]! ∈ t.fKids := get_memL (by omega)
            have hp : (incM d b).fNodes = b.fNodes + 1 := rfl
            have q2 := ih t.fKids[i]! (d + 1) (msTs (t.fKids.take i) (d + 1) (incM d b)) (by have := GTerm.kids_lt hm; omega) (by omega) (by have := q.2.1; omega) (by have := q.2.2; omega)
            rw [take_succL (by omega), msTs_snoc, dTs_snoc, nTs_snoc]
            unfold MsP at q q2 ⊢
            obtain ⟨a1, a2, a3⟩ := q
            obtain ⟨c1, c2, c3⟩ := q2
            refine ⟨?_, by omega, by omega⟩
            rw [c1, a1]
            rw [Bool.or_assoc]
            congr 1
            rw [← Bool.decide_or]
            apply decide_eq_decide.2
            omega
        have q := hi t.fKids.length (Nat.le_refl _)
        rw [List.take_length] at q
        unfold MsP at q ⊢
        obtain ⟨a1, a2, a3⟩ := q
        unfold overM at ho
        have hp : (incM d b).fNodes = b.fNodes + 1 := rfl
        have hp2 : (incM d b).fDeep = (b.fDeep || decide (12 < d)) := rfl
        refine ⟨?_, by omega, by omega⟩
        rw [a1, hD, hp2]
        rw [hp2] at ho
        grind
  exact key _ t d b (Nat.lt_succ_self _) h0 h1 h2
theorem s209_eq (M : GTerm → Int → Measure → Option E209) (t : GTerm) (hM : ∀ k ∈ t.fKids, ∀ (d : Int) (b : Measure), 0 ≤ d → d ≤ 13 → 0 ≤ b.fNodes → b.fNodes + nT k ≤ 1000 → M k d b = some (msT k d b)) (d : Int) (b : Measure) (h0 : 0 ≤ d) (hd : d ≤ 13) (h1 : 0 ≤ b.fNodes) (h2 : b.fNodes + nT t ≤ 1000) : s209 M t d b = some (msT t d b) := by
  have hN := nT_eq t
  have hL := nTs_len t.fKids
  have hw0 : i64.wrap (b.fNodes + 1) = b.fNodes + 1 := wrap_id (by omega) (by omega)
  have hw1 : i64.wrap (d + 1) = d + 1 := wrap_id (by omega) (by omega)
  have hinc : ∀ x, (⟨b.fNodes + 1, x⟩ : Measure) = incM d b ↔ x = (b.fDeep || decide (12 < d)) := fun x => by unfold incM; simp
  have key : overM (incM d b) = false → d ≤ 12 ∧ a209_0 M ⟨d, t.fKids, (t.fKids.length : Int), 0, incM d b⟩ = some ⟨d, t.fKids, (t.fKids.length : Int), (t.fKids.length : Int), msTs t.fKids (d + 1) (incM d b)⟩ := fun ho => by
    have hd2 : d ≤ 12 := by unfold overM incM at ho; grind
    refine ⟨hd2, ?_⟩
    obtain ⟨v, e1, hv, _⟩ := loopI (rnd := n209_0 M) t.fKids.length (fun i (x : Measure) => ⟨d, t.fKids, (t.fKids.length : Int), (i : Int), x⟩) (fun i x => x = msTs (t.fKids.take i) (d + 1) (incM d b) ∧ b.fNodes + 1 ≤ x.fNodes ∧ x.fNodes ≤ b.fNodes + 1 + nTs (t.fKids.take i)) (fun i x hi hx => by
        have hs := nTs_step hi
        have hk := hM _ (get_memL hi) (d + 1) x (by omega) (by omega) (by omega) (by omega)
        have hp := msT_ok t.fKids[i]! (d + 1) x (by omega) (by omega) (by omega)
        have hw := w1L hi (by omega)
        refine ⟨msT t.fKids[i]! (d + 1) x, ?_, ?_⟩
        · unfold n209_0
          dsimp only
          simp only [Bool.cond_decide, Int.toNat_natCast, GTerm.eta, hw1, hk, hw]
          grind
        · unfold MsP at hp
          rw [take_succL hi, msTs_snoc, ← hx.1, nTs_snoc]
          exact ⟨rfl, by omega, by omega⟩) (fun x _ => by unfold n209_0; simp) (b := incM d b) ⟨rfl, Int.le_refl _, by show b.fNodes + 1 ≤ _; simp [nTs]⟩
    rw [List.take_length] at hv
    rw [← hv]
    exact e1
  rw [msT_eq]
  unfold s209
  rw [hw0]
  have hm : ∀ x, x = (b.fDeep || decide (12 < d)) → m208 ⟨b.fNodes + 1, x⟩ = (overM (incM d b), incM d b) := fun x hx => by rw [m208_eq, (hinc x).2 hx]
  cases hb : b.fDeep with
  | true =>
    rw [hm true (by rw [hb]; rfl)]
    have ho : overM (incM d b) = true := by unfold overM incM; simp [hb]
    simp [ho]
  | false =>
    rw [hm (decide (12 < d)) (by rw [hb]; rfl)]
    cases ho : overM (incM d b) with
    | true => simp
    | false =>
      obtain ⟨_, e⟩ := key ho
      rw [e]
      simp
theorem m209_eq : ∀ (n : Nat) (t : GTerm) (d : Int) (b : Measure), SizeOf.sizeOf t < n → 0 ≤ d → d ≤ 13 → 0 ≤ b.fNodes → b.fNodes + nT t ≤ 1000 → m209 n t d b = some (msT t d b)
 | 0, _, _, _, h, _, _, _, _ => by omega
 | n + 1, t, d, b, h, h0, hd, h1, h2 => s209_eq (m209 n) t (fun k hk d b a1 a2 a3 a4 => m209_eq n k d b (by have := GTerm.kids_lt hk; omega) a1 a2 a3 a4) d b h0 hd h1 h2
theorem r209_eq (t : GTerm) (d : Int) (b : Measure) (h0 : 0 ≤ d) (hd : d ≤ 13) (h1 : 0 ≤ b.fNodes) (h2 : b.fNodes + nT t ≤ 1000) : r209 t d b = some (msT t d b) := lim_eq (SizeOf.sizeOf t + 1) fun n hn => m209_eq n t d b (by omega) h0 hd h1 h2
def msS (d : Int) : List GStep → Measure → Measure
 | [], b => b
 | s :: l, b => if overM (incM d b) = true then incM d b else msS d l (msS (d + 1) s.fElse (msS (d + 1) s.fThen (msT s.fTerm 1 (incM d b))))
termination_by l => SizeOf.sizeOf l
decreasing_by
  · exact (sizeOf_then (List.mem_cons_self ..)).1
  · exact (sizeOf_then (List.mem_cons_self ..)).2
  · exact size_tail _ _
theorem msS_ok (d : Int) (l : List GStep) (b : Measure) (h0 : 0 ≤ d) (hd : d ≤ 13) (h1 : 0 ≤ b.fNodes) (h2 : b.fNodes + nSs l ≤ 1000) : (msS d l b).fDeep = (b.fDeep || (decide (12 < d - 1 + dSs l) || tDeep l)) ∧ b.fNodes ≤ (msS d l b).fNodes ∧ (msS d l b).fNodes ≤ b.fNodes + nSs l := by
  have key : ∀ (n : Nat) (d : Int) (l : List GStep) (b : Measure), SizeOf.sizeOf l < n → 0 ≤ d → d ≤ 13 → 0 ≤ b.fNodes → b.fNodes + nSs l ≤ 1000 → (msS d l b).fDeep = (b.fDeep || (decide (12 < d - 1 + dSs l) || tDeep l)) ∧ b.fNodes ≤ (msS d l b).fNodes ∧ (msS d l b).fNodes ≤ b.fNodes + nSs l := by
    intro n
    induction n with
    | zero => intro d l b h; omega
    | succ n ih =>
      intro d l b h h0 hd h1 h2
      cases l with
      | nil =>
        rw [msS, dSs, tDeep]
        refine ⟨?_, by omega, by simp [nSs]⟩
        rw [decide_eq_false (by omega)]
        simp
      | cons s l =>
        have hz := sizeOf_then (l := s :: l) (List.mem_cons_self ..)
        have hz2 := size_tail s l
        have hN := nS_eq s
        have hC := nSs_cons s l
        have p1 := dSs_pos s.fThen
        have p2 := dSs_pos s.fElse
        have p3 := dSs_pos l
        have p4 := dT_pos s.fTerm
        have hp : (incM d b).fNodes = b.fNodes + 1 := rfl
        have hp2 : (incM d b).fDeep = (b.fDeep || decide (12 < d)) := rfl
        rw [msS, dSs, tDeep]
        by_cases ho : overM (incM d b) = true
        · rw [if_pos ho]
          unfold overM incM at ho
          unfold incM
          dsimp only at ho ⊢
          refine ⟨?_, by omega, by omega⟩
          grind
        · rw [if_neg ho]
          unfold overM at ho
          rw [hp, hp2] at ho
          have hb : b.fDeep = false := by grind
          have hd2 : d ≤ 12 := by grind
          obtain ⟨a1, a2, a3⟩ := msT_ok s.fTerm 1 (incM d b) (by omega) (by omega) (by omega)
          obtain ⟨c1, c2, c3⟩ := ih (d + 1) s.fThen (msT s.fTerm 1 (incM d b)) (by omega) (by omega) (by omega) (by omega) (by omega)
          obtain ⟨g1, g2, g3⟩ := ih (d + 1) s.fElse _ (by omega) (by omega) (by omega) (Int.le_trans (by omega) c2) (by omega)
          obtain ⟨k1, k2, k3⟩ := ih d l _ (by omega) h0 hd (Int.le_trans (by omega) g2) (by omega)
          refine ⟨?_, by omega, by omega⟩
          rw [k1, g1, c1, a1, hp2, hb]
          rw [decide_eq_false (show ¬ 12 < d by omega)]
          have e1 : decide (12 < 1 - 1 + dT s.fTerm) = decide (12 < dT s.fTerm) := by congr 1; rw [show (1 : Int) - 1 + dT s.fTerm = dT s.fTerm by omega]
          rw [e1]
          have e2 : decide (12 < d - 1 + max (max (dSs s.fThen + 1) (dSs s.fElse + 1)) (dSs l)) = (decide (12 < d + 1 - 1 + dSs s.fThen) || (decide (12 < d + 1 - 1 + dSs s.fElse) || decide (12 < d - 1 + dSs l))) := by
            rw [← Bool.decide_or, ← Bool.decide_or]
            apply decide_eq_decide.2
            omega
          rw [e2]
          generalize decide (12 < dT s.fTerm) = x1
          generalize decide (12 < d + 1 - 1 + dSs s.fThen) = x2
          generalize decide (12 < d + 1 - 1 + dSs s.fElse) = x3
          generalize decide (12 < d - 1 + dSs l) = x4
          generalize tDeep s.fThen = x5
          generalize tDeep s.fElse = x6
          generalize tDeep l = x7
          revert x1 x2 x3 x4 x5 x6 x7
          decide
  exact key _ d l b (Nat.lt_succ_self _) h0 hd h1 h2
end Go.Proofs.YtnfljbehcffmcaaGreat
end
noncomputable section
namespace Go.Proofs.YtnfljbehcffmcaaGreat
open Go Go.Iv
theorem baList (l : List UInt8) : (ByteArray.mk (Array.mk l)).toList = l := by
 have key : ∀ (k i : Nat) (acc : List UInt8), i + k = l.length → ByteArray.toList.loop (ByteArray.mk (Array.mk l)) i acc = acc.reverse ++ l.drop i := by
  intro k
  induction k with
  | zero =>
   intro i acc h
   rw [ByteArray.toList.loop]
   have hs : (ByteArray.mk (Array.mk l)).size = l.length := rfl
   rw [if_neg (by rw [hs]; omega)]
   rw [List.drop_of_length_le (by omega), List.append_nil]
  | succ k ih =>
   intro i acc h
   rw [ByteArray.toList.loop]
   have hs : (ByteArray.mk (Array.mk l)).size = l.length := rfl
   rw [if_pos (by rw [hs]; omega), ih (i + 1) _ (by omega)]
   have hi : i < l.length := by omega
   rw [List.drop_eq_getElem_cons hi]
   have : (ByteArray.mk (Array.mk l)).get! i = l[i] := by
    show (Array.mk l)[i]! = _
    rw [getElem!_pos (Array.mk l) i hi]
    rfl
   rw [this]
   simp
 have := key l.length 0 [] (by omega)
 simpa [ByteArray.toList] using this
theorem emptyS (s : ByteArray) : (s.toList == (ByteArray.mk (Array.mk [])).toList) = decide (s.size = 0) := by
 obtain ⟨⟨l⟩⟩ := s
 rw [baList, baList]
 have hs : (ByteArray.mk (Array.mk l)).size = l.length := rfl
 rw [hs]
 cases l with
 | nil => rfl
 | cons a l => simp
theorem range_get {n i : Nat} (h : i < n) : (List.range n)[i]! = i := by rw [getElem!_pos _ i (by simpa using h)]; simp
theorem m261_eq (s : ByteArray) : m261 s = some (nameB s) := by
  unfold m261
  rw [emptyS]
  by_cases h0 : s.size = 0
  · simp [h0, nameB]
  by_cases h1 : 40 < (s.size : Int)
  · have h1' : ¬ s.size ≤ 40 := by omega
    simp [h0, h1, h1', nameB]
  rw [decide_eq_false h0, decide_eq_false h1]
  dsimp only [cond_false]
  obtain ⟨i, e1, hc⟩ := loopB (rnd := n261_0) (List.range s.size) (fun i => ⟨s, (s.size : Int), (i : Int)⟩) (fun i j => okc j (byteAt s j)) (fun i hi => by
    rw [List.length_range] at hi
    have hw := w1L hi (by omega)
    rw [range_get hi]
    unfold n261_0 okc
    dsimp only
    simp only [Bool.cond_decide, Int.toNat_natCast]
    grind) (by unfold n261_0; simp)
  have e1' : a261_0 ⟨s, (s.size : Int), 0⟩ = some ⟨s, (s.size : Int), (i : Int)⟩ := e1
  rw [e1']
  have h2 : nameB s = (List.range s.size).all fun i => okc i (byteAt s i) := by
    unfold nameB
    rw [decide_eq_true (by omega), decide_eq_true (by omega)]
    simp
  rw [h2]
  dsimp only
  rcases hc with ⟨rfl, hc⟩ | ⟨hi, hc⟩
  · rw [all_of hc]
    simp
  · rw [not_all hi hc]
    rw [List.length_range] at hi
    rw [range_get hi] at hc
    unfold okc at hc
    simp only [Bool.cond_decide, Int.toNat_natCast]
    grind
theorem m140_eq (s : ByteArray) : m140 s = some (nameB s) := by
  unfold m140
  by_cases h0 : s.size < 1
  · have h0' : ¬ 1 ≤ s.size := by omega
    have h0'' : (s.size : Int) < 1 := by omega
    simp [h0'', h0', nameB]
  by_cases h1 : 40 < (s.size : Int)
  · have h1' : ¬ s.size ≤ 40 := by omega
    have h0'' : ¬ (s.size : Int) < 1 := by omega
    simp [h0'', h1, h1', nameB]
  rw [decide_eq_false (show ¬ (s.size : Int) < 1 by omega), decide_eq_false h1]
  dsimp only [cond_false]
  obtain ⟨i, e1, hc⟩ := loopB (rnd := n140_0) (List.range s.size) (fun i => ⟨s, (i : Int)⟩) (fun i j => okc j (byteAt s j)) (fun i hi => by
    rw [List.length_range] at hi
    have hw := w1L hi (by omega)
    rw [range_get hi]
    unfold n140_0 okc
    dsimp only
    simp only [Bool.cond_decide, Int.toNat_natCast]
    grind) (by unfold n140_0; simp)
  have e1' : a140_0 ⟨s, 0⟩ = some ⟨s, (i : Int)⟩ := e1
  rw [e1']
  have h2 : nameB s = (List.range s.size).all fun i => okc i (byteAt s i) := by
    unfold nameB
    rw [decide_eq_true (by omega), decide_eq_true (by omega)]
    simp
  rw [h2]
  dsimp only
  rcases hc with ⟨rfl, hc⟩ | ⟨hi, hc⟩
  · rw [all_of hc]
    simp
  · rw [not_all hi hc]
    rw [List.length_range] at hi
    rw [range_get hi] at hc
    unfold okc at hc
    simp only [Bool.cond_decide, Int.toNat_natCast]
    grind
theorem m263_eq (a b : Int) : m263 a b = boundB a b := by
 unfold m263 boundB
 simp only [Bool.cond_decide]
 grind
theorem m141_eq (a b : Int) : m141 a b = boundB a b := by
 unfold m141 boundB
 simp only [Bool.cond_decide]
 grind
theorem m262_eq (l : List GVar) (hl : l.length ≤ 1000000) (v : GVar) : m262 l v = some (l.any fun w => w.fName.toList == v.fName.toList) := by
  obtain ⟨i, e1, hc⟩ := loopB (rnd := n303_0) l (fun i => ⟨l, v.fName, v.fKind, v.fLow, v.fHigh, v.fInit, (l.length : Int), (i : Int)⟩) (fun _ w => !(w.fName.toList == v.fName.toList)) (fun i hi => by
    have hw := w1L hi hl
    unfold n303_0 m260
    dsimp only
    simp only [Bool.cond_decide, Int.toNat_natCast]
    grind) (by unfold n303_0; simp)
  have e1' : a303_0 ⟨l, v.fName, v.fKind, v.fLow, v.fHigh, v.fInit, (l.length : Int), 0⟩ = some ⟨l, v.fName, v.fKind, v.fLow, v.fHigh, v.fInit, (l.length : Int), (i : Int)⟩ := e1
  unfold m262 m303
  rw [e1']
  dsimp only
  rcases hc with ⟨rfl, hc⟩ | ⟨hi, hc⟩
  · rw [not_any fun j hj => by have := hc j hj; simpa using this]
    simp
  · have hc' : (l[i]!.fName.toList == v.fName.toList) = true := by simpa using hc
    rw [is_any hi hc']
    unfold m260
    simp only [Int.toNat_natCast, hc', cond_true]
    simp [hi]
theorem a139_1_eq (l : List GVar) (hl : l.length ≤ 1000000) (n : Nat) (hn : n ≤ l.length) (v : GVar) :
    ∃ i : Nat, a139_1 ⟨l, n, 0, v⟩ = some ⟨l, n, (i : Int), v⟩ ∧ ((i = n ∧ ((l.take n).any fun w => w.fName.toList == v.fName.toList) = false) ∨ (i < n ∧ (l[i]!.fName.toList == v.fName.toList) = true ∧ ((l.take n).any fun w => w.fName.toList == v.fName.toList) = true)) := by
  have hlen : (l.take n).length = n := by rw [List.length_take]; omega
  have hget : ∀ i, i < n → (l.take n)[i]! = l[i]! := fun i hi => by
    rw [getElem!_pos _ i (by omega), getElem!_pos _ i (by omega), List.getElem_take]
  obtain ⟨i, e1, hc⟩ := loopB (rnd := n139_1) (l.take n) (fun i => ⟨l, (n : Int), (i : Int), v⟩) (fun _ w => !(w.fName.toList == v.fName.toList)) (fun i hi => by
    rw [hlen] at hi
    have hw := w1L hi (by omega)
    rw [hget i hi]
    unfold n139_1
    dsimp only
    simp only [Bool.cond_decide, Int.toNat_natCast]
    grind) (by rw [hlen]; unfold n139_1; simp)
  refine ⟨i, e1, ?_⟩
  rw [hlen] at hc
  rcases hc with ⟨rfl, hc⟩ | ⟨hi, hc⟩
  · exact .inl ⟨rfl, not_any fun j hj => by have := hc j (by omega); simpa using this⟩
  · have hc' : ((l.take n)[i]!.fName.toList == v.fName.toList) = true := by simpa using hc
    exact .inr ⟨hi, by rw [← hget i hi]; exact hc', is_any (by omega) hc'⟩
end Go.Proofs.YtnfljbehcffmcaaGreat
end
noncomputable section
namespace Go.Proofs.YtnfljbehcffmcaaGreat
open Go Go.Iv
open Go.IntKind (i64)
theorem firstC_zero {α : Type} [Inhabited α] {c : Nat → α → Int} : ∀ (l : List α) (i : Nat), firstC c l i = 0 → ∀ j, j < l.length → c (i + j) l[j]! = 0
  | [], i, _, j, hj => by simp at hj
  | x :: xs, i, h, j, hj => by
    unfold firstC at h
    split at h
    · rename_i hx
      cases j with
      | zero => exact hx
      | succ j =>
        have := firstC_zero xs (i + 1) h j (by simpa using hj)
        rw [show i + 1 + j = i + (j + 1) by omega] at this
        simpa using this
    · rename_i hx; exact absurd h hx
def VarsOk (vars : List GVar) : Prop := ∀ v ∈ vars, -1048576 ≤ v.fLow ∧ v.fLow ≤ v.fHigh ∧ v.fHigh ≤ 1048576
theorem varC_zero {vars : List GVar} {i : Nat} {v : GVar} (h : varC vars i v = 0) : -1048576 ≤ v.fLow ∧ v.fLow ≤ v.fHigh ∧ v.fHigh ≤ 1048576 := by
 unfold varC boundB at h
 grind
theorem varsOk_of {vars : List GVar} (h : firstC (varC vars) vars 0 = 0) : VarsOk vars := fun v hv => by
 obtain ⟨i, hi, e⟩ := List.getElem_of_mem hv
 have := firstC_zero _ _ h i hi
 rw [getElem!_pos vars i hi, e] at this
 exact varC_zero this
theorem spc_filter (kind : Int) : ∀ (l : List GVar) (i : Nat) (n : Int), goE (fun _ (n : Int) (v : GVar) => if 4096 < n * (v.fHigh - v.fLow + 1) then (.inr () : Int ⊕ Unit) else .inl (n * (v.fHigh - v.fLow + 1))) (fun _ => (none : Option Int)) some (l.filter fun v => decide (v.fKind = kind)) i n = spc kind l n
  | [], i, n => rfl
  | v :: vs, i, n => by
    unfold spc
    by_cases hv : v.fKind = kind
    · rw [List.filter_cons_of_pos (by simpa using hv), if_pos hv]
      by_cases h : 4096 < n * (v.fHigh - v.fLow + 1)
      · rw [if_pos h, goE_inr (r := ()) (by rw [if_pos h])]
      · rw [if_neg h, goE_inl (by rw [if_neg h])]
        exact spc_filter kind vs (i + 1) _
    · rw [List.filter_cons_of_neg (by simpa using hv), if_neg hv]
      exact spc_filter kind vs i n
theorem spc_skip (kind : Int) : ∀ (l : List GVar) (i : Nat) (n : Int), goE (fun _ (n : Int) (v : GVar) => if v.fKind = kind then (if 4096 < n * (v.fHigh - v.fLow + 1) then (.inr () : Int ⊕ Unit) else .inl (n * (v.fHigh - v.fLow + 1))) else .inl n) (fun _ => (none : Option Int)) some l i n = spc kind l n
  | [], i, n => rfl
  | v :: vs, i, n => by
    unfold spc
    by_cases hv : v.fKind = kind
    · rw [if_pos hv]
      by_cases h : 4096 < n * (v.fHigh - v.fLow + 1)
      · rw [if_pos h, goE_inr (r := ()) (by rw [if_pos hv, if_pos h])]
      · rw [if_neg h, goE_inl (b' := n * (v.fHigh - v.fLow + 1)) (by rw [if_pos hv, if_neg h])]
        exact spc_skip kind vs (i + 1) _
    · rw [if_neg hv, goE_inl (b' := n) (by rw [if_neg hv])]
      exact spc_skip kind vs (i + 1) n
theorem size_bd {v : GVar} (h : -1048576 ≤ v.fLow ∧ v.fLow ≤ v.fHigh ∧ v.fHigh ≤ 1048576) {n : Int} (h1 : 1 ≤ n) (h2 : n ≤ 4096) :
  1 ≤ n * (v.fHigh - v.fLow + 1) ∧ i64.wrap (v.fHigh - v.fLow) = v.fHigh - v.fLow ∧ i64.wrap (v.fHigh - v.fLow + 1) = v.fHigh - v.fLow + 1 ∧ i64.wrap (n * (v.fHigh - v.fLow + 1)) = n * (v.fHigh - v.fLow + 1) := by
 have e1 : 0 ≤ (n - 1) * (v.fHigh - v.fLow + 1) := Int.mul_nonneg (by omega) (by omega)
 have e2 : n * (v.fHigh - v.fLow + 1) ≤ 4096 * (v.fHigh - v.fLow + 1) := Int.mul_le_mul_of_nonneg_right h2 (by omega)
 have e3 : (n - 1) * (v.fHigh - v.fLow + 1) = n * (v.fHigh - v.fLow + 1) - (v.fHigh - v.fLow + 1) := by rw [Int.sub_mul, Int.one_mul]
 exact ⟨by omega, wrap_id (by omega) (by omega), wrap_id (by omega) (by omega), wrap_id (by omega) (by omega)⟩
theorem a304_0_eq (vars : List GVar) (hv : VarsOk vars) (hl : vars.length ≤ 1000000) (kind : Int) : a304_0 ⟨kind, [], vars, (vars.length : Int), 0⟩ = some ⟨kind, vars.filter (fun v => decide (v.fKind = kind)), vars, (vars.length : Int), (vars.length : Int)⟩ := by
  obtain ⟨v, e1, hV⟩ := loopI (rnd := n304_0) vars.length (fun i (b : List GVar) => ⟨kind, b, vars, (vars.length : Int), (i : Int)⟩) (fun i b => b = (vars.take i).filter fun v => decide (v.fKind = kind)) (fun i b hi hb => by
    have hw := w1L hi hl
    have hv := hv _ (get_memL hi)
    have hb2 : b.length ≤ i := by rw [hb]; exact Nat.le_trans (List.length_filter_le _ _) (by rw [List.length_take]; omega)
    rw [take_succL hi, List.filter_append, ← hb]
    by_cases hk : vars[i]!.fKind = kind
    · refine ⟨b ++ [vars[i]!], ?_, ?_⟩
      · have hl2 : (b ++ [vars[i]!]).length ≤ 1073741824 := by simp; omega
        unfold n304_0
        dsimp only
        simp only [Bool.cond_decide, Int.toNat_natCast]
        grind
      · revert hk
        generalize vars[i]! = x
        intro hk
        simp [hk]
    · refine ⟨b, ?_, ?_⟩
      · unfold n304_0
        dsimp only
        simp only [Bool.cond_decide, Int.toNat_natCast]
        grind
      · revert hk
        generalize vars[i]! = x
        intro hk
        simp [hk]) (fun b _ => by unfold n304_0; simp) (b := []) rfl
  rw [List.take_length] at hV
  rw [← hV]
  exact e1
theorem a304_1_eq (F : List GVar) (hv : VarsOk F) (hl : F.length ≤ 1000000) :
    ∃ (i : Nat) (n : Int), a304_1 ⟨F, 1, F, (F.length : Int), 0⟩ = some ⟨F, n, F, (F.length : Int), (i : Int)⟩ ∧ ((i = F.length ∧ goE (fun _ (n : Int) (v : GVar) => if 4096 < n * (v.fHigh - v.fLow + 1) then (.inr () : Int ⊕ Unit) else .inl (n * (v.fHigh - v.fLow + 1))) (fun _ => (none : Option Int)) some F 0 1 = some n) ∨
      (i < F.length ∧ 4096 < i64.wrap (n * m337 F[i]!) ∧ goE (fun _ (n : Int) (v : GVar) => if 4096 < n * (v.fHigh - v.fLow + 1) then (.inr () : Int ⊕ Unit) else .inl (n * (v.fHigh - v.fLow + 1))) (fun _ => (none : Option Int)) some F 0 1 = none)) := by
  have hm : ∀ (i : Nat) (n : Int), i < F.length → 1 ≤ n → n ≤ 4096 → i64.wrap (n * m337 F[i]!) = n * (F[i]!.fHigh - F[i]!.fLow + 1) := fun i n hi h1 h2 => by
    obtain ⟨a, b, c, d⟩ := size_bd (hv _ (get_memL hi)) h1 h2
    unfold m337
    rw [b, c, d]
  obtain ⟨i, n, e1, hI, hc⟩ := loopV (rnd := n304_1) F (fun i (n : Int) => ⟨F, n, F, (F.length : Int), (i : Int)⟩) (fun _ (n : Int) (v : GVar) => if 4096 < n * (v.fHigh - v.fLow + 1) then (.inr () : Int ⊕ Unit) else .inl (n * (v.fHigh - v.fLow + 1))) (fun _ => (none : Option Int)) some (fun i n => 1 ≤ n ∧ n ≤ 4096) (fun i n hi hI => by
    have hw := w1L hi hl
    have h1 := hm i n hi hI.1 hI.2
    have h2 := (size_bd (hv _ (get_memL hi)) hI.1 hI.2).1
    unfold n304_1
    dsimp only
    simp only [Bool.cond_decide, Int.toNat_natCast, h1]
    grind) (fun b _ => by unfold n304_1; simp) (b := 1) ⟨by omega, by omega⟩
  refine ⟨i, n, e1, ?_⟩
  rcases hc with ⟨h1, h2⟩ | ⟨h1, r, h2, h3⟩
  · exact .inl ⟨h1, h2⟩
  · refine .inr ⟨h1, ?_, h3⟩
    rw [hm i n h1 hI.1 hI.2]
    by_cases h : 4096 < n * (F[i]!.fHigh - F[i]!.fLow + 1)
    · exact h
    · rw [if_neg h] at h2
      cases h2
theorem m264_eq (vars : List GVar) (hv : VarsOk vars) (hl : vars.length ≤ 1000000) (kind : Int) (hk : kind = 1 ∨ kind = 2 ∨ kind = 3) : m264 vars kind = some (match spc kind vars 1 with | some n => (n, 0) | none => (0, 4)) := by
  have e0 := a304_0_eq vars hv hl kind
  obtain ⟨i, n, e1, hc⟩ := a304_1_eq (vars.filter fun v => decide (v.fKind = kind)) (fun v h => hv v (List.mem_filter.1 h).1) (Nat.le_trans (List.length_filter_le _ _) hl)
  rw [spc_filter] at hc
  unfold m264 m304
  rcases hk with rfl | rfl | rfl
  all_goals
    simp only [Bool.cond_decide, e0, e1, Int.reduceEq, if_true, if_false, reduceIte]
    rcases hc with ⟨rfl, hc⟩ | ⟨hi, h2, hc⟩
    · simp [hc]
    · simp only [Int.toNat_natCast, h2, if_true, hc]
      simp [hi]
theorem m220_eq (vars : List GVar) (hv : VarsOk vars) (hl : vars.length ≤ 1000000) (kind : Int) : m220 vars kind = some (match spc kind vars 1 with | some n => n | none => 4097) := by
  have hm : ∀ (i : Nat) (n : Int), i < vars.length → 1 ≤ n → n ≤ 4096 → i64.wrap (n * i64.wrap (i64.wrap (vars[i]!.fHigh - vars[i]!.fLow) + 1)) = n * (vars[i]!.fHigh - vars[i]!.fLow + 1) := fun i n hi h1 h2 => by
    obtain ⟨a, b, c, d⟩ := size_bd (hv _ (get_memL hi)) h1 h2
    rw [b, c, d]
  obtain ⟨i, n, e1, hI, hc⟩ := loopV (rnd := n220_0) vars (fun i (n : Int) => ⟨vars, kind, n, (i : Int)⟩) (fun _ (n : Int) (v : GVar) => if v.fKind = kind then (if 4096 < n * (v.fHigh - v.fLow + 1) then (.inr () : Int ⊕ Unit) else .inl (n * (v.fHigh - v.fLow + 1))) else .inl n) (fun _ => (none : Option Int)) some (fun i n => 1 ≤ n ∧ n ≤ 4096) (fun i n hi hI => by
    have hw := w1L hi hl
    have h1 := hm i n hi hI.1 hI.2
    have h2 := (size_bd (hv _ (get_memL hi)) hI.1 hI.2).1
    unfold n220_0
    dsimp only
    simp only [Bool.cond_decide, Int.toNat_natCast, h1]
    grind) (fun b _ => by unfold n220_0; simp) (b := 1) ⟨by omega, by omega⟩
  rw [spc_skip] at hc
  have e1' : a220_0 ⟨vars, kind, 1, 0⟩ = some ⟨vars, kind, n, (i : Int)⟩ := e1
  unfold m220
  rw [e1']
  dsimp only
  rcases hc with ⟨rfl, hc⟩ | ⟨hi, r, h2, hc⟩
  · simp [hc]
  · have h1 := hm i n hi hI.1 hI.2
    simp only [Bool.cond_decide, Int.toNat_natCast, h1, hc]
    grind
theorem spc_bd (kind : Int) : ∀ (l : List GVar) (n m : Int), n ≤ 4096 → spc kind l n = some m → m ≤ 4096
  | [], n, m, h, e => by unfold spc at e; cases e; exact h
  | v :: vs, n, m, h, e => by
    unfold spc at e
    split at e
    · split at e
      · cases e
      · exact spc_bd kind vs _ m (by omega) e
    · exact spc_bd kind vs n m h e
theorem round111 (vars : List GVar) (hl : vars.length ≤ 1000000) (i : Nat) (hi : i < vars.length) : (varC vars i vars[i]! = 0 → n210_0 ⟨vars, vars, (vars.length : Int), (i : Int)⟩ = some (some ⟨vars, vars, (vars.length : Int), ((i + 1 : Nat) : Int)⟩)) ∧ (varC vars i vars[i]! ≠ 0 → n210_0 ⟨vars, vars, (vars.length : Int), (i : Int)⟩ = some none) := by
 have hw := w1L hi hl
 have h1 := m261_eq vars[i]!.fName
 have h2 := m262_eq (vars.take i) (by rw [List.length_take]; omega) vars[i]!
 unfold n210_0 varC
 dsimp only
 simp only [Bool.cond_decide, Int.toNat_natCast, m263_eq, h1, h2]
 generalize nameB vars[i]!.fName = B
 generalize ((vars.take i).any fun w => w.fName.toList == vars[i]!.fName.toList) = A
 generalize boundB vars[i]!.fLow vars[i]!.fHigh = C
 cases A <;> cases B <;> cases C <;> simp only [cond_true, cond_false] <;> grind
theorem m210_eq (vars : List GVar) (hl : vars.length ≤ 1000000) : m210 vars = some (varsC vars) := by
  obtain ⟨i, e1, hc⟩ := loopC (rnd := n210_0) vars (fun i => ⟨vars, vars, (vars.length : Int), (i : Int)⟩) (varC vars) (fun i hi => round111 vars hl i hi) (by unfold n210_0; simp)
  have e1' : a210_0 ⟨vars, vars, (vars.length : Int), 0⟩ = some ⟨vars, vars, (vars.length : Int), (i : Int)⟩ := e1
  unfold m210 varsC
  rw [e1']
  dsimp only
  rcases hc with ⟨rfl, hc⟩ | ⟨hi, h0, hc⟩
  · have hv := varsOk_of hc
    rw [decide_eq_false (by omega), cond_false, if_neg (by rw [hc]; simp)]
    have hr : ∀ k : Nat, k < 3 → i64.wrap ((k : Int) + 1) = ((k + 1 : Nat) : Int) := fun k hk => w1L hk (by decide)
    have k1 := m264_eq vars hv hl 1 (.inl rfl)
    have k2 := m264_eq vars hv hl 2 (.inr (.inl rfl))
    have k3 := m264_eq vars hv hl 3 (.inr (.inr rfl))
    have r1 : n210_1 ⟨vars, [1, 2, 3], 3, 0⟩ = match spc 1 vars 1 with | some _ => some (some ⟨vars, [1, 2, 3], 3, 1⟩) | none => some none := by
      unfold n210_1
      simp [k1]
      cases spc 1 vars 1 with
      | none => simp
      | some n => simp; exact hr 0 (by decide)
    have r2 : n210_1 ⟨vars, [1, 2, 3], 3, 1⟩ = match spc 2 vars 1 with | some _ => some (some ⟨vars, [1, 2, 3], 3, 2⟩) | none => some none := by
      unfold n210_1
      simp [k2]
      cases spc 2 vars 1 with
      | none => simp
      | some n => simp; exact hr 1 (by decide)
    have r3 : n210_1 ⟨vars, [1, 2, 3], 3, 2⟩ = match spc 3 vars 1 with | some n => if 256 < n then some none else some (some ⟨vars, [1, 2, 3], 3, 3⟩) | none => some none := by
      unfold n210_1
      simp [k3]
      cases spc 3 vars 1 with
      | none => simp
      | some n =>
        by_cases h : 256 < n
        · simp [h]
        · simp [h]; exact hr 2 (by decide)
    unfold spaceB
    cases s1 : spc 1 vars 1 with
    | none =>
      rw [s1] at r1 k1
      have e : a210_1 ⟨vars, [1, 2, 3], 3, 0⟩ = some ⟨vars, [1, 2, 3], 3, 0⟩ := advG_stop fun r => by rw [r1]; simp
      rw [show ((↑(3 : Int) : Int)) = 3 from rfl, e]
      simp [k1]
    | some n1 =>
      rw [s1] at r1 k1
      cases s2 : spc 2 vars 1 with
      | none =>
        rw [s2] at r2 k2
        have e : a210_1 ⟨vars, [1, 2, 3], 3, 0⟩ = some ⟨vars, [1, 2, 3], 3, 1⟩ := (advG_step r1).trans (advG_stop fun r => by rw [r2]; simp)
        rw [show ((↑(3 : Int) : Int)) = 3 from rfl, e]
        simp [k2]
      | some n2 =>
        rw [s2] at r2 k2
        cases s3 : spc 3 vars 1 with
        | none =>
          rw [s3] at r3 k3
          have e : a210_1 ⟨vars, [1, 2, 3], 3, 0⟩ = some ⟨vars, [1, 2, 3], 3, 2⟩ := (advG_step r1).trans ((advG_step r2).trans (advG_stop fun r => by rw [r3]; simp))
          rw [show ((↑(3 : Int) : Int)) = 3 from rfl, e]
          simp [k3]
        | some n3 =>
          rw [s3] at r3 k3
          dsimp only at r3
          by_cases h : 256 < n3
          · rw [if_pos h] at r3
            have e : a210_1 ⟨vars, [1, 2, 3], 3, 0⟩ = some ⟨vars, [1, 2, 3], 3, 2⟩ := (advG_step r1).trans ((advG_step r2).trans (advG_stop fun r => by rw [r3]; simp))
            rw [show ((↑(3 : Int) : Int)) = 3 from rfl, e]
            simp [k3, h]
          · rw [if_neg h] at r3
            have e : a210_1 ⟨vars, [1, 2, 3], 3, 0⟩ = some ⟨vars, [1, 2, 3], 3, 3⟩ := (advG_step r1).trans ((advG_step r2).trans ((advG_step r3).trans (advG_stop fun r => by unfold n210_1; simp)))
            rw [show ((↑(3 : Int) : Int)) = 3 from rfl, e]
            simp [h]
  · have h1 := m261_eq vars[i]!.fName
    have h2 := m262_eq (vars.take i) (by rw [List.length_take]; omega) vars[i]!
    rw [hc, if_pos h0]
    rw [decide_eq_true (by omega), cond_true, if_pos ⟨by omega, by omega⟩]
    revert h0
    unfold varC
    simp only [Bool.cond_decide, Int.toNat_natCast, m263_eq, h1, h2]
    generalize nameB vars[i]!.fName = B
    generalize ((vars.take i).any fun w => w.fName.toList == vars[i]!.fName.toList) = A
    generalize boundB vars[i]!.fLow vars[i]!.fHigh = C
    intro h0
    cases A <;> cases B <;> cases C <;> simp only [cond_true, cond_false] at h0 ⊢ <;> grind
theorem round59 (vars : List GVar) (hl : vars.length ≤ 1000000) (i : Nat) (hi : i < vars.length) : (varC vars i vars[i]! = 0 → n139_0 ⟨vars, (i : Int)⟩ = some (some ⟨vars, ((i + 1 : Nat) : Int)⟩)) ∧ (varC vars i vars[i]! ≠ 0 → n139_0 ⟨vars, (i : Int)⟩ = some none) := by
  have hw := w1L hi hl
  have h1 := m140_eq vars[i]!.fName
  obtain ⟨j, h2, h3⟩ := a139_1_eq vars hl i (by omega) vars[i]!
  unfold n139_0 varC
  dsimp only
  simp only [Bool.cond_decide, Int.toNat_natCast, m141_eq, h1, h2]
  generalize nameB vars[i]!.fName = B
  generalize ((vars.take i).any fun w => w.fName.toList == vars[i]!.fName.toList) = A at h3
  generalize boundB vars[i]!.fLow vars[i]!.fHigh = C
  rcases h3 with ⟨rfl, rfl⟩ | ⟨hj, h4, rfl⟩
  · cases B <;> cases C <;> simp only [cond_true, cond_false] <;> grind
  · simp only [h4]
    cases B <;> cases C <;> simp only [cond_true, cond_false] <;> grind
theorem m139_eq (vars : List GVar) (hl : vars.length ≤ 1000000) : m139 vars = some (varsC vars) := by
  obtain ⟨i, e1, hc⟩ := loopC (rnd := n139_0) vars (fun i => ⟨vars, (i : Int)⟩) (varC vars) (fun i hi => round59 vars hl i hi) (by unfold n139_0; simp)
  have e1' : a139_0 ⟨vars, 0⟩ = some ⟨vars, (i : Int)⟩ := e1
  unfold m139 varsC
  rw [e1']
  dsimp only
  rcases hc with ⟨rfl, hc⟩ | ⟨hi, h0, hc⟩
  · have hv := varsOk_of hc
    rw [decide_eq_false (by omega), cond_false, if_neg (by rw [hc]; simp)]
    rw [m220_eq vars hv hl 1, m220_eq vars hv hl 2, m220_eq vars hv hl 3]
    have b1 := spc_bd 1 vars 1
    have b2 := spc_bd 2 vars 1
    unfold spaceB
    revert b1 b2
    cases spc 1 vars 1 <;> cases spc 2 vars 1 <;> cases spc 3 vars 1 <;> intro b1 b2 <;> simp only [Bool.cond_decide, Option.isSome_none, Option.isSome_some, Bool.and_true, Bool.and_false, Bool.true_and, Bool.false_and] <;> (try have c1 := b1 _ (by omega) rfl) <;> (try have c2 := b2 _ (by omega) rfl) <;> grind
  · have h1 := m140_eq vars[i]!.fName
    obtain ⟨j, h2, h3⟩ := a139_1_eq vars hl i (by omega) vars[i]!
    rw [hc, if_pos h0]
    rw [decide_eq_true (by omega), cond_true, if_pos ⟨by omega, by omega⟩]
    revert h0
    unfold varC
    simp only [Bool.cond_decide, Int.toNat_natCast, m141_eq, h1, h2]
    generalize nameB vars[i]!.fName = B
    generalize ((vars.take i).any fun w => w.fName.toList == vars[i]!.fName.toList) = A at h3
    generalize boundB vars[i]!.fLow vars[i]!.fHigh = C
    intro h0
    rcases h3 with ⟨rfl, rfl⟩ | ⟨hj, h4, rfl⟩
    · cases B <;> cases C <;> simp only [cond_true, cond_false] at h0 ⊢ <;> grind
    · simp only [h4]
      cases B <;> cases C <;> simp only [cond_true, cond_false] at h0 ⊢ <;> grind
theorem m338_eq (o : Int) : m338 o = kidsN o := by
 unfold m338 kidsN
 simp only [Bool.cond_decide]
 grind
theorem m270_eq (o : Int) : m270 o = if o = 25 then -2 else (kidsN o).1 := by
 unfold m270 kidsN
 simp only [Bool.cond_decide]
 grind (splits := 40)
theorem s306_eq (M : List GVar → GTerm → Bool → Option E306) (vars : List GVar) (inp : Bool) (t : GTerm) (hM : ∀ k ∈ t.fKids, M vars k inp = some (formS vars inp k)) : s306 M vars t inp = some (formS vars inp t) := by
  have key : t.fKids.length ≤ 1000000 → ∃ i : Nat, a306_0 M ⟨vars, inp, t.fKids, (t.fKids.length : Int), 0⟩ = some ⟨vars, inp, t.fKids, (t.fKids.length : Int), (i : Int)⟩ ∧ ((i = t.fKids.length ∧ t.fKids.all (formS vars inp) = true) ∨ (i < t.fKids.length ∧ formS vars inp t.fKids[i]! = false ∧ t.fKids.all (formS vars inp) = false)) := fun hl => by
    obtain ⟨i, e1, hc⟩ := loopB (rnd := n306_0 M) t.fKids (fun i => ⟨vars, inp, t.fKids, (t.fKids.length : Int), (i : Int)⟩) (fun _ k => formS vars inp k) (fun i hi => by
      have hw := w1L hi hl
      have hk := hM _ (get_memL hi)
      unfold n306_0
      dsimp only
      simp only [Bool.cond_decide, Int.toNat_natCast, GTerm.eta, hk, hw]
      cases formS vars inp t.fKids[i]! <;> simp [hi]) (by unfold n306_0; simp)
    refine ⟨i, e1, ?_⟩
    rcases hc with ⟨rfl, hc⟩ | ⟨hi, hc⟩
    · exact .inl ⟨rfl, all_of hc⟩
    · exact .inr ⟨hi, hc, not_all hi hc⟩
  unfold s306
  rw [m338_eq, formS_eq]
  unfold form0
  by_cases hn : 0 ≤ (kidsN t.fOp).1 ∧ (kidsN t.fOp).1 ≤ t.fKids.length ∧ (t.fKids.length : Int) ≤ (kidsN t.fOp).2
  · have h33 : (kidsN t.fOp).2 ≤ 33 := by unfold kidsN; grind
    obtain ⟨i, e, hc⟩ := key (by omega)
    rw [decide_eq_true hn, decide_eq_false (show ¬ (kidsN t.fOp).1 < 0 by omega), decide_eq_false (show ¬ (t.fKids.length : Int) < (kidsN t.fOp).1 by omega), decide_eq_false (show ¬ (kidsN t.fOp).2 < (t.fKids.length : Int) by omega), e]
    generalize t.fKids.all (formS vars inp) = A at hc
    simp only [Bool.cond_decide, Int.toNat_natCast, cond_false, Bool.true_and]
    rcases hc with ⟨rfl, rfl⟩ | ⟨hi, h2, rfl⟩
    · cases inp <;> grind
    · have hk := hM _ (get_memL hi)
      simp only [GTerm.eta, hk, h2]
      cases inp <;> grind
  · rw [decide_eq_false hn]
    simp only [Bool.cond_decide]
    grind
theorem m306_eq (vars : List GVar) (inp : Bool) : ∀ (n : Nat) (t : GTerm), SizeOf.sizeOf t < n → m306 n vars t inp = some (formS vars inp t)
 | 0, _, h => by omega
 | n + 1, t, h => s306_eq (m306 n) vars inp t (fun k hk => m306_eq vars inp n k (by have := GTerm.kids_lt hk; omega))
theorem r306_eq (vars : List GVar) (inp : Bool) (t : GTerm) : r306 vars t inp = some (formS vars inp t) := lim_eq (SizeOf.sizeOf t + 1) fun n hn => m306_eq vars inp n t (by omega)
theorem s221_eq (M : List GVar → GTerm → Bool → Option E221) (vars : List GVar) (inp : Bool) (t : GTerm) (hM : ∀ k ∈ t.fKids, M vars k inp = some (formS vars inp k)) : s221 M vars t inp = some (formS vars inp t) := by
  have key : t.fKids.length ≤ 1000000 → ∃ i : Nat, a221_0 M ⟨vars, inp, 0, t⟩ = some ⟨vars, inp, (i : Int), t⟩ ∧ ((i = t.fKids.length ∧ t.fKids.all (formS vars inp) = true) ∨ (i < t.fKids.length ∧ formS vars inp t.fKids[i]! = false ∧ t.fKids.all (formS vars inp) = false)) := fun hl => by
    obtain ⟨i, e1, hc⟩ := loopB (rnd := n221_0 M) t.fKids (fun i => ⟨vars, inp, (i : Int), t⟩) (fun _ k => formS vars inp k) (fun i hi => by
      have hw := w1L hi hl
      have hk := hM _ (get_memL hi)
      unfold n221_0
      dsimp only
      simp only [Bool.cond_decide, Int.toNat_natCast, GTerm.eta, hk, hw]
      cases formS vars inp t.fKids[i]! <;> simp [hi]) (by unfold n221_0; simp)
    refine ⟨i, e1, ?_⟩
    rcases hc with ⟨rfl, hc⟩ | ⟨hi, hc⟩
    · exact .inl ⟨rfl, all_of hc⟩
    · exact .inr ⟨hi, hc, not_all hi hc⟩
  unfold s221
  rw [m270_eq, formS_eq]
  unfold form0
  have hk0 : (kidsN t.fOp).1 = -1 ∨ 0 ≤ (kidsN t.fOp).1 := by unfold kidsN; grind
  have hk1 : t.fOp ≠ 25 → (kidsN t.fOp).1 = (kidsN t.fOp).2 := by unfold kidsN; grind
  have hk2 : t.fOp = 25 → kidsN t.fOp = (2, 33) := by unfold kidsN; grind
  have h33 : (kidsN t.fOp).2 ≤ 33 := by unfold kidsN; grind
  have hk3 : t.fOp = 25 → (kidsN t.fOp).1 = 2 ∧ (kidsN t.fOp).2 = 33 := fun h => by rw [hk2 h]; exact ⟨rfl, rfl⟩
  generalize (kidsN t.fOp).1 = a at *
  generalize (kidsN t.fOp).2 = b at *
  by_cases hn : 0 ≤ a ∧ a ≤ t.fKids.length ∧ (t.fKids.length : Int) ≤ b
  · obtain ⟨i, e, hc⟩ := key (by omega)
    rw [decide_eq_true hn, GTerm.eta, e]
    generalize t.fKids.all (formS vars inp) = A at hc
    simp only [Bool.cond_decide, Int.toNat_natCast, Bool.true_and]
    rcases hc with ⟨rfl, rfl⟩ | ⟨hi, h2, rfl⟩
    · cases inp <;> grind
    · have hk := hM _ (get_memL hi)
      simp only [GTerm.eta, hk, h2]
      clear hM key e hk h2 hk2 hk0
      by_cases h25 : t.fOp = 25
      · rw [if_pos h25, h25]
        cases inp <;> grind (splits := 30)
      · rw [if_neg h25]
        have := hk1 h25
        subst this
        rw [if_neg (show ¬ a = -1 by omega), if_pos (show 0 ≤ a by omega), if_pos (show (t.fKids.length : Int) = a by omega), if_neg (show ¬ a = -2 by omega)]
        dsimp only [cond_false, cond_true]
        cases inp <;> grind (splits := 30)
  · rw [decide_eq_false hn]
    simp only [Bool.cond_decide]
    grind
theorem m221_eq (vars : List GVar) (inp : Bool) : ∀ (n : Nat) (t : GTerm), SizeOf.sizeOf t < n → m221 n vars t inp = some (formS vars inp t)
 | 0, _, h => by omega
 | n + 1, t, h => s221_eq (m221 n) vars inp t (fun k hk => m221_eq vars inp n k (by have := GTerm.kids_lt hk; omega))
theorem r221_eq (vars : List GVar) (inp : Bool) (t : GTerm) : r221 vars t inp = some (formS vars inp t) := lim_eq (SizeOf.sizeOf t + 1) fun n hn => m221_eq vars inp n t (by omega)
def InS (s : Span) : Prop := -1048576 ≤ s.fLow ∧ s.fLow ≤ s.fHigh ∧ s.fHigh ≤ 1048576
theorem m351_eq (a b : Span) : m351 a b = hull a b := rfl
theorem mul_bd {a b : Int} (h1 : -1048576 ≤ a) (h2 : a ≤ 1048576) (h3 : -1048576 ≤ b) (h4 : b ≤ 1048576) : -1099511627776 ≤ a * b ∧ a * b ≤ 1099511627776 := by
 have e1 : (1048576 - a) * (1048576 - b) ≥ 0 := Int.mul_nonneg (by omega) (by omega)
 have e2 : (1048576 + a) * (1048576 + b) ≥ 0 := Int.mul_nonneg (by omega) (by omega)
 have e3 : (1048576 - a) * (1048576 + b) ≥ 0 := Int.mul_nonneg (by omega) (by omega)
 have e4 : (1048576 + a) * (1048576 - b) ≥ 0 := Int.mul_nonneg (by omega) (by omega)
 grind
theorem m349_eq (a b : Span) (ha : InS a) (hb : InS b) : m349 a b = some (hull (hull (hull ⟨a.fLow * b.fLow, a.fLow * b.fLow⟩ ⟨a.fLow * b.fHigh, a.fLow * b.fHigh⟩) ⟨a.fHigh * b.fLow, a.fHigh * b.fLow⟩) ⟨a.fHigh * b.fHigh, a.fHigh * b.fHigh⟩) := by
 unfold InS at ha hb
 have w1 : m350 a.fLow b.fLow = a.fLow * b.fLow := by have := mul_bd (a := a.fLow) (b := b.fLow) (by omega) (by omega) (by omega) (by omega); exact wrap_id (by omega) (by omega)
 have w2 : m350 a.fLow b.fHigh = a.fLow * b.fHigh := by have := mul_bd (a := a.fLow) (b := b.fHigh) (by omega) (by omega) (by omega) (by omega); exact wrap_id (by omega) (by omega)
 have w3 : m350 a.fHigh b.fLow = a.fHigh * b.fLow := by have := mul_bd (a := a.fHigh) (b := b.fLow) (by omega) (by omega) (by omega) (by omega); exact wrap_id (by omega) (by omega)
 have w4 : m350 a.fHigh b.fHigh = a.fHigh * b.fHigh := by have := mul_bd (a := a.fHigh) (b := b.fHigh) (by omega) (by omega) (by omega) (by omega); exact wrap_id (by omega) (by omega)
 unfold m349
 rw [w1, w2, w3, w4]
 generalize a.fLow * b.fLow = p
 generalize a.fLow * b.fHigh = q
 generalize a.fHigh * b.fLow = r
 generalize a.fHigh * b.fHigh = s
 have e : a349_0 ⟨[q, r, s], (3 : Int), 0, ⟨0, 0⟩, ⟨p, p⟩⟩ = some ⟨[q, r, s], 3, 3, ⟨0, 0⟩, hull (hull (hull ⟨p, p⟩ ⟨q, q⟩) ⟨r, r⟩) ⟨s, s⟩⟩ := by
  have k1 : n349_0 ⟨[q, r, s], (3 : Int), 0, ⟨0, 0⟩, ⟨p, p⟩⟩ = some (some ⟨[q, r, s], (3 : Int), 1, ⟨0, 0⟩, hull ⟨p, p⟩ ⟨q, q⟩⟩) := by unfold n349_0; simp [m351_eq, wrap_id]
  have k2 : n349_0 ⟨[q, r, s], (3 : Int), 1, ⟨0, 0⟩, hull ⟨p, p⟩ ⟨q, q⟩⟩ = some (some ⟨[q, r, s], (3 : Int), 2, ⟨0, 0⟩, hull (hull ⟨p, p⟩ ⟨q, q⟩) ⟨r, r⟩⟩) := by unfold n349_0; simp [m351_eq, wrap_id]
  have k3 : n349_0 ⟨[q, r, s], (3 : Int), 2, ⟨0, 0⟩, hull (hull ⟨p, p⟩ ⟨q, q⟩) ⟨r, r⟩⟩ = some (some ⟨[q, r, s], (3 : Int), 3, ⟨0, 0⟩, hull (hull (hull ⟨p, p⟩ ⟨q, q⟩) ⟨r, r⟩) ⟨s, s⟩⟩) := by unfold n349_0; simp [m351_eq, wrap_id]
  unfold a349_0
  rw [advG_step k1, advG_step k2, advG_step k3]
  exact advG_stop fun r => by unfold n349_0; simp
 rw [show (([q, r, s] : List Int).length : Int) = 3 from rfl, e]
 simp
theorem hull_in {a b : Span} (ha : InS a) (hb : InS b) : InS (hull a b) := by
 unfold InS hull at *
 grind
theorem foldl_hull_in : ∀ (l : List Span) (a : Span), InS a → (∀ x ∈ l, InS x) → InS (l.foldl hull a)
 | [], a, ha, _ => ha
 | x :: l, a, ha, h => foldl_hull_in l (hull a x) (hull_in ha (h x (List.mem_cons_self ..))) fun y hy => h y (List.mem_cons_of_mem _ hy)
theorem a339_0_eq (l : List Span) (hl : l.length ≤ 1000000) (z a : Span) : a339_0 ⟨l, (l.length : Int), 0, z, a⟩ = some ⟨l, (l.length : Int), (l.length : Int), z, l.foldl hull a⟩ := by
  obtain ⟨v, e1, hv⟩ := loopI (rnd := n339_0) l.length (fun i (b : Span) => ⟨l, (l.length : Int), (i : Int), z, b⟩) (fun i b => b = (l.take i).foldl hull a) (fun i b hi hb => by
    have hw := w1L hi hl
    refine ⟨hull b l[i]!, ?_, ?_⟩
    · unfold n339_0
      dsimp only
      simp only [Bool.cond_decide, Int.toNat_natCast, m351_eq, hw]
      grind
    · rw [take_succL hi, List.foldl_append, hb]; rfl) (fun b _ => by unfold n339_0; simp) (b := a) rfl
  rw [List.take_length] at hv
  rw [← hv]
  exact e1
def KidsOk (vars : List GVar) (t : GTerm) (k : List Span) : Prop := (0 ≤ (kidsN t.fOp).1 ∧ (kidsN t.fOp).1 ≤ k.length ∧ (k.length : Int) ≤ (kidsN t.fOp).2) ∧ (t.fOp = 24 → 0 ≤ t.fN ∧ t.fN < vars.length) ∧ ∀ s ∈ k, InS s
theorem m339_eq (vars : List GVar) (t : GTerm) (k : List Span) (h : KidsOk vars t k) : m339 vars t k = some (ruleS vars t k) := by
  obtain ⟨hk, h24, hI⟩ := h
  have h0 : 1 ≤ (kidsN t.fOp).1 → InS k[0]! := fun h => hI _ (get_memL (by omega))
  have h1 : 2 ≤ (kidsN t.fOp).1 → InS k[1]! := fun h => hI _ (get_memL (by omega))
  have h33 : (kidsN t.fOp).2 ≤ 33 := by unfold kidsN; grind
  have hd : (k.drop 2).length ≤ 1000000 := by rw [List.length_drop]; omega
  have W : ∀ n : Int, -8796093022208 ≤ n → n ≤ 8796093022208 → i64.wrap n = n := fun n a b => wrap_id (by omega) (by omega)
  unfold m339 ruleS
  rw [a339_0_eq _ hd]
  have cs : t.fOp = 0 ∨ t.fOp = 24 ∨ t.fOp = 6 ∨ t.fOp = 8 ∨ t.fOp = 9 ∨ t.fOp = 10 ∨ t.fOp = 11 ∨ t.fOp = 12 ∨ t.fOp = 21 ∨ t.fOp = 22 ∨ t.fOp = 23 ∨ t.fOp = 25 ∨ (t.fOp ≠ 0 ∧ t.fOp ≠ 24 ∧ t.fOp ≠ 6 ∧ t.fOp ≠ 8 ∧ t.fOp ≠ 9 ∧ t.fOp ≠ 10 ∧ t.fOp ≠ 11 ∧ t.fOp ≠ 12 ∧ t.fOp ≠ 21 ∧ t.fOp ≠ 22 ∧ t.fOp ≠ 23 ∧ t.fOp ≠ 25) := by omega
  rcases cs with h | h | h | h | h | h | h | h | h | h | h | h | h
  · simp [h]
  · simp [h, h24 h]
  · have hl : 1 ≤ (kidsN t.fOp).1 := by rw [h]; decide
    obtain ⟨a1, a2, a3⟩ := h0 hl
    have w1 : i64.wrap ((0 : Int) - k[0]!.fHigh) = -k[0]!.fHigh := by rw [W _ (by omega) (by omega)]; omega
    have w2 : i64.wrap ((0 : Int) - k[0]!.fLow) = -k[0]!.fLow := by rw [W _ (by omega) (by omega)]; omega
    have i0 : (0 : Int) < (k.length : Int) := by omega
    simp only [Z0, h, Bool.cond_decide, Int.reduceEq, reduceIte, i0, w1, w2, Int.le_refl, and_self, if_true]
  · have hl : 2 ≤ (kidsN t.fOp).1 := by rw [h]; decide
    obtain ⟨a1, a2, a3⟩ := h0 (by omega)
    obtain ⟨b1, b2, b3⟩ := h1 hl
    have w1 := W (k[0]!.fLow + k[1]!.fLow) (by omega) (by omega)
    have w2 := W (k[0]!.fHigh + k[1]!.fHigh) (by omega) (by omega)
    have i0 : (0 : Int) < (k.length : Int) := by omega
    have i1 : (1 : Int) < (k.length : Int) := by omega
    simp only [Z0, h, Bool.cond_decide, Int.reduceEq, Int.reduceLE, reduceIte, i0, i1, w1, w2, Int.le_refl, and_self, if_true]
  · have hl : 2 ≤ (kidsN t.fOp).1 := by rw [h]; decide
    obtain ⟨a1, a2, a3⟩ := h0 (by omega)
    obtain ⟨b1, b2, b3⟩ := h1 hl
    have w1 := W (k[0]!.fLow - k[1]!.fHigh) (by omega) (by omega)
    have w2 := W (k[0]!.fHigh - k[1]!.fLow) (by omega) (by omega)
    have i0 : (0 : Int) < (k.length : Int) := by omega
    have i1 : (1 : Int) < (k.length : Int) := by omega
    simp only [Z0, h, Bool.cond_decide, Int.reduceEq, Int.reduceLE, reduceIte, i0, i1, w1, w2, Int.le_refl, and_self, if_true]
  · have hl : 2 ≤ (kidsN t.fOp).1 := by rw [h]; decide
    have e18 := m349_eq _ _ (h0 (by omega)) (h1 hl)
    have i0 : (0 : Int) < (k.length : Int) := by omega
    have i1 : (1 : Int) < (k.length : Int) := by omega
    simp only [Z0, h, Bool.cond_decide, Int.reduceEq, Int.reduceLE, reduceIte, i0, i1, e18, Int.le_refl, and_self, if_true]
  · have hl : 2 ≤ (kidsN t.fOp).1 := by rw [h]; decide
    obtain ⟨a1, a2, a3⟩ := h0 (by omega)
    obtain ⟨b1, b2, b3⟩ := h1 hl
    have w1 : i64.wrap ((0 : Int) - k[0]!.fLow) = -k[0]!.fLow := by rw [W _ (by omega) (by omega)]; omega
    have w2 : i64.wrap ((0 : Int) - if k[0]!.fHigh < -k[0]!.fLow then -k[0]!.fLow else k[0]!.fHigh) = -(if k[0]!.fHigh < -k[0]!.fLow then -k[0]!.fLow else k[0]!.fHigh) := by split <;> (rw [W _ (by omega) (by omega)]; omega)
    have i0 : (0 : Int) < (k.length : Int) := by omega
    have i1 : (1 : Int) < (k.length : Int) := by omega
    simp only [Z0, h, Bool.cond_decide, Int.reduceEq, Int.reduceLE, reduceIte, i0, i1, w1, w2, Int.le_refl, and_self, if_true]
    by_cases c1 : (0 : Int) ≤ k[0]!.fLow <;> by_cases c2 : (0 : Int) ≤ k[1]!.fLow <;> simp only [c1, c2, if_true, if_false, decide_true, decide_false, cond_true, cond_false, and_self, and_true, and_false]
  · have hl : 2 ≤ (kidsN t.fOp).1 := by rw [h]; decide
    obtain ⟨b1, b2, b3⟩ := h1 hl
    have w1 := W (k[1]!.fLow + 1) (by omega) (by omega)
    have w2 := W (k[1]!.fHigh - 1) (by omega) (by omega)
    have i1 : (1 : Int) < (k.length : Int) := by omega
    simp only [Z0, h, Bool.cond_decide, Int.reduceEq, Int.reduceLE, reduceIte, i1, w1, w2, Int.le_refl, and_self, if_true]
    by_cases c1 : k[1]!.fLow < 0 <;> by_cases c2 : (0 : Int) < k[1]!.fHigh <;> simp only [c1, c2, if_true, if_false]
    · rw [if_neg (by omega), if_neg (by omega)]
    · rw [if_neg (by omega)]
    · rw [if_neg (by omega)]
  · have hl : 2 ≤ (kidsN t.fOp).1 := by rw [h]; decide
    have i0 : (0 : Int) < (k.length : Int) := by omega
    have i1 : (1 : Int) < (k.length : Int) := by omega
    simp only [Z0, h, Bool.cond_decide, Int.reduceEq, Int.reduceLE, reduceIte, i0, i1, Int.le_refl, and_self, if_true]
  · have hl : 2 ≤ (kidsN t.fOp).1 := by rw [h]; decide
    have i0 : (0 : Int) < (k.length : Int) := by omega
    have i1 : (1 : Int) < (k.length : Int) := by omega
    simp only [Z0, h, Bool.cond_decide, Int.reduceEq, Int.reduceLE, reduceIte, i0, i1, Int.le_refl, and_self, if_true]
  · have hl : 2 ≤ (kidsN t.fOp).1 := by rw [h]; decide
    have i1 : (1 : Int) < (k.length : Int) := by omega
    have i2 : (2 : Int) ≤ (k.length : Int) := by omega
    simp only [Z0, h, Bool.cond_decide, Int.reduceEq, Int.reduceLE, reduceIte, i1, i2, Int.le_refl, and_self, if_true, Int.lt_irrefl, if_false, true_or]
  · have hl : 2 ≤ (kidsN t.fOp).1 := by rw [h]; decide
    have i1 : (1 : Int) < (k.length : Int) := by omega
    have i2 : (2 : Int) ≤ (k.length : Int) := by omega
    simp only [Z0, h, Bool.cond_decide, Int.reduceEq, Int.reduceLE, reduceIte, i1, i2, Int.le_refl, and_self, if_true, Int.lt_irrefl, if_false, or_true]
  · obtain ⟨c1, c2, c3, c4, c5, c6, c7, c8, c9, c18, c11, c12⟩ := h
    simp only [c1, c2, c3, c4, c5, c6, c7, c8, c9, c18, c11, c12, Bool.cond_decide, if_false, or_self]
theorem rule_ord (vars : List GVar) (hv : VarsOk vars) (t : GTerm) (k : List Span) (h : KidsOk vars t k) : (ruleS vars t k).fLow ≤ (ruleS vars t k).fHigh := by
  obtain ⟨hk, h24, hI⟩ := h
  have h0 : 1 ≤ (kidsN t.fOp).1 → InS k[0]! := fun h => hI _ (get_memL (by omega))
  have h1 : 2 ≤ (kidsN t.fOp).1 → InS k[1]! := fun h => hI _ (get_memL (by omega))
  unfold ruleS
  have cs : t.fOp = 0 ∨ t.fOp = 24 ∨ t.fOp = 6 ∨ t.fOp = 8 ∨ t.fOp = 9 ∨ t.fOp = 10 ∨ t.fOp = 11 ∨ t.fOp = 12 ∨ t.fOp = 21 ∨ t.fOp = 22 ∨ t.fOp = 23 ∨ t.fOp = 25 ∨ (t.fOp ≠ 0 ∧ t.fOp ≠ 24 ∧ t.fOp ≠ 6 ∧ t.fOp ≠ 8 ∧ t.fOp ≠ 9 ∧ t.fOp ≠ 10 ∧ t.fOp ≠ 11 ∧ t.fOp ≠ 12 ∧ t.fOp ≠ 21 ∧ t.fOp ≠ 22 ∧ t.fOp ≠ 23 ∧ t.fOp ≠ 25) := by omega
  rcases cs with h | h | h | h | h | h | h | h | h | h | h | h | h
  · simp [h]
  · have hm : vars[t.fN.toNat]! ∈ vars := get_memL (by have := h24 h; omega)
    have := hv _ hm
    simp only [h, Int.reduceEq, reduceIte]
    omega
  · obtain ⟨a1, a2, a3⟩ := h0 (by rw [h]; decide)
    simp only [h, Int.reduceEq, reduceIte]
    omega
  · obtain ⟨a1, a2, a3⟩ := h0 (by rw [h]; decide)
    obtain ⟨b1, b2, b3⟩ := h1 (by rw [h]; decide)
    simp only [h, Int.reduceEq, reduceIte]
    omega
  · obtain ⟨a1, a2, a3⟩ := h0 (by rw [h]; decide)
    obtain ⟨b1, b2, b3⟩ := h1 (by rw [h]; decide)
    simp only [h, Int.reduceEq, reduceIte]
    omega
  · simp only [h, Int.reduceEq, reduceIte, hull]
    generalize k[0]!.fLow * k[1]!.fLow = p
    generalize k[0]!.fLow * k[1]!.fHigh = q
    generalize k[0]!.fHigh * k[1]!.fLow = r
    generalize k[0]!.fHigh * k[1]!.fHigh = s
    grind
  · obtain ⟨a1, a2, a3⟩ := h0 (by rw [h]; decide)
    simp only [h, Int.reduceEq, reduceIte]
    grind
  · simp only [h, Int.reduceEq, reduceIte]
    grind
  · obtain ⟨a1, a2, a3⟩ := h0 (by rw [h]; decide)
    obtain ⟨b1, b2, b3⟩ := h1 (by rw [h]; decide)
    simp only [h, Int.reduceEq, reduceIte]
    grind
  · obtain ⟨a1, a2, a3⟩ := h0 (by rw [h]; decide)
    obtain ⟨b1, b2, b3⟩ := h1 (by rw [h]; decide)
    simp only [h, Int.reduceEq, reduceIte]
    grind
  · have := foldl_hull_in (k.drop 2) k[1]! (h1 (by rw [h]; decide)) fun x hx => hI x (List.mem_of_mem_drop hx)
    simp only [h, Int.reduceEq, reduceIte, true_or, if_true]
    exact this.2.1
  · have := foldl_hull_in (k.drop 2) k[1]! (h1 (by rw [h]; decide)) fun x hx => hI x (List.mem_of_mem_drop hx)
    simp only [h, Int.reduceEq, reduceIte, or_true, if_true]
    exact this.2.1
  · obtain ⟨c1, c2, c3, c4, c5, c6, c7, c8, c9, c18, c11, c12⟩ := h
    simp only [c1, c2, c3, c4, c5, c6, c7, c8, c9, c18, c11, c12, if_false, or_self]
    decide
theorem allS_some : ∀ {l : List (Option Span)} {r : List Span}, allS l = some r → l = r.map some
 | [], r, h => by unfold allS at h; cases h; rfl
 | none :: l, r, h => by unfold allS at h; cases h
 | some s :: l, r, h => by
  unfold allS at h
  cases hl : allS l with
  | none => rw [hl] at h; cases h
  | some q => rw [hl] at h; cases h; rw [allS_some hl]; rfl
theorem allS_map (l : List Span) : allS (l.map some) = some l := by
 induction l with
 | nil => rfl
 | cons s l ih => rw [List.map_cons, allS, ih]
theorem allS_none : ∀ {l : List (Option Span)}, none ∈ l → allS l = none
 | none :: l, h => rfl
 | some s :: l, h => by
  unfold allS
  rw [allS_none (by simpa using h)]
theorem kidsOk_of {vars : List GVar} {inp : Bool} {t : GTerm} {k : List Span} (hf : form0 vars inp t = true) (hl : k.length = t.fKids.length) (hI : ∀ s ∈ k, InS s) : KidsOk vars t k := by
  unfold form0 at hf
  refine ⟨?_, ?_, hI⟩
  · rw [hl]
    simp only [Bool.and_eq_true, decide_eq_true_eq] at hf
    exact hf.1
  · intro h
    rw [h] at hf
    simp at hf
    exact hf.2.1
theorem rngS_in (vars : List GVar) (hv : VarsOk vars) (inp : Bool) (t : GTerm) (s : Span) (hf : formS vars inp t = true) (h : rngS vars t = some s) : InS s := by
  have key : ∀ (n : Nat) (t : GTerm) (s : Span), SizeOf.sizeOf t < n → formS vars inp t = true → rngS vars t = some s → InS s := by
    intro n
    induction n with
    | zero => intro t s h; omega
    | succ n ih =>
      intro t s hz hf h
      rw [formS_eq, Bool.and_eq_true, List.all_eq_true] at hf
      rw [rngS_eq] at h
      cases ha : allS (t.fKids.map (rngS vars)) with
      | none => rw [ha] at h; cases h
      | some k =>
        rw [ha] at h
        dsimp only at h
        have hm := allS_some ha
        have hl : k.length = t.fKids.length := by have := congrArg List.length hm; simpa using this.symm
        have hI : ∀ s ∈ k, InS s := fun x hx => by
          have : some x ∈ t.fKids.map (rngS vars) := by rw [hm]; exact List.mem_map_of_mem hx
          obtain ⟨c, hc, e⟩ := List.mem_map.1 this
          exact ih c x (by have := GTerm.kids_lt hc; omega) (hf.2 c hc) e
        have ho := rule_ord vars hv t k (kidsOk_of hf.1 hl hI)
        split at h
        · rename_i hlim
          cases h
          unfold limS at hlim
          unfold InS
          grind
        · cases h
  exact key _ t s (Nat.lt_succ_self _) hf h
def rngX (vars : List GVar) (t : GTerm) : Span × Bool := match allS (t.fKids.map (rngS vars)) with
 | none => (⟨0, 0⟩, false)
 | some l => (ruleS vars t l, limS (ruleS vars t l))
theorem rngX_eq (vars : List GVar) (t : GTerm) : rngS vars t = if (rngX vars t).2 = true then some (rngX vars t).1 else none := by
 rw [rngS_eq, rngX]
 cases allS (t.fKids.map (rngS vars)) <;> rfl
theorem kids_all {vars : List GVar} (hv : VarsOk vars) {inp : Bool} {t : GTerm} {k : List Span} (hf : formS vars inp t = true) (ha : allS (t.fKids.map (rngS vars)) = some k) : KidsOk vars t k := by
 rw [formS_eq, Bool.and_eq_true, List.all_eq_true] at hf
 have hm := allS_some ha
 refine kidsOk_of hf.1 (by have := congrArg List.length hm; simpa using this.symm) fun x hx => ?_
 have : some x ∈ t.fKids.map (rngS vars) := by rw [hm]; exact List.mem_map_of_mem hx
 obtain ⟨c, hc, e⟩ := List.mem_map.1 this
 exact rngS_in vars hv inp c x (hf.2 c hc) e
theorem form_len {vars : List GVar} {inp : Bool} {t : GTerm} (hf : formS vars inp t = true) : t.fKids.length ≤ 33 := by
 rw [formS_eq, Bool.and_eq_true] at hf
 have := hf.1
 unfold form0 at this
 have h33 : (kidsN t.fOp).2 ≤ 33 := by unfold kidsN; grind
 simp only [Bool.and_eq_true, decide_eq_true_eq] at this
 omega
theorem form_kid {vars : List GVar} {inp : Bool} {t k : GTerm} (hf : formS vars inp t = true) (hk : k ∈ t.fKids) : formS vars inp k = true := by
 rw [formS_eq, Bool.and_eq_true, List.all_eq_true] at hf
 exact hf.2 k hk
theorem s307_eq (M : List GVar → GTerm → Option E307) (vars : List GVar) (hv : VarsOk vars) (inp : Bool) (t : GTerm) (hf : formS vars inp t = true) (hM : ∀ k ∈ t.fKids, M vars k = some (rngX vars k)) : s307 M vars t = some (rngX vars t) := by
  have h33 := form_len hf
  obtain ⟨i, b, e1, hI, hc⟩ := loopJ (rnd := n307_0 M) t.fKids.length (fun i (b : List Span) => ⟨vars, b, t.fKids, (t.fKids.length : Int), (i : Int), t, ⟨0, 0⟩⟩) (fun i b => (t.fKids.take i).map (rngS vars) = b.map some) (fun i _ => (rngX vars t.fKids[i]!).2 = false) (fun i b hi hb => by
    have hw := w1L hi (by omega)
    have hk := hM _ (get_memL hi)
    have hlen : b.length = i := by have := congrArg List.length hb; simp at this; omega
    cases hx : (rngX vars t.fKids[i]!).2 with
    | true =>
      refine .inl ⟨b ++ [(rngX vars t.fKids[i]!).1], ?_, ?_⟩
      · have hl2 : (b ++ [(rngX vars t.fKids[i]!).1]).length ≤ 1073741824 := by simp; omega
        unfold n307_0
        dsimp only
        simp only [Int.toNat_natCast, GTerm.eta, hk, hx, hl2, hw, if_true, cond_true, cond_false]
        simp [hi]
      · rw [take_succL hi, List.map_append, hb, List.map_append]
        congr 1
        rw [List.map_cons, List.map_cons, rngX_eq, if_pos hx]
        rfl
    | false =>
      refine .inr ⟨?_, rfl⟩
      unfold n307_0
      dsimp only
      simp only [Int.toNat_natCast, GTerm.eta, hk, hx, cond_true, cond_false]
      simp [hi]) (fun b _ => by unfold n307_0; simp) (b := []) rfl
  have e1' : a307_0 M ⟨vars, [], t.fKids, (t.fKids.length : Int), 0, t, ⟨0, 0⟩⟩ = some ⟨vars, b, t.fKids, (t.fKids.length : Int), (i : Int), t, ⟨0, 0⟩⟩ := e1
  unfold s307
  rw [GTerm.eta, e1']
  dsimp only
  rcases hc with rfl | ⟨hi, hx⟩
  · rw [List.take_length] at hI
    have ha : allS (t.fKids.map (rngS vars)) = some b := by rw [hI]; exact allS_map b
    rw [decide_eq_false (by omega), cond_false, GTerm.eta, m339_eq vars t b (kids_all hv hf ha)]
    unfold rngX
    rw [ha]
    dsimp only
    unfold limS
    simp only [Bool.cond_decide]
    grind
  · have hk := hM _ (get_memL hi)
    have ha : allS (t.fKids.map (rngS vars)) = none := allS_none (List.mem_map.2 ⟨t.fKids[i]!, get_memL hi, by rw [rngX_eq, hx]; simp⟩)
    rw [decide_eq_true (by omega), cond_true, if_pos ⟨by omega, by omega⟩]
    simp only [Int.toNat_natCast, GTerm.eta, hk, hx, cond_true, cond_false]
    unfold rngX
    rw [ha]
theorem m307_eq (vars : List GVar) (hv : VarsOk vars) (inp : Bool) : ∀ (n : Nat) (t : GTerm), SizeOf.sizeOf t < n → formS vars inp t = true → m307 n vars t = some (rngX vars t)
 | 0, _, h, _ => by omega
 | n + 1, t, h, hf => s307_eq (m307 n) vars hv inp t hf (fun k hk => m307_eq vars hv inp n k (by have := GTerm.kids_lt hk; omega) (form_kid hf hk))
theorem r307_eq (vars : List GVar) (hv : VarsOk vars) (inp : Bool) (t : GTerm) (hf : formS vars inp t = true) : r307 vars t = some (rngX vars t) := lim_eq (SizeOf.sizeOf t + 1) fun n hn => m307_eq vars hv inp n t (by omega) hf
theorem m267_eq (vars : List GVar) (hv : VarsOk vars) (inp : Bool) (t : GTerm) : m267 vars t inp = some (termC vars inp t) := by
 unfold m267 termC
 rw [GTerm.eta, r306_eq]
 cases hf : formS vars inp t with
 | false => rfl
 | true =>
  rw [r307_eq vars hv inp t hf, rngX_eq]
  dsimp only
  cases (rngX vars t).2 <;> rfl
def rule2 (vars : List GVar) (t : GTerm) (k : List Span) : Span := if t.fOp = 0 ∧ (t.fN < -1048576 ∨ 1048576 < t.fN) then ⟨-1048577, 1048577⟩ else ruleS vars t k
theorem rule2_lim (vars : List GVar) (t : GTerm) (k : List Span) : limS (rule2 vars t k) = limS (ruleS vars t k) ∧ (limS (ruleS vars t k) = true → rule2 vars t k = ruleS vars t k) := by
  unfold rule2
  by_cases h : t.fOp = 0 ∧ (t.fN < -1048576 ∨ 1048576 < t.fN)
  · have e : limS (ruleS vars t k) = false := by
      unfold limS ruleS
      rw [if_pos h.1]
      simp
      omega
    rw [if_pos h, e]
    exact ⟨by decide, fun h => by cases h⟩
  · rw [if_neg h]
    exact ⟨rfl, fun _ => rfl⟩
theorem m175_eq (a b : Int) : m175 a b = if a < b then a else b := by
 unfold m175
 simp only [Bool.cond_decide]
theorem m174_eq (a b : Int) : m174 a b = if b < a then a else b := by
 unfold m174
 simp only [Bool.cond_decide]
theorem getLow {k : List Span} {i : Nat} (h : i < k.length) : (k.map (·.fLow))[i]! = k[i]!.fLow := by
  rw [getElem!_pos _ i (by simpa using h), getElem!_pos k i h, List.getElem_map]
theorem getHigh {k : List Span} {i : Nat} (h : i < k.length) : (k.map (·.fHigh))[i]! = k[i]!.fHigh := by
  rw [getElem!_pos _ i (by simpa using h), getElem!_pos k i h, List.getElem_map]
theorem a271_0_eq (k : List Span) (hl : k.length ≤ 1000000) (h2 : 2 ≤ k.length) (a : Span) : a271_0 ⟨k.map (·.fLow), k.map (·.fHigh), a.fLow, a.fHigh, 2⟩ = some ⟨k.map (·.fLow), k.map (·.fHigh), ((k.drop 2).foldl hull a).fLow, ((k.drop 2).foldl hull a).fHigh, (k.length : Int)⟩ := by
  have hlen : (k.drop 2).length = k.length - 2 := List.length_drop ..
  have hget : ∀ i, i < k.length - 2 → (k.drop 2)[i]! = k[i + 2]! := fun i hi => by
    rw [getElem!_pos _ i (by omega), getElem!_pos _ (i + 2) (by omega), List.getElem_drop]
    congr 1
    omega
  obtain ⟨v, e1, hv⟩ := loopI (rnd := n271_0) (k.length - 2) (fun i (b : Span) => ⟨k.map (·.fLow), k.map (·.fHigh), b.fLow, b.fHigh, ((i + 2 : Nat) : Int)⟩) (fun i b => b = ((k.drop 2).take i).foldl hull a) (fun i b hi hb => by
    have hw := w1L (show i + 2 < k.length by omega) hl
    refine ⟨hull b k[i + 2]!, ?_, ?_⟩
    · unfold n271_0
      dsimp only
      simp only [Bool.cond_decide, Int.toNat_natCast, m175_eq, m174_eq, hw, List.length_map, getLow (show i + 2 < k.length by omega), getHigh (show i + 2 < k.length by omega)]
      unfold hull
      rw [if_pos (by omega), if_pos ⟨by omega, by omega⟩, if_pos ⟨by omega, by omega⟩]
      congr 3 <;> grind
    · rw [take_succL (by omega), List.foldl_append, hb, hget i hi]; rfl) (fun b _ => by
      unfold n271_0
      simp only [List.length_map, Bool.cond_decide]
      rw [if_neg (by omega)]) (b := a) rfl
  rw [← hlen, List.take_length] at hv
  rw [← hv]
  rw [show k.length - 2 + 2 = k.length by omega] at e1
  exact e1
theorem m271_eq (vars : List GVar) (t : GTerm) (k : List Span) (h : KidsOk vars t k) : m271 vars t (k.map (·.fLow)) (k.map (·.fHigh)) = some ((rule2 vars t k).fLow, (rule2 vars t k).fHigh) := by
  obtain ⟨hk, h24, hI⟩ := h
  have h0 : 1 ≤ (kidsN t.fOp).1 → InS k[0]! := fun h => hI _ (get_memL (by omega))
  have h1 : 2 ≤ (kidsN t.fOp).1 → InS k[1]! := fun h => hI _ (get_memL (by omega))
  have h33 : (kidsN t.fOp).2 ≤ 33 := by unfold kidsN; grind
  have W : ∀ n : Int, -8796093022208 ≤ n → n ≤ 8796093022208 → i64.wrap n = n := fun n a b => wrap_id (by omega) (by omega)
  unfold m271 rule2 ruleS
  have cs : t.fOp = 0 ∨ t.fOp = 24 ∨ t.fOp = 6 ∨ t.fOp = 8 ∨ t.fOp = 9 ∨ t.fOp = 10 ∨ t.fOp = 11 ∨ t.fOp = 12 ∨ t.fOp = 21 ∨ t.fOp = 22 ∨ t.fOp = 23 ∨ t.fOp = 25 ∨ (t.fOp ≠ 0 ∧ t.fOp ≠ 24 ∧ t.fOp ≠ 6 ∧ t.fOp ≠ 8 ∧ t.fOp ≠ 9 ∧ t.fOp ≠ 10 ∧ t.fOp ≠ 11 ∧ t.fOp ≠ 12 ∧ t.fOp ≠ 21 ∧ t.fOp ≠ 22 ∧ t.fOp ≠ 23 ∧ t.fOp ≠ 25) := by omega
  rcases cs with h | h | h | h | h | h | h | h | h | h | h | h | h
  · simp only [Z0, h, Bool.cond_decide, Int.reduceEq, reduceIte, true_and]
    grind
  · simp [h, h24 h]
  · have hl : 1 ≤ (kidsN t.fOp).1 := by rw [h]; decide
    obtain ⟨a1, a2, a3⟩ := h0 hl
    have w1 : i64.wrap ((0 : Int) - k[0]!.fHigh) = -k[0]!.fHigh := by rw [W _ (by omega) (by omega)]; omega
    have w2 : i64.wrap ((0 : Int) - k[0]!.fLow) = -k[0]!.fLow := by rw [W _ (by omega) (by omega)]; omega
    have i0 : (0 : Int) < (k.length : Int) := by omega
    simp only [Z0, h, Bool.cond_decide, Int.reduceEq, reduceIte, List.length_map, i0, getLow (show 0 < k.length by omega), getHigh (show 0 < k.length by omega), w1, w2, Int.le_refl, and_self, if_true, false_and, if_false]
  · have hl : 2 ≤ (kidsN t.fOp).1 := by rw [h]; decide
    obtain ⟨a1, a2, a3⟩ := h0 (by omega)
    obtain ⟨b1, b2, b3⟩ := h1 hl
    have w1 := W (k[0]!.fLow + k[1]!.fLow) (by omega) (by omega)
    have w2 := W (k[0]!.fHigh + k[1]!.fHigh) (by omega) (by omega)
    have i0 : (0 : Int) < (k.length : Int) := by omega
    have i1 : (1 : Int) < (k.length : Int) := by omega
    simp only [Z0, h, Bool.cond_decide, Int.reduceEq, Int.reduceLE, reduceIte, List.length_map, getLow (show 0 < k.length by omega), getHigh (show 0 < k.length by omega), getLow (show 1 < k.length by omega), getHigh (show 1 < k.length by omega), i0, i1, w1, w2, Int.le_refl, and_self, if_true, false_and, if_false]
  · have hl : 2 ≤ (kidsN t.fOp).1 := by rw [h]; decide
    obtain ⟨a1, a2, a3⟩ := h0 (by omega)
    obtain ⟨b1, b2, b3⟩ := h1 hl
    have w1 := W (k[0]!.fLow - k[1]!.fHigh) (by omega) (by omega)
    have w2 := W (k[0]!.fHigh - k[1]!.fLow) (by omega) (by omega)
    have i0 : (0 : Int) < (k.length : Int) := by omega
    have i1 : (1 : Int) < (k.length : Int) := by omega
    simp only [Z0, h, Bool.cond_decide, Int.reduceEq, Int.reduceLE, reduceIte, List.length_map, getLow (show 0 < k.length by omega), getHigh (show 0 < k.length by omega), getLow (show 1 < k.length by omega), getHigh (show 1 < k.length by omega), i0, i1, w1, w2, Int.le_refl, and_self, if_true, false_and, if_false]
  · have hl : 2 ≤ (kidsN t.fOp).1 := by rw [h]; decide
    obtain ⟨a1, a2, a3⟩ := h0 (by omega)
    obtain ⟨b1, b2, b3⟩ := h1 hl
    have m1 := mul_bd (a := k[0]!.fLow) (b := k[1]!.fLow) (by omega) (by omega) (by omega) (by omega)
    have m2 := mul_bd (a := k[0]!.fLow) (b := k[1]!.fHigh) (by omega) (by omega) (by omega) (by omega)
    have m3 := mul_bd (a := k[0]!.fHigh) (b := k[1]!.fLow) (by omega) (by omega) (by omega) (by omega)
    have m4 := mul_bd (a := k[0]!.fHigh) (b := k[1]!.fHigh) (by omega) (by omega) (by omega) (by omega)
    have w1 := W _ (show -8796093022208 ≤ k[0]!.fLow * k[1]!.fLow by omega) (by omega)
    have w2 := W _ (show -8796093022208 ≤ k[0]!.fLow * k[1]!.fHigh by omega) (by omega)
    have w3 := W _ (show -8796093022208 ≤ k[0]!.fHigh * k[1]!.fLow by omega) (by omega)
    have w4 := W _ (show -8796093022208 ≤ k[0]!.fHigh * k[1]!.fHigh by omega) (by omega)
    have i0 : (0 : Int) < (k.length : Int) := by omega
    have i1 : (1 : Int) < (k.length : Int) := by omega
    simp only [Z0, h, Bool.cond_decide, Int.reduceEq, Int.reduceLE, reduceIte, List.length_map, getLow (show 0 < k.length by omega), getHigh (show 0 < k.length by omega), getLow (show 1 < k.length by omega), getHigh (show 1 < k.length by omega), i0, i1, w1, w2, w3, w4, Int.le_refl, and_self, if_true, false_and, if_false, m175_eq, m174_eq, hull]
    generalize k[0]!.fLow * k[1]!.fLow = p
    generalize k[0]!.fLow * k[1]!.fHigh = q
    generalize k[0]!.fHigh * k[1]!.fLow = r
    generalize k[0]!.fHigh * k[1]!.fHigh = s
    congr 2 <;> grind
  · have hl : 2 ≤ (kidsN t.fOp).1 := by rw [h]; decide
    obtain ⟨a1, a2, a3⟩ := h0 (by omega)
    obtain ⟨b1, b2, b3⟩ := h1 hl
    have z0 : Int.toNat 0 = 0 := rfl
    have z1 : Int.toNat 1 = 1 := rfl
    have e313 : ∀ x : Int, -1048576 ≤ x → x ≤ 1048576 → m313 x = if x < 0 then -x else x := fun x q1 q2 => by
      unfold m313
      rw [W _ (by omega) (by omega)]
      simp only [Bool.cond_decide]
      grind
    have e174 : m174 (m313 k[0]!.fLow) (m313 k[0]!.fHigh) = if k[0]!.fHigh < -k[0]!.fLow then -k[0]!.fLow else k[0]!.fHigh := by
      rw [e313 _ (by omega) (by omega), e313 _ (by omega) (by omega), m174_eq]
      grind
    have w2 : i64.wrap ((0 : Int) - if k[0]!.fHigh < -k[0]!.fLow then -k[0]!.fLow else k[0]!.fHigh) = -(if k[0]!.fHigh < -k[0]!.fLow then -k[0]!.fLow else k[0]!.fHigh) := by split <;> (rw [W _ (by omega) (by omega)]; omega)
    have i0 : (0 : Int) < (k.length : Int) := by omega
    have i1 : (1 : Int) < (k.length : Int) := by omega
    simp only [Z0, h, Bool.cond_decide, Int.reduceEq, Int.reduceLE, reduceIte, List.length_map, z0, z1, getLow (show 0 < k.length by omega), getHigh (show 0 < k.length by omega), getLow (show 1 < k.length by omega), getHigh (show 1 < k.length by omega), i0, i1, e174, w2, Int.le_refl, and_self, if_true, false_and, if_false]
    by_cases c1 : (0 : Int) ≤ k[0]!.fLow <;> by_cases c2 : (0 : Int) ≤ k[1]!.fLow <;> simp only [c1, c2, if_true, if_false, decide_true, decide_false, cond_true, cond_false, and_self, and_true, and_false]
  · have hl : 2 ≤ (kidsN t.fOp).1 := by rw [h]; decide
    obtain ⟨b1, b2, b3⟩ := h1 hl
    have w1 := W (k[1]!.fLow + 1) (by omega) (by omega)
    have w2 := W (k[1]!.fHigh - 1) (by omega) (by omega)
    have i1 : (1 : Int) < (k.length : Int) := by omega
    simp only [Z0, h, Bool.cond_decide, Int.reduceEq, Int.reduceLE, reduceIte, List.length_map, getLow (show 1 < k.length by omega), getHigh (show 1 < k.length by omega), i1, Int.le_refl, and_self, if_true, false_and, if_false, m314, w1, w2, m175_eq, m174_eq]
    congr 1
    by_cases c1 : k[1]!.fLow < 0 <;> by_cases c2 : (0 : Int) < k[1]!.fHigh <;> simp only [c1, c2, if_true, if_false, Prod.mk.injEq, and_true, true_and] <;> grind
  · have hl : 2 ≤ (kidsN t.fOp).1 := by rw [h]; decide
    have i0 : (0 : Int) < (k.length : Int) := by omega
    have i1 : (1 : Int) < (k.length : Int) := by omega
    simp only [Z0, h, Bool.cond_decide, Int.reduceEq, Int.reduceLE, reduceIte, List.length_map, getLow (show 0 < k.length by omega), getHigh (show 0 < k.length by omega), getLow (show 1 < k.length by omega), getHigh (show 1 < k.length by omega), i0, i1, Int.le_refl, and_self, if_true, false_and, if_false, m175_eq, m174_eq]
    congr 2 <;> grind
  · have hl : 2 ≤ (kidsN t.fOp).1 := by rw [h]; decide
    have i0 : (0 : Int) < (k.length : Int) := by omega
    have i1 : (1 : Int) < (k.length : Int) := by omega
    simp only [Z0, h, Bool.cond_decide, Int.reduceEq, Int.reduceLE, reduceIte, List.length_map, getLow (show 0 < k.length by omega), getHigh (show 0 < k.length by omega), getLow (show 1 < k.length by omega), getHigh (show 1 < k.length by omega), i0, i1, Int.le_refl, and_self, if_true, false_and, if_false, m175_eq, m174_eq]
    congr 2 <;> grind
  · have hl : 2 ≤ (kidsN t.fOp).1 := by rw [h]; decide
    have i1 : (1 : Int) < (k.length : Int) := by omega
    have e := a271_0_eq k (by omega) (by omega) k[1]!
    simp only [Z0, h, Bool.cond_decide, Int.reduceEq, Int.reduceLE, reduceIte, List.length_map, getLow (show 1 < k.length by omega), getHigh (show 1 < k.length by omega), e, i1, Int.le_refl, and_self, if_true, Int.lt_irrefl, if_false, true_or, false_and]
  · have hl : 2 ≤ (kidsN t.fOp).1 := by rw [h]; decide
    have i1 : (1 : Int) < (k.length : Int) := by omega
    have e := a271_0_eq k (by omega) (by omega) k[1]!
    simp only [Z0, h, Bool.cond_decide, Int.reduceEq, Int.reduceLE, reduceIte, List.length_map, getLow (show 1 < k.length by omega), getHigh (show 1 < k.length by omega), e, i1, Int.le_refl, and_self, if_true, Int.lt_irrefl, if_false, or_true, false_and]
  · obtain ⟨c1, c2, c3, c4, c5, c6, c7, c8, c9, c18, c11, c12⟩ := h
    simp only [c1, c2, c3, c4, c5, c6, c7, c8, c9, c18, c11, c12, Bool.cond_decide, if_false, or_self, false_and]
def rngY (vars : List GVar) (t : GTerm) : Int × Int × Bool := match allS (t.fKids.map (rngS vars)) with
 | none => (0, 0, false)
 | some l => ((rule2 vars t l).fLow, (rule2 vars t l).fHigh, limS (rule2 vars t l))
theorem rngY_eq (vars : List GVar) (t : GTerm) : rngS vars t = if (rngY vars t).2.2 = true then some ⟨(rngY vars t).1, (rngY vars t).2.1⟩ else none := by
  rw [rngS_eq, rngY]
  cases h : allS (t.fKids.map (rngS vars)) with
  | none => rfl
  | some l =>
    obtain ⟨h1, h2⟩ := rule2_lim vars t l
    dsimp only
    by_cases hl : limS (ruleS vars t l) = true
    · rw [if_pos hl, if_pos (h1.trans hl), h2 hl]
    · rw [if_neg hl, if_neg (by rw [h1]; exact hl)]
theorem s222_eq (M : List GVar → GTerm → Option E222) (vars : List GVar) (hv : VarsOk vars) (inp : Bool) (t : GTerm) (hf : formS vars inp t = true) (hM : ∀ k ∈ t.fKids, M vars k = some (rngY vars k)) : s222 M vars t = some (rngY vars t) := by
  have h33 := form_len hf
  obtain ⟨i, b, e1, hI, hc⟩ := loopJ (rnd := n222_0 M) t.fKids.length (fun i (b : List Span) => ⟨vars, b.map (·.fLow), b.map (·.fHigh), (i : Int), t⟩) (fun i b => (t.fKids.take i).map (rngS vars) = b.map some) (fun i _ => (rngY vars t.fKids[i]!).2.2 = false) (fun i b hi hb => by
    have hw := w1L hi (by omega)
    have hk := hM _ (get_memL hi)
    have hlen : b.length = i := by have := congrArg List.length hb; simp at this; omega
    cases hx : (rngY vars t.fKids[i]!).2.2 with
    | true =>
      refine .inl ⟨b ++ [⟨(rngY vars t.fKids[i]!).1, (rngY vars t.fKids[i]!).2.1⟩], ?_, ?_⟩
      · have hl2 : (b.map (·.fLow) ++ [(rngY vars t.fKids[i]!).1]).length ≤ 1073741824 := by simp; omega
        have hl3 : (b.map (·.fHigh) ++ [(rngY vars t.fKids[i]!).2.1]).length ≤ 1073741824 := by simp; omega
        unfold n222_0
        dsimp only
        simp only [Int.toNat_natCast, GTerm.eta, hk, hx, hl2, hl3, hw, if_true, cond_true, cond_false]
        simp [hi]
      · rw [take_succL hi, List.map_append, hb, List.map_append]
        congr 1
        rw [List.map_cons, List.map_cons, rngY_eq, if_pos hx]
        rfl
    | false =>
      refine .inr ⟨?_, rfl⟩
      unfold n222_0
      dsimp only
      simp only [Int.toNat_natCast, GTerm.eta, hk, hx, cond_true, cond_false]
      simp [hi]) (fun b _ => by unfold n222_0; simp) (b := []) rfl
  have e1' : a222_0 M ⟨vars, [], [], 0, t⟩ = some ⟨vars, b.map (·.fLow), b.map (·.fHigh), (i : Int), t⟩ := e1
  unfold s222
  rw [GTerm.eta, e1']
  dsimp only
  rcases hc with rfl | ⟨hi, hx⟩
  · rw [List.take_length] at hI
    have ha : allS (t.fKids.map (rngS vars)) = some b := by rw [hI]; exact allS_map b
    rw [decide_eq_false (by omega), cond_false, GTerm.eta, m271_eq vars t b (kids_all hv hf ha)]
    unfold rngY
    rw [ha]
    dsimp only
    unfold limS
    simp only [Bool.cond_decide]
    grind
  · have hk := hM _ (get_memL hi)
    have ha : allS (t.fKids.map (rngS vars)) = none := allS_none (List.mem_map.2 ⟨t.fKids[i]!, get_memL hi, by rw [rngY_eq, hx]; simp⟩)
    rw [decide_eq_true (by omega), cond_true, if_pos ⟨by omega, by omega⟩]
    simp only [Int.toNat_natCast, GTerm.eta, hk, hx, cond_true, cond_false]
    unfold rngY
    rw [ha]
theorem m222_eq (vars : List GVar) (hv : VarsOk vars) (inp : Bool) : ∀ (n : Nat) (t : GTerm), SizeOf.sizeOf t < n → formS vars inp t = true → m222 n vars t = some (rngY vars t)
 | 0, _, h, _ => by omega
 | n + 1, t, h, hf => s222_eq (m222 n) vars hv inp t hf (fun k hk => m222_eq vars hv inp n k (by have := GTerm.kids_lt hk; omega) (form_kid hf hk))
theorem r222_eq (vars : List GVar) (hv : VarsOk vars) (inp : Bool) (t : GTerm) (hf : formS vars inp t = true) : r222 vars t = some (rngY vars t) := lim_eq (SizeOf.sizeOf t + 1) fun n hn => m222_eq vars hv inp n t (by omega) hf
theorem m142_eq (vars : List GVar) (hv : VarsOk vars) (inp : Bool) (t : GTerm) : m142 vars t inp = some (termC vars inp t) := by
 unfold m142 termC
 rw [GTerm.eta, r221_eq]
 cases hf : formS vars inp t with
 | false => rfl
 | true =>
  rw [r222_eq vars hv inp t hf, rngY_eq]
  dsimp only
  cases (rngY vars t).2.2 <;> rfl
end Go.Proofs.YtnfljbehcffmcaaGreat
end
noncomputable section
set_option maxRecDepth 100000
namespace Go.Proofs.YtnfljbehcffmcaaGreat
open Go Go.Iv
open Go.IntKind (i64)
def F173 : Orc := or0
theorem F173_ok : OrcG Tryz.prog F173 := or0_g
structure L173_0 where
 t0 : List GVar
 t1 : Int
 t5 : List GVar
 t6 : Int
def d173_0 : Td 0 L173_0 := .c [] [0, 1, 5, 6] (.r 0 1 (ec 0 (ql 131) (ec 1 (qi .i64) (ec 5 (qo 0) (ec 6 (qi .i64) en)))) (sr 0 131 sn) (fun z => ⟨z.1.1, z.1.2.1, z.2.1, z.1.2.2.2.1⟩) (fun x => ((x.t0, x.t1, (), x.t6, ()), (x.t5, ()))) fun _ => rfl)
def n173_0 (p : L173_0) : Option (Option L173_0) :=
 bif decide (p.t6 < (↑p.t0.length : Int)) then if (0 : Int) ≤ p.t6 ∧ p.t6 < (↑p.t0.length : Int) then bif decide (p.t0[p.t6.toNat]!.fKind = p.t1) then if (0 : Int) ≤ p.t6 ∧ p.t6 < (↑p.t0.length : Int) then if (p.t5 ++ [p.t0[p.t6.toNat]!]).length ≤ 1073741824 then some (some (L173_0.mk p.t0 p.t1 (p.t5 ++ [p.t0[p.t6.toNat]!]) (i64.wrap (p.t6 + 1)))) else none else none else some (some (L173_0.mk p.t0 p.t1 p.t5 (i64.wrap (p.t6 + 1)))) else none else some (none)
theorem q173_0 (p : L173_0) : execA Tryz.prog (F173) Tryz.f173.ntmps 300 (loopAt Tryz.f173 0) .no (Option L173_0) (d173_0.pat p) (kOn d173_0.rd) = n173_0 p := by kernel_rfl
def a173_0 : L173_0 → Option L173_0 := advG (n173_0)
abbrev E173 : Type := List GVar
def d173 : Td 0 E173 := .c [] [4] (.r 0 1 (ec 4 (qo 0) en) (sr 0 131 sn) (fun z => z.2.1) (fun x => (((), ()), (x, ()))) fun _ => rfl)
def A173 := (lc (ql 131) (lc (qi .i64) ln))
def an173 : An := (.two .no (.two .no (.two (.two .no (d173_0.lp a173_0 .no)) .no)))
theorem fa173 : FnAn Tryz.prog (F173) 0 300 173 (an173) := fnAn_of (l := [(loopAt Tryz.f173 0, (d173_0.lp a173_0 .no))]) Tryz.func173 (bodyOf_eq (by kernel_rfl)) (by kernel_rfl) (ob_cons ⟨d173_0.ok _, advG_ok (q173_0)⟩ ob_nil)
def m173 (a0 : List GVar) (a1 : Int) : Option E173 :=
 match a173_0 (L173_0.mk a0 a1 [] (0)) with | none => none | some r1 => bif decide (r1.t6 < (↑r1.t0.length : Int)) then if (0 : Int) ≤ r1.t6 ∧ r1.t6 < (↑r1.t0.length : Int) then bif decide (r1.t0[r1.t6.toNat]!.fKind = r1.t1) then if (0 : Int) ≤ r1.t6 ∧ r1.t6 < (↑r1.t0.length : Int) then if (r1.t5 ++ [r1.t0[r1.t6.toNat]!]).length ≤ 1073741824 then none else none else none else none else none else some (r1.t5)
theorem c173 (a0 : List GVar) (a1 : Int) : callR Tryz.prog (F173) 300 (an173) 173 (A173.c (a0, a1, ())) [] 0 d173.rd = m173 a0 a1 := by kernel_rfl
def e173 : Orc → Orc := eL Tryz.prog 173 false A173 d173 (fun g => m173 g.1 g.2.1)
theorem e173_ok {F : Orc} (h : OrcG Tryz.prog F) : OrcG Tryz.prog (e173 F) := eL_ok (sc := scU) scU_ok (hl_of F173_ok fa173 (fun _ => by kernel_rfl) (fun _ => by kernel_rfl) fun g => c173 g.1 g.2.1) ⟨_, Tryz.func173, by kernel_rfl, by kernel_rfl⟩ (fun _ => by kernel_rfl) (fun _ => by kernel_rfl) h
def F89 : Orc := (e173 or0)
theorem F89_ok : OrcG Tryz.prog F89 := (e173_ok or0_g)
structure L89_1 where
 t6 : List GVar
 t8 : Int
 t9 : Int
def d89_1 : Td 0 L89_1 := .c [] [6, 8, 9] (.r 0 1 (ec 6 (qo 0) (ec 8 (qi .i64) (ec 9 (qi .i64) en))) (sr 0 131 sn) (fun z => ⟨z.2.1, z.1.2.1, z.1.2.2.1⟩) (fun x => (((), x.t8, x.t9, ()), (x.t6, ()))) fun _ => rfl)
def n89_1 (p : L89_1) : Option (Option L89_1) :=
 bif decide (p.t9 < (↑p.t6.length : Int)) then if (0 : Int) ≤ p.t9 ∧ p.t9 < (↑p.t6.length : Int) then if 131 = 131 ∧ p.t9.toNat < p.t6.length then if (0 : Int) ≤ p.t9 ∧ p.t9 < (↑p.t6.length : Int) then if 131 = 131 ∧ p.t9.toNat < p.t6.length then bif decide (4096 < i64.wrap (p.t8 * i64.wrap (i64.wrap (p.t6[p.t9.toNat]!.fHigh - p.t6[p.t9.toNat]!.fLow) + 1))) then some (none) else some (some (L89_1.mk p.t6 (i64.wrap (p.t8 * i64.wrap (i64.wrap (p.t6[p.t9.toNat]!.fHigh - p.t6[p.t9.toNat]!.fLow) + 1))) (i64.wrap (p.t9 + 1)))) else none else none else none else none else some (none)
theorem q89_1 (p : L89_1) : execA Tryz.prog (F89) Tryz.f89.ntmps 300 (loopAt Tryz.f89 1) .no (Option L89_1) (d89_1.pat p) (kOn d89_1.rd) = n89_1 p := by kernel_rfl
def a89_1 : L89_1 → Option L89_1 := advG (n89_1)
structure L89_0 where
 t6 : List GVar
 t7 : Int
def d89_0 : Td 0 L89_0 := .c [] [6, 7] (.r 0 1 (ec 6 (qo 0) (ec 7 (qi .i64) en)) (sr 0 131 sn) (fun z => ⟨z.2.1, z.1.2.1⟩) (fun x => (((), x.t7, ()), (x.t6, ()))) fun _ => rfl)
def n89_0 (p : L89_0) : Option (Option L89_0) :=
 bif decide (p.t7 < (↑p.t6.length : Int)) then if (0 : Int) ≤ p.t7 ∧ p.t7 < (↑p.t6.length : Int) then if 131 = 131 ∧ p.t7.toNat < p.t6.length then if (0 : Int) ≤ p.t7 ∧ p.t7 < (↑p.t6.length : Int) then if 131 = 131 ∧ p.t7.toNat < p.t6.length then bif decide (p.t6[p.t7.toNat]!.fHigh < p.t6[p.t7.toNat]!.fLow) then some (none) else if (0 : Int) ≤ p.t7 ∧ p.t7 < (↑p.t6.length : Int) then if 131 = 131 ∧ p.t7.toNat < p.t6.length then bif decide (p.t6[p.t7.toNat]!.fLow < -1048576) then some (none) else if (0 : Int) ≤ p.t7 ∧ p.t7 < (↑p.t6.length : Int) then if 131 = 131 ∧ p.t7.toNat < p.t6.length then bif decide (1048576 < p.t6[p.t7.toNat]!.fHigh) then some (none) else some (some (L89_0.mk p.t6 (i64.wrap (p.t7 + 1)))) else none else none else none else none else none else none else none else none else some (none)
theorem q89_0 (p : L89_0) : execA Tryz.prog (F89) Tryz.f89.ntmps 300 (loopAt Tryz.f89 0) .no (Option L89_0) (d89_0.pat p) (kOn d89_0.rd) = n89_0 p := by kernel_rfl
def a89_0 : L89_0 → Option L89_0 := advG (n89_0)
abbrev E89 : Type := Int × Int
def d89 : Td 0 E89 := .c [] [4, 5] (.r 0 0 (ec 4 (qi .i64) (ec 5 (qi .i64) en)) sn (fun z => (z.1.1, z.1.2.1)) (fun x => ((x.1, x.2, ()), (()))) fun _ => rfl)
def A89 := (lc (ql 131) (lc (qi .i64) ln))
def an89 : An := (.two .no (.two (.two (.rb [] 23) .no) (.two .no (.two (.two .no (d89_0.lp a89_0 .no)) (.two .no (.two (.two .no (d89_1.lp a89_1 .no)) .no))))))
theorem pu89  : ∀ f ∈ ([] : List Nat), PureF (F89) f := ob_nil
theorem fa89 : FnAn Tryz.prog (F89) 0 300 89 (an89) := fnAn_of (l := [(.skip, (.rb [] 23)), (loopAt Tryz.f89 0, (d89_0.lp a89_0 .no)), (loopAt Tryz.f89 1, (d89_1.lp a89_1 .no))]) Tryz.func89 (bodyOf_eq (by kernel_rfl)) (by kernel_rfl) (ob_cons pu89 (ob_cons ⟨d89_0.ok _, advG_ok (q89_0)⟩ (ob_cons ⟨d89_1.ok _, advG_ok (q89_1)⟩ ob_nil)))
def m89 (a0 : List GVar) (a1 : Int) : Option E89 :=
 match bif bif decide (a1 = 0) then false else true then bif bif decide (a1 = 1) then false else true then bif bif decide (a1 = 2) then false else true then some (bif decide (a1 = 3) then false else true) else some (false) else some (false) else some (false) with | none => none | some r1 => bif r1 then some ((0, 1)) else match m173 a0 a1 with | none => none | some r2 => match a89_0 (L89_0.mk r2 (0)) with | none => none | some r3 => bif decide (r3.t7 < (↑r3.t6.length : Int)) then if (0 : Int) ≤ r3.t7 ∧ r3.t7 < (↑r3.t6.length : Int) then if 131 = 131 ∧ r3.t7.toNat < r3.t6.length then if (0 : Int) ≤ r3.t7 ∧ r3.t7 < (↑r3.t6.length : Int) then if 131 = 131 ∧ r3.t7.toNat < r3.t6.length then bif decide (r3.t6[r3.t7.toNat]!.fHigh < r3.t6[r3.t7.toNat]!.fLow) then some ((0, 3)) else if (0 : Int) ≤ r3.t7 ∧ r3.t7 < (↑r3.t6.length : Int) then if 131 = 131 ∧ r3.t7.toNat < r3.t6.length then bif decide (r3.t6[r3.t7.toNat]!.fLow < -1048576) then some ((0, 3)) else if (0 : Int) ≤ r3.t7 ∧ r3.t7 < (↑r3.t6.length : Int) then if 131 = 131 ∧ r3.t7.toNat < r3.t6.length then bif decide (1048576 < r3.t6[r3.t7.toNat]!.fHigh) then some ((0, 3)) else none else none else none else none else none else none else none else none else none else match a89_1 (L89_1.mk r3.t6 (1) (0)) with | none => none | some r4 => bif decide (r4.t9 < (↑r4.t6.length : Int)) then if (0 : Int) ≤ r4.t9 ∧ r4.t9 < (↑r4.t6.length : Int) then if 131 = 131 ∧ r4.t9.toNat < r4.t6.length then if (0 : Int) ≤ r4.t9 ∧ r4.t9 < (↑r4.t6.length : Int) then if 131 = 131 ∧ r4.t9.toNat < r4.t6.length then bif decide (4096 < i64.wrap (r4.t8 * i64.wrap (i64.wrap (r4.t6[r4.t9.toNat]!.fHigh - r4.t6[r4.t9.toNat]!.fLow) + 1))) then some ((0, 4)) else none else none else none else none else none else some ((r4.t8, 0))
theorem c89 (a0 : List GVar) (a1 : Int) : callR Tryz.prog (F89) 300 (an89) 89 (A89.c (a0, a1, ())) [] 0 d89.rd = m89 a0 a1 := by kernel_rfl
def e89 : Orc → Orc := eL Tryz.prog 89 false A89 d89 (fun g => m89 g.1 g.2.1)
theorem e89_ok {F : Orc} (h : OrcG Tryz.prog F) : OrcG Tryz.prog (e89 F) := eL_ok (sc := scU) scU_ok (hl_of F89_ok fa89 (fun _ => by kernel_rfl) (fun _ => by kernel_rfl) fun g => c89 g.1 g.2.1) ⟨_, Tryz.func89, by kernel_rfl, by kernel_rfl⟩ (fun _ => by kernel_rfl) (fun _ => by kernel_rfl) h
theorem e89_pure {F : Orc} {f : Nat} (h : PureF F f) : PureF (e89 F) f := orL_pure h (fun _ => by kernel_rfl)
def F24 : Orc := (e90 (e89 (e78 (e53 or0))))
theorem F24_ok : OrcG Tryz.prog F24 := (e90_ok (e89_ok (e78_ok (e53_ok or0_g))))
abbrev E24 : Type := Bool
def d24 : Td 0 E24 := .c [] [8] (.r 0 0 (ec 8 qb en) sn (fun z => z.1.1) (fun x => ((x, ()), (()))) fun _ => rfl)
def A24 := (lc (qg 26) (lc (qi .i64) (lc (qi .i64) (lc (qi .i64) ln))))
def an24 : An := (.two .no (.two (.two (.rb [53, 78] 25) .no) (.two .no (.two .no (.two .no (.two .no (.two (.rb [53, 78] 8) .no)))))))
theorem pu24  : ∀ f ∈ ([53, 78] : List Nat), PureF (F24) f := (ob_cons (e90_pure (e89_pure (e78_pure (e53_pure or0_pure)))) (ob_cons (e90_pure (e89_pure (e78_pure (e53_pure or0_pure)))) ob_nil))
theorem fa24 : FnAn Tryz.prog (F24) 0 300 24 (an24) := fnAn_of (l := [(.skip, (.rb [53, 78] 25)), (.skip, (.rb [53, 78] 8))]) Tryz.func24 (bodyOf_eq (by kernel_rfl)) (by kernel_rfl) (ob_cons pu24 (ob_cons pu24 ob_nil))
def m24 (a0 : Flat) (a1 : Int) (a2 : Int) (a3 : Int) : Option E24 :=
 match match m53 a0 (10) (80) with | none => none | some r1 => bif bif r1 then false else true then some (true) else match m78 a0 with | none => none | some r2 => some (bif decide (r2 = 0) then false else true) with | none => none | some r3 => bif r3 then some (false) else match m89 a0.fVars (1) with | none => none | some r4 => match m89 a0.fVars (2) with | none => none | some r5 => match m89 a0.fVars (3) with | none => none | some r6 => match r90 a0.fBody with | none => none | some r7 => match bif decide (r4.fst ≤ a1) then bif decide (r5.fst ≤ a2) then bif decide (r6.fst ≤ a3) then some (decide (r7.fst ≤ 400)) else some (false) else some (false) else some (false) with | none => none | some r8 => some (r8)
theorem c24 (a0 : Flat) (a1 : Int) (a2 : Int) (a3 : Int) : callR Tryz.prog (F24) 300 (an24) 24 (A24.c (a0, a1, a2, a3, ())) [] 0 d24.rd = m24 a0 a1 a2 a3 := by kernel_rfl
def e24 : Orc → Orc := eL Tryz.prog 24 false A24 d24 (fun g => m24 g.1 g.2.1 g.2.2.1 g.2.2.2.1)
theorem e24_ok {F : Orc} (h : OrcG Tryz.prog F) : OrcG Tryz.prog (e24 F) := eL_ok (sc := scU) scU_ok (hl_of F24_ok fa24 (fun _ => by kernel_rfl) (fun _ => by kernel_rfl) fun g => c24 g.1 g.2.1 g.2.2.1 g.2.2.2.1) ⟨_, Tryz.func24, by kernel_rfl, by kernel_rfl⟩ (fun _ => by kernel_rfl) (fun _ => by kernel_rfl) h
def F178 : Orc := or0
theorem F178_ok : OrcG Tryz.prog F178 := or0_g
abbrev E178 : Type := Int × Bool
def d178 : Td 0 E178 := .c [] [4, 5] (.r 0 0 (ec 4 (qi .i64) (ec 5 qb en)) sn (fun z => (z.1.1, z.1.2.1)) (fun x => ((x.1, x.2, ()), (()))) fun _ => rfl)
def A178 := (lc (ql 3) (lc (qi .i64) ln))
def an178 : An := .no
theorem fa178 : FnAn Tryz.prog (F178) 0 300 178 (an178) := fnAn_of (l := []) Tryz.func178 (bodyOf_eq (by kernel_rfl)) (by kernel_rfl) ob_nil
def m178 (a0 : List Int) (a1 : Int) : Option E178 :=
 bif decide ((↑a0.length : Int) ≤ a1) then some ((0, false)) else if (0 : Int) ≤ a1 ∧ a1 < (↑a0.length : Int) then some ((a0[a1.toNat]!, true)) else none
theorem c178 (a0 : List Int) (a1 : Int) : callR Tryz.prog (F178) 300 (an178) 178 (A178.c (a0, a1, ())) [] 0 d178.rd = m178 a0 a1 := by kernel_rfl
def e178 : Orc → Orc := eL Tryz.prog 178 false A178 d178 (fun g => m178 g.1 g.2.1)
theorem e178_ok {F : Orc} (h : OrcG Tryz.prog F) : OrcG Tryz.prog (e178 F) := eL_ok (sc := scU) scU_ok (hl_of F178_ok fa178 (fun _ => by kernel_rfl) (fun _ => by kernel_rfl) fun g => c178 g.1 g.2.1) ⟨_, Tryz.func178, by kernel_rfl, by kernel_rfl⟩ (fun _ => by kernel_rfl) (fun _ => by kernel_rfl) h
def F95 : Orc := (e178 or0)
theorem F95_ok : OrcG Tryz.prog F95 := (e178_ok or0_g)
structure L95_0 where
 t0 : List GVar
 t6 : Int
 t7 : Int
 t8 : Int
 t9 : List Int
 t10 : Bool
 t11 : Int
 b0 : Inputs
def d95_0 : Td 0 L95_0 := .c [] [0, 3, 6, 7, 8, 9, 10, 11] (.r 0 2 (ec 0 (ql 131) (ec 3 (qp 0 0) (ec 6 (qi .i64) (ec 7 (qi .i64) (ec 8 (qi .i64) (ec 9 (qo 1) (ec 10 qb (ec 11 (qi .i64) en)))))))) (sb 0 52 (lg 52) (sr 1 3 sn)) (fun z => ⟨z.1.1, z.1.2.2.1, z.1.2.2.2.1, z.1.2.2.2.2.1, z.2.2.1, z.1.2.2.2.2.2.2.1, z.1.2.2.2.2.2.2.2.1, z.2.1⟩) (fun x => ((x.t0, (), x.t6, x.t7, x.t8, (), x.t10, x.t11, ()), (x.b0, x.t9, ()))) fun _ => rfl)
def n95_0 (p : L95_0) : Option (Option L95_0) :=
 bif decide (p.t11 < (↑p.t0.length : Int)) then if (0 : Int) ≤ p.t11 ∧ p.t11 < (↑p.t0.length : Int) then bif decide (p.t0[p.t11.toNat]!.fKind = 1) then match m178 p.b0.fSecret p.t6 with | none => none | some r1 => bif bif r1.snd then false else true then some (none) else match bif decide (r1.fst < p.t0[p.t11.toNat]!.fLow) then some (true) else some (decide (p.t0[p.t11.toNat]!.fHigh < r1.fst)) with | none => none | some r2 => bif r2 then if (p.t9 ++ [r1.fst]).length ≤ 1073741824 then some (some (L95_0.mk p.t0 (i64.wrap (p.t6 + 1)) p.t7 p.t8 (p.t9 ++ [r1.fst]) false (i64.wrap (p.t11 + 1)) p.b0)) else none else if (p.t9 ++ [r1.fst]).length ≤ 1073741824 then some (some (L95_0.mk p.t0 (i64.wrap (p.t6 + 1)) p.t7 p.t8 (p.t9 ++ [r1.fst]) p.t10 (i64.wrap (p.t11 + 1)) p.b0)) else none else bif decide (p.t0[p.t11.toNat]!.fKind = 2) then match m178 p.b0.fPublic p.t7 with | none => none | some r3 => bif bif r3.snd then false else true then some (none) else match bif decide (r3.fst < p.t0[p.t11.toNat]!.fLow) then some (true) else some (decide (p.t0[p.t11.toNat]!.fHigh < r3.fst)) with | none => none | some r4 => bif r4 then if (p.t9 ++ [r3.fst]).length ≤ 1073741824 then some (some (L95_0.mk p.t0 p.t6 (i64.wrap (p.t7 + 1)) p.t8 (p.t9 ++ [r3.fst]) false (i64.wrap (p.t11 + 1)) p.b0)) else none else if (p.t9 ++ [r3.fst]).length ≤ 1073741824 then some (some (L95_0.mk p.t0 p.t6 (i64.wrap (p.t7 + 1)) p.t8 (p.t9 ++ [r3.fst]) p.t10 (i64.wrap (p.t11 + 1)) p.b0)) else none else bif decide (p.t0[p.t11.toNat]!.fKind = 3) then match m178 p.b0.fRandom p.t8 with | none => none | some r5 => bif bif r5.snd then false else true then some (none) else match bif decide (r5.fst < p.t0[p.t11.toNat]!.fLow) then some (true) else some (decide (p.t0[p.t11.toNat]!.fHigh < r5.fst)) with | none => none | some r6 => bif r6 then if (p.t9 ++ [r5.fst]).length ≤ 1073741824 then some (some (L95_0.mk p.t0 p.t6 p.t7 (i64.wrap (p.t8 + 1)) (p.t9 ++ [r5.fst]) false (i64.wrap (p.t11 + 1)) p.b0)) else none else if (p.t9 ++ [r5.fst]).length ≤ 1073741824 then some (some (L95_0.mk p.t0 p.t6 p.t7 (i64.wrap (p.t8 + 1)) (p.t9 ++ [r5.fst]) p.t10 (i64.wrap (p.t11 + 1)) p.b0)) else none else match bif decide (p.t0[p.t11.toNat]!.fInit < p.t0[p.t11.toNat]!.fLow) then some (true) else some (decide (p.t0[p.t11.toNat]!.fHigh < p.t0[p.t11.toNat]!.fInit)) with | none => none | some r7 => bif r7 then if (p.t9 ++ [p.t0[p.t11.toNat]!.fInit]).length ≤ 1073741824 then some (some (L95_0.mk p.t0 p.t6 p.t7 p.t8 (p.t9 ++ [p.t0[p.t11.toNat]!.fInit]) false (i64.wrap (p.t11 + 1)) p.b0)) else none else if (p.t9 ++ [p.t0[p.t11.toNat]!.fInit]).length ≤ 1073741824 then some (some (L95_0.mk p.t0 p.t6 p.t7 p.t8 (p.t9 ++ [p.t0[p.t11.toNat]!.fInit]) p.t10 (i64.wrap (p.t11 + 1)) p.b0)) else none else none else some (none)
def g95_0 : An := (.two .no (.two (.two .no (.two .no (.two .no (.two .no (.two (.two (.rb [] 74) .no) .no))))) .no))
theorem q95_0 (p : L95_0) : execA Tryz.prog (F95) Tryz.f95.ntmps 300 (loopAt Tryz.f95 0) g95_0 (Option L95_0) (d95_0.pat p) (kOn d95_0.rd) = n95_0 p := by kernel_rfl
def a95_0 : L95_0 → Option L95_0 := advG (n95_0)
abbrev E95 : Type := (List Int) × Int
def d95 : Td 0 E95 := .c [] [4, 5] (.t (TurnOk.s 4 [] 3) (.t (TurnOk.fs 4 []) (.c [] [4, 5] (.r 0 0 (ec 4 (ql 3) (ec 5 (qi .i64) en)) sn (fun z => (z.1.1, z.1.2.1)) (fun x => ((x.1, x.2, ()), (()))) fun _ => rfl))))
def A95 := (lc (ql 131) (lc (qg 52) ln))
def an95 : An := (.two .no (.two .no (.two .no (.two .no (.two (.two .no (d95_0.lp a95_0 g95_0)) (.two (.two (.rb [] 97) .no) .no))))))
theorem pu95  : ∀ f ∈ ([] : List Nat), PureF (F95) f := ob_nil
theorem fa95 : FnAn Tryz.prog (F95) 0 300 95 (an95) := fnAn_of (l := [(loopAt Tryz.f95 0, (d95_0.lp a95_0 g95_0)), (.skip, (.rb [] 74)), (.skip, (.rb [] 97))]) Tryz.func95 (bodyOf_eq (by kernel_rfl)) (by kernel_rfl) (ob_cons ⟨d95_0.ok _, advG_ok (q95_0)⟩ (ob_cons pu95 (ob_cons pu95 ob_nil)))
def m95 (a0 : List GVar) (a1 : Inputs) : Option E95 :=
 match a95_0 (L95_0.mk a0 (0) (0) (0) [] true (0) a1) with | none => none | some r8 => bif decide (r8.t11 < (↑r8.t0.length : Int)) then if (0 : Int) ≤ r8.t11 ∧ r8.t11 < (↑r8.t0.length : Int) then bif decide (r8.t0[r8.t11.toNat]!.fKind = 1) then match m178 r8.b0.fSecret r8.t6 with | none => none | some r9 => bif bif r9.snd then false else true then some (([], 1)) else match bif decide (r9.fst < r8.t0[r8.t11.toNat]!.fLow) then some (true) else some (decide (r8.t0[r8.t11.toNat]!.fHigh < r9.fst)) with | none => none | some r10 => bif r10 then if (r8.t9 ++ [r9.fst]).length ≤ 1073741824 then none else none else if (r8.t9 ++ [r9.fst]).length ≤ 1073741824 then none else none else bif decide (r8.t0[r8.t11.toNat]!.fKind = 2) then match m178 r8.b0.fPublic r8.t7 with | none => none | some r11 => bif bif r11.snd then false else true then some (([], 1)) else match bif decide (r11.fst < r8.t0[r8.t11.toNat]!.fLow) then some (true) else some (decide (r8.t0[r8.t11.toNat]!.fHigh < r11.fst)) with | none => none | some r12 => bif r12 then if (r8.t9 ++ [r11.fst]).length ≤ 1073741824 then none else none else if (r8.t9 ++ [r11.fst]).length ≤ 1073741824 then none else none else bif decide (r8.t0[r8.t11.toNat]!.fKind = 3) then match m178 r8.b0.fRandom r8.t8 with | none => none | some r13 => bif bif r13.snd then false else true then some (([], 1)) else match bif decide (r13.fst < r8.t0[r8.t11.toNat]!.fLow) then some (true) else some (decide (r8.t0[r8.t11.toNat]!.fHigh < r13.fst)) with | none => none | some r14 => bif r14 then if (r8.t9 ++ [r13.fst]).length ≤ 1073741824 then none else none else if (r8.t9 ++ [r13.fst]).length ≤ 1073741824 then none else none else match bif decide (r8.t0[r8.t11.toNat]!.fInit < r8.t0[r8.t11.toNat]!.fLow) then some (true) else some (decide (r8.t0[r8.t11.toNat]!.fHigh < r8.t0[r8.t11.toNat]!.fInit)) with | none => none | some r15 => bif r15 then if (r8.t9 ++ [r8.t0[r8.t11.toNat]!.fInit]).length ≤ 1073741824 then none else none else if (r8.t9 ++ [r8.t0[r8.t11.toNat]!.fInit]).length ≤ 1073741824 then none else none else none else match bif bif decide (r8.t6 = (↑r8.b0.fSecret.length : Int)) then false else true then some (true) else bif bif decide (r8.t7 = (↑r8.b0.fPublic.length : Int)) then false else true then some (true) else some (bif decide (r8.t8 = (↑r8.b0.fRandom.length : Int)) then false else true) with | none => none | some r16 => bif r16 then some (([], 1)) else bif bif r8.t10 then false else true then some (([], 3)) else some ((r8.t9, 0))
theorem c95 (a0 : List GVar) (a1 : Inputs) : callR Tryz.prog (F95) 300 (an95) 95 (A95.c (a0, a1, ())) [] 0 d95.rd = m95 a0 a1 := by kernel_rfl
def e95 : Orc → Orc := eZ Tryz.prog 95 A95 d95 (fun g => m95 g.1 g.2.1)
theorem e95_ok {F : Orc} (h : OrcG Tryz.prog F) : OrcG Tryz.prog (e95 F) := eZ_ok (hl_of F95_ok fa95 (fun _ => by kernel_rfl) (fun _ => by kernel_rfl) fun g => c95 g.1 g.2.1) ⟨_, Tryz.func95, by kernel_rfl, by kernel_rfl⟩ (fun _ => by kernel_rfl) h
def F183 : Orc := or0
theorem F183_ok : OrcG Tryz.prog F183 := or0_g
abbrev E183 : Type := Int
def d183 : Td 0 E183 := .c [] [6] (.r 0 0 (ec 6 (qi .i64) en) sn (fun z => z.1.1) (fun x => ((x, ()), (()))) fun _ => rfl)
def A183 := (lc (qi .i64) (lc (qi .i64) (lc (qi .i64) ln)))
def an183 : An := .no
theorem fa183 : FnAn Tryz.prog (F183) 0 300 183 (an183) := fnAn_of (l := []) Tryz.func183 (bodyOf_eq (by kernel_rfl)) (by kernel_rfl) ob_nil
def m183 (a0 : Int) (a1 : Int) (a2 : Int) : E183 :=
 bif decide (a0 < a1) then a1 else bif decide (a2 < a0) then a2 else a0
theorem c183 (a0 : Int) (a1 : Int) (a2 : Int) : callR Tryz.prog (F183) 300 (an183) 183 (A183.c (a0, a1, a2, ())) [] 0 d183.rd = some (m183 a0 a1 a2) := by
 refine Eq.trans (b := (
  bif decide (a0 < a1) then some (a1) else bif decide (a2 < a0) then some (a2) else some (a0) : Option E183)) (by kernel_rfl) ?_
 simp only [m183, cond_some, ite_some]
def e183 : Orc → Orc := eL Tryz.prog 183 false A183 d183 (fun g => some (m183 g.1 g.2.1 g.2.2.1))
theorem e183_ok {F : Orc} (h : OrcG Tryz.prog F) : OrcG Tryz.prog (e183 F) := eL_ok (sc := scU) scU_ok (hl_of F183_ok fa183 (fun _ => by kernel_rfl) (fun _ => by kernel_rfl) fun g => c183 g.1 g.2.1 g.2.2.1) ⟨_, Tryz.func183, by kernel_rfl, by kernel_rfl⟩ (fun _ => by kernel_rfl) (fun _ => by kernel_rfl) h
def F248 : Orc := or0
theorem F248_ok : OrcG Tryz.prog F248 := or0_g
abbrev E248 : Type := Int
def d248 : Td 0 E248 := .c [] [2] (.r 0 0 (ec 2 (qi .i64) en) sn (fun z => z.1.1) (fun x => ((x, ()), (()))) fun _ => rfl)
def A248 := (lc qb ln)
def an248 : An := .no
theorem fa248 : FnAn Tryz.prog (F248) 0 300 248 (an248) := fnAn_of (l := []) Tryz.func248 (bodyOf_eq (by kernel_rfl)) (by kernel_rfl) ob_nil
def m248 (a0 : Bool) : E248 :=
 bif a0 then 1 else 0
theorem c248 (a0 : Bool) : callR Tryz.prog (F248) 300 (an248) 248 (A248.c (a0, ())) [] 0 d248.rd = some (m248 a0) := by
 refine Eq.trans (b := (
  bif a0 then some (1) else some (0) : Option E248)) (by kernel_rfl) ?_
 simp only [m248, cond_some, ite_some]
def e248 : Orc → Orc := eL Tryz.prog 248 false A248 d248 (fun g => some (m248 g.1))
theorem e248_ok {F : Orc} (h : OrcG Tryz.prog F) : OrcG Tryz.prog (e248 F) := eL_ok (sc := scU) scU_ok (hl_of F248_ok fa248 (fun _ => by kernel_rfl) (fun _ => by kernel_rfl) fun g => c248 g.1) ⟨_, Tryz.func248, by kernel_rfl, by kernel_rfl⟩ (fun _ => by kernel_rfl) (fun _ => by kernel_rfl) h
def F193 : Orc := or0
theorem F193_ok : OrcG Tryz.prog F193 := or0_g
abbrev E193 : Type := Int
def d193 : Td 0 E193 := .c [] [4] (.r 0 0 (ec 4 (qi .i64) en) sn (fun z => z.1.1) (fun x => ((x, ()), (()))) fun _ => rfl)
def A193 := (lc (qi .i64) (lc (qi .i64) ln))
def an193 : An := (.two .no (.two .no (.two .no (.two (.two (.rb [] 21) .no) .no))))
theorem pu193  : ∀ f ∈ ([] : List Nat), PureF (F193) f := ob_nil
theorem fa193 : FnAn Tryz.prog (F193) 0 300 193 (an193) := fnAn_of (l := [(.skip, (.rb [] 21))]) Tryz.func193 (bodyOf_eq (by kernel_rfl)) (by kernel_rfl) (ob_cons pu193 ob_nil)
def m193 (a0 : Int) (a1 : Int) : Option E193 :=
 bif decide (a1 = 0) then some (0) else if ¬a1 = (0 : Int) then match if ¬a1 = (0 : Int) then bif bif decide (a0.tmod a1 = 0) then false else true then some (bif decide (a0 < 0) == decide (a1 < 0) then false else true) else some (false) else none with | none => none | some r1 => bif r1 then some (i64.wrap (i64.wrap (a0.tdiv a1) - 1)) else some (i64.wrap (a0.tdiv a1)) else none
theorem c193 (a0 : Int) (a1 : Int) : callR Tryz.prog (F193) 300 (an193) 193 (A193.c (a0, a1, ())) [] 0 d193.rd = m193 a0 a1 := by kernel_rfl
def e193 : Orc → Orc := eL Tryz.prog 193 false A193 d193 (fun g => m193 g.1 g.2.1)
theorem e193_ok {F : Orc} (h : OrcG Tryz.prog F) : OrcG Tryz.prog (e193 F) := eL_ok (sc := scU) scU_ok (hl_of F193_ok fa193 (fun _ => by kernel_rfl) (fun _ => by kernel_rfl) fun g => c193 g.1 g.2.1) ⟨_, Tryz.func193, by kernel_rfl, by kernel_rfl⟩ (fun _ => by kernel_rfl) (fun _ => by kernel_rfl) h
def F287 : Orc := (e193 or0)
theorem F287_ok : OrcG Tryz.prog F287 := (e193_ok or0_g)
abbrev E287 : Type := Int
def d287 : Td 0 E287 := .c [] [4] (.r 0 0 (ec 4 (qi .i64) en) sn (fun z => z.1.1) (fun x => ((x, ()), (()))) fun _ => rfl)
def A287 := (lc (qi .i64) (lc (qi .i64) ln))
def an287 : An := .no
theorem fa287 : FnAn Tryz.prog (F287) 0 300 287 (an287) := fnAn_of (l := []) Tryz.func287 (bodyOf_eq (by kernel_rfl)) (by kernel_rfl) ob_nil
def m287 (a0 : Int) (a1 : Int) : Option E287 :=
 bif decide (a1 = 0) then some (0) else match m193 a0 a1 with | none => none | some r1 => some (i64.wrap (a0 - i64.wrap (a1 * r1)))
theorem c287 (a0 : Int) (a1 : Int) : callR Tryz.prog (F287) 300 (an287) 287 (A287.c (a0, a1, ())) [] 0 d287.rd = m287 a0 a1 := by kernel_rfl
def e287 : Orc → Orc := eL Tryz.prog 287 false A287 d287 (fun g => m287 g.1 g.2.1)
theorem e287_ok {F : Orc} (h : OrcG Tryz.prog F) : OrcG Tryz.prog (e287 F) := eL_ok (sc := scU) scU_ok (hl_of F287_ok fa287 (fun _ => by kernel_rfl) (fun _ => by kernel_rfl) fun g => c287 g.1 g.2.1) ⟨_, Tryz.func287, by kernel_rfl, by kernel_rfl⟩ (fun _ => by kernel_rfl) (fun _ => by kernel_rfl) h
def F249 : Orc := (e287 (e248 (e193 (e175 (e174 or0)))))
theorem F249_ok : OrcG Tryz.prog F249 := (e287_ok (e248_ok (e193_ok (e175_ok (e174_ok or0_g)))))
abbrev E249 : Type := Int
def d249 : Td 0 E249 := .c [] [6] (.r 0 0 (ec 6 (qi .i64) en) sn (fun z => z.1.1) (fun x => ((x, ()), (()))) fun _ => rfl)
def A249 := (lc (qi .i64) (lc (qi .i64) (lc (qi .i64) ln)))
def an249 : An := .no
theorem fa249 : FnAn Tryz.prog (F249) 0 300 249 (an249) := fnAn_of (l := []) Tryz.func249 (bodyOf_eq (by kernel_rfl)) (by kernel_rfl) ob_nil
def m249 (a0 : Int) (a1 : Int) (a2 : Int) : Option E249 :=
 bif decide (a0 = 8) then some (i64.wrap (a1 + a2)) else bif decide (a0 = 9) then some (i64.wrap (a1 - a2)) else bif decide (a0 = 10) then some (i64.wrap (a1 * a2)) else bif decide (a0 = 11) then match m193 a1 a2 with | none => none | some r1 => some (r1) else bif decide (a0 = 12) then match m287 a1 a2 with | none => none | some r2 => some (r2) else bif decide (a0 = 13) then some (m248 (decide (a1 = a2))) else bif decide (a0 = 14) then some (m248 (bif decide (a1 = a2) then false else true)) else bif decide (a0 = 15) then some (m248 (decide (a1 < a2))) else bif decide (a0 = 16) then some (m248 (decide (a1 ≤ a2))) else bif decide (a0 = 17) then some (m248 (decide (a2 < a1))) else bif decide (a0 = 18) then some (m248 (decide (a2 ≤ a1))) else bif decide (a0 = 19) then bif bif decide (a1 = 0) then false else true then some (m248 (bif decide (a2 = 0) then false else true)) else some (m248 false) else bif decide (a0 = 20) then bif bif decide (a1 = 0) then false else true then some (m248 true) else some (m248 (bif decide (a2 = 0) then false else true)) else bif decide (a0 = 21) then some (m175 a1 a2) else some (m174 a1 a2)
theorem c249 (a0 : Int) (a1 : Int) (a2 : Int) : callR Tryz.prog (F249) 300 (an249) 249 (A249.c (a0, a1, a2, ())) [] 0 d249.rd = m249 a0 a1 a2 := by kernel_rfl
def e249 : Orc → Orc := eL Tryz.prog 249 false A249 d249 (fun g => m249 g.1 g.2.1 g.2.2.1)
theorem e249_ok {F : Orc} (h : OrcG Tryz.prog F) : OrcG Tryz.prog (e249 F) := eL_ok (sc := scU) scU_ok (hl_of F249_ok fa249 (fun _ => by kernel_rfl) (fun _ => by kernel_rfl) fun g => c249 g.1 g.2.1 g.2.2.1) ⟨_, Tryz.func249, by kernel_rfl, by kernel_rfl⟩ (fun _ => by kernel_rfl) (fun _ => by kernel_rfl) h
abbrev E181 : Type := Int
def d181 : Td 0 E181 := .c [] [4] (.r 0 0 (ec 4 (qi .i64) en) sn (fun z => z.1.1) (fun x => ((x, ()), (()))) fun _ => rfl)
def A181 := (lc (ql 3) (lc (qg 137) ln))
def x181 (M : (List Int) → GTerm → Option E181) : Orc → Orc := eL Tryz.prog 181 false A181 d181 (fun g => M g.1 g.2.1)
def H181 (M : (List Int) → GTerm → Option E181) : Prop := HL Tryz.prog 181 A181 d181 (fun g => M g.1 g.2.1)
theorem x181_ok {M : (List Int) → GTerm → Option E181} (hM : H181 M) {F : Orc} (h : OrcG Tryz.prog F) : OrcG Tryz.prog (x181 M F) := eL_ok (sc := scU) scU_ok hM ⟨_, Tryz.func181, by kernel_rfl, by kernel_rfl⟩ (fun _ => by kernel_rfl) (fun _ => by kernel_rfl) h
def F181 (M181 : (List Int) → GTerm → Option E181) : Orc := (e249 (e248 (e183 (x181 M181 or0))))
theorem F181_ok {M181} (h181 : H181 M181) : OrcG Tryz.prog (F181 M181) := (e249_ok (e248_ok (e183_ok (x181_ok h181 or0_g))))
def an181 (M181 : (List Int) → GTerm → Option E181) : An := .no
theorem fa181 (M181 : (List Int) → GTerm → Option E181) : FnAn Tryz.prog (F181 M181) 0 300 181 (an181 M181) := fnAn_of (l := []) Tryz.func181 (bodyOf_eq (by kernel_rfl)) (by kernel_rfl) ob_nil
def s181 (M181 : (List Int) → GTerm → Option E181) (a0 : List Int) (a1 : GTerm) : Option E181 :=
 bif decide (a1.fOp = 0) then some (a1.fN) else bif decide (a1.fOp = 24) then if (0 : Int) ≤ a1.fN ∧ a1.fN < (↑a0.length : Int) then some (a0[a1.fN.toNat]!) else none else bif decide (a1.fOp = 6) then if (0 : Int) ≤ (0 : Int) ∧ (0 : Int) < (↑a1.fKids.length : Int) then match M181 a0 (GTerm.mk a1.fKids[0]!.fOp a1.fKids[0]!.fN a1.fKids[0]!.fKids) with | none => none | some r1 => some (i64.wrap (0 - r1)) else none else bif decide (a1.fOp = 7) then if (0 : Int) ≤ (0 : Int) ∧ (0 : Int) < (↑a1.fKids.length : Int) then match M181 a0 (GTerm.mk a1.fKids[0]!.fOp a1.fKids[0]!.fN a1.fKids[0]!.fKids) with | none => none | some r2 => some (m248 (decide (r2 = 0))) else none else bif decide (a1.fOp = 23) then if (0 : Int) ≤ (0 : Int) ∧ (0 : Int) < (↑a1.fKids.length : Int) then match M181 a0 (GTerm.mk a1.fKids[0]!.fOp a1.fKids[0]!.fN a1.fKids[0]!.fKids) with | none => none | some r3 => bif bif decide (r3 = 0) then false else true then if (0 : Int) ≤ (1 : Int) ∧ (1 : Int) < (↑a1.fKids.length : Int) then match M181 a0 (GTerm.mk a1.fKids[1]!.fOp a1.fKids[1]!.fN a1.fKids[1]!.fKids) with | none => none | some r4 => some (r4) else none else if (0 : Int) ≤ (2 : Int) ∧ (2 : Int) < (↑a1.fKids.length : Int) then match M181 a0 (GTerm.mk a1.fKids[2]!.fOp a1.fKids[2]!.fN a1.fKids[2]!.fKids) with | none => none | some r5 => some (r5) else none else none else bif decide (a1.fOp = 25) then if (0 : Int) ≤ (0 : Int) ∧ (0 : Int) < (↑a1.fKids.length : Int) then match M181 a0 (GTerm.mk a1.fKids[0]!.fOp a1.fKids[0]!.fN a1.fKids[0]!.fKids) with | none => none | some r6 => if (0 : Int) ≤ i64.wrap ((1 : Int) + m183 r6 ((0 : Int)) (i64.wrap ((↑a1.fKids.length : Int) - (2 : Int)))) ∧ i64.wrap ((1 : Int) + m183 r6 ((0 : Int)) (i64.wrap ((↑a1.fKids.length : Int) - (2 : Int)))) < (↑a1.fKids.length : Int) then match M181 a0 (GTerm.mk a1.fKids[(i64.wrap (1 + m183 r6 (0) (i64.wrap ((↑a1.fKids.length : Int) - 2)))).toNat]!.fOp a1.fKids[(i64.wrap (1 + m183 r6 (0) (i64.wrap ((↑a1.fKids.length : Int) - 2)))).toNat]!.fN a1.fKids[(i64.wrap (1 + m183 r6 (0) (i64.wrap ((↑a1.fKids.length : Int) - 2)))).toNat]!.fKids) with | none => none | some r7 => some (r7) else none else none else if (0 : Int) ≤ (0 : Int) ∧ (0 : Int) < (↑a1.fKids.length : Int) then match M181 a0 (GTerm.mk a1.fKids[0]!.fOp a1.fKids[0]!.fN a1.fKids[0]!.fKids) with | none => none | some r8 => if (0 : Int) ≤ (1 : Int) ∧ (1 : Int) < (↑a1.fKids.length : Int) then match M181 a0 (GTerm.mk a1.fKids[1]!.fOp a1.fKids[1]!.fN a1.fKids[1]!.fKids) with | none => none | some r9 => match m249 a1.fOp r8 r9 with | none => none | some r10 => some (r10) else none else none
theorem c181 (M181 : (List Int) → GTerm → Option E181) (a0 : List Int) (a1 : GTerm) : callR Tryz.prog (F181 M181) 300 (an181 M181) 181 (A181.c (a0, a1, ())) [] 0 d181.rd = s181 M181 a0 a1 := by kernel_rfl
def mm181 : Nat → ((List Int) → GTerm → Option E181)
 | 0 => (fun _ _ => none)
 | n + 1 => (s181 (mm181 n))
def m181 (n : Nat) : (List Int) → GTerm → Option E181 := (mm181 n)
theorem mm181_ok : ∀ n, H181 (m181 n)
 | 0 => fun _ _ h => (by cases h)
 | n + 1 => by
  have ih := mm181_ok n
  have i181 := ih
  exact (hl_of (F181_ok i181) (fa181 (m181 n)) (fun _ => by kernel_rfl) (fun _ => by kernel_rfl) fun g => c181 (m181 n) g.1 g.2.1)
def r181 : (List Int) → GTerm → Option E181 := fun a0 a1 => lim (fun n => m181 n a0 a1)
theorem r181_ok : H181 r181 := fun g b h => by
 obtain ⟨n, hn⟩ := lim_some (show lim (fun n => m181 n g.1 g.2.1) = some b from h)
 exact (mm181_ok n) g b hn
def e181 (F : Orc) : Orc := x181 r181 F
theorem e181_ok {F : Orc} (h : OrcG Tryz.prog F) : OrcG Tryz.prog (e181 F) := x181_ok r181_ok h
def F180 : Orc := (e183 or0)
theorem F180_ok : OrcG Tryz.prog F180 := (e183_ok or0_g)
abbrev E180 : Type := List Int
def d180 : Td 0 E180 := .c [] [8] (.r 0 1 (ec 8 (qo 0) en) (sr 0 3 sn) (fun z => z.2.1) (fun x => (((), ()), (x, ()))) fun _ => rfl)
def A180 := (lc (qg 26) (lc (ql 3) (lc (qi .i64) (lc (qi .i64) ln))))
def an180 : An := .no
theorem fa180 : FnAn Tryz.prog (F180) 0 300 180 (an180) := fnAn_of (l := []) Tryz.func180 (bodyOf_eq (by kernel_rfl)) (by kernel_rfl) ob_nil
def m180 (a0 : Flat) (a1 : List Int) (a2 : Int) (a3 : Int) : Option E180 :=
 if ([] ++ a1).length ≤ 1073741824 then if (0 : Int) ≤ a2 ∧ a2 < (↑a0.fVars.length : Int) then if (0 : Int) ≤ a2 ∧ a2 < (↑a0.fVars.length : Int) then if (0 : Int) ≤ a2 ∧ a2 < (↑([] ++ a1).length : Int) then if 3 = 3 ∧ a2.toNat < ([] ++ a1).length then some (([] ++ a1).set a2.toNat (m183 a3 a0.fVars[a2.toNat]!.fLow a0.fVars[a2.toNat]!.fHigh)) else none else none else none else none else none
theorem c180 (a0 : Flat) (a1 : List Int) (a2 : Int) (a3 : Int) : callR Tryz.prog (F180) 300 (an180) 180 (A180.c (a0, a1, a2, a3, ())) [] 0 d180.rd = m180 a0 a1 a2 a3 := by kernel_rfl
def e180 : Orc → Orc := eL Tryz.prog 180 false A180 d180 (fun g => m180 g.1 g.2.1 g.2.2.1 g.2.2.2.1)
theorem e180_ok {F : Orc} (h : OrcG Tryz.prog F) : OrcG Tryz.prog (e180 F) := eL_ok (sc := scU) scU_ok (hl_of F180_ok fa180 (fun _ => by kernel_rfl) (fun _ => by kernel_rfl) fun g => c180 g.1 g.2.1 g.2.2.1 g.2.2.2.1) ⟨_, Tryz.func180, by kernel_rfl, by kernel_rfl⟩ (fun _ => by kernel_rfl) (fun _ => by kernel_rfl) h
def F182 : Orc := or0
theorem F182_ok : OrcG Tryz.prog F182 := or0_g
structure L182_0 where
 t0 : List Int
 t1 : Int
 t5 : Int
 t6 : Bool
 t7 : Int
def d182_0 : Td 0 L182_0 := .c [] [0, 1, 5, 6, 7] (.r 0 0 (ec 0 (ql 3) (ec 1 (qi .i64) (ec 5 (qi .i64) (ec 6 qb (ec 7 (qi .i64) en))))) sn (fun z => ⟨z.1.1, z.1.2.1, z.1.2.2.1, z.1.2.2.2.1, z.1.2.2.2.2.1⟩) (fun x => ((x.t0, x.t1, x.t5, x.t6, x.t7, ()), (()))) fun _ => rfl)
def n182_0 (p : L182_0) : Option (Option L182_0) :=
 bif decide (p.t7 < (↑p.t0.length : Int)) then match if (0 : Int) ≤ p.t7 ∧ p.t7 < (↑p.t0.length : Int) then bif decide (((p.t0, p.t1, p.t5, p.t6, p.t7, ()), ()).fst.snd.fst ≤ ((p.t0, p.t1, p.t5, p.t6, p.t7, ()), ()).fst.fst[((p.t0, p.t1, p.t5, p.t6, p.t7, ()), ()).fst.snd.snd.snd.snd.fst.toNat]!) then bif bif p.t6 then false else true then some (true) else if (0 : Int) ≤ p.t7 ∧ p.t7 < (↑p.t0.length : Int) then some (decide (((p.t0, p.t1, p.t5, p.t6, p.t7, ()), ()).fst.fst[((p.t0, p.t1, p.t5, p.t6, p.t7, ()), ()).fst.snd.snd.snd.snd.fst.toNat]! < ((p.t0, p.t1, p.t5, p.t6, p.t7, ()), ()).fst.snd.snd.fst)) else none else some (false) else none with | none => none | some r1 => bif r1 then if (0 : Int) ≤ p.t7 ∧ p.t7 < (↑p.t0.length : Int) then some (some (L182_0.mk p.t0 p.t1 p.t0[p.t7.toNat]! true (i64.wrap (p.t7 + 1)))) else none else some (some (L182_0.mk p.t0 p.t1 p.t5 p.t6 (i64.wrap (p.t7 + 1)))) else some (none)
def g182_0 : An := (.two .no (.two (.two (.rb [] 32) .no) .no))
theorem q182_0 (p : L182_0) : execA Tryz.prog (F182) Tryz.f182.ntmps 300 (loopAt Tryz.f182 0) g182_0 (Option L182_0) (d182_0.pat p) (kOn d182_0.rd) = n182_0 p := by kernel_rfl
def a182_0 : L182_0 → Option L182_0 := advG (n182_0)
abbrev E182 : Type := Int
def d182 : Td 0 E182 := .c [] [4] (.r 0 0 (ec 4 (qi .i64) en) sn (fun z => z.1.1) (fun x => ((x, ()), (()))) fun _ => rfl)
def A182 := (lc (ql 3) (lc (qi .i64) ln))
def an182 : An := (.two .no (.two .no (.two (.two .no (d182_0.lp a182_0 g182_0)) .no)))
theorem pu182  : ∀ f ∈ ([] : List Nat), PureF (F182) f := ob_nil
theorem fa182 : FnAn Tryz.prog (F182) 0 300 182 (an182) := fnAn_of (l := [(loopAt Tryz.f182 0, (d182_0.lp a182_0 g182_0)), (.skip, (.rb [] 32))]) Tryz.func182 (bodyOf_eq (by kernel_rfl)) (by kernel_rfl) (ob_cons ⟨d182_0.ok _, advG_ok (q182_0)⟩ (ob_cons pu182 ob_nil))
def m182 (a0 : List Int) (a1 : Int) : Option E182 :=
 match a182_0 (L182_0.mk a0 a1 a1 false (0)) with | none => none | some r2 => bif decide (r2.t7 < (↑r2.t0.length : Int)) then match if (0 : Int) ≤ r2.t7 ∧ r2.t7 < (↑r2.t0.length : Int) then bif decide (((r2.t0, r2.t1, r2.t5, r2.t6, r2.t7, ()), ()).fst.snd.fst ≤ ((r2.t0, r2.t1, r2.t5, r2.t6, r2.t7, ()), ()).fst.fst[((r2.t0, r2.t1, r2.t5, r2.t6, r2.t7, ()), ()).fst.snd.snd.snd.snd.fst.toNat]!) then bif bif r2.t6 then false else true then some (true) else if (0 : Int) ≤ r2.t7 ∧ r2.t7 < (↑r2.t0.length : Int) then some (decide (((r2.t0, r2.t1, r2.t5, r2.t6, r2.t7, ()), ()).fst.fst[((r2.t0, r2.t1, r2.t5, r2.t6, r2.t7, ()), ()).fst.snd.snd.snd.snd.fst.toNat]! < ((r2.t0, r2.t1, r2.t5, r2.t6, r2.t7, ()), ()).fst.snd.snd.fst)) else none else some (false) else none with | none => none | some r3 => bif r3 then if (0 : Int) ≤ r2.t7 ∧ r2.t7 < (↑r2.t0.length : Int) then none else none else none else some (r2.t5)
theorem c182 (a0 : List Int) (a1 : Int) : callR Tryz.prog (F182) 300 (an182) 182 (A182.c (a0, a1, ())) [] 0 d182.rd = m182 a0 a1 := by kernel_rfl
def e182 : Orc → Orc := eL Tryz.prog 182 false A182 d182 (fun g => m182 g.1 g.2.1)
theorem e182_ok {F : Orc} (h : OrcG Tryz.prog F) : OrcG Tryz.prog (e182 F) := eL_ok (sc := scU) scU_ok (hl_of F182_ok fa182 (fun _ => by kernel_rfl) (fun _ => by kernel_rfl) fun g => c182 g.1 g.2.1) ⟨_, Tryz.func182, by kernel_rfl, by kernel_rfl⟩ (fun _ => by kernel_rfl) (fun _ => by kernel_rfl) h
abbrev E96 : Type := GState
def d96 : Td 0 E96 := .c [] [8] (.r 0 1 (ec 8 (qp 0 0) en) (sb 0 56 (lg 56) sn) (fun z => z.2.1) (fun x => (((), ()), (x, ()))) fun _ => rfl)
def A96 := (lc (qg 26) (lc (ql 3) (lc (ql 166) (lc (qg 56) ln))))
def x96 (M : Flat → (List Int) → (List GStep) → GState → Option E96) : Orc → Orc := eZ Tryz.prog 96 A96 d96 (fun g => M g.1 g.2.1 g.2.2.1 g.2.2.2.1)
def H96 (M : Flat → (List Int) → (List GStep) → GState → Option E96) : Prop := HL Tryz.prog 96 A96 d96 (fun g => M g.1 g.2.1 g.2.2.1 g.2.2.2.1)
theorem x96_ok {M : Flat → (List Int) → (List GStep) → GState → Option E96} (hM : H96 M) {F : Orc} (h : OrcG Tryz.prog F) : OrcG Tryz.prog (x96 M F) := eZ_ok hM ⟨_, Tryz.func96, by kernel_rfl, by kernel_rfl⟩ (fun _ => by kernel_rfl) h
abbrev E179 : Type := GState
def d179 : Td 0 E179 := .c [] [8] (.r 0 1 (ec 8 (qp 0 0) en) (sb 0 56 (lg 56) sn) (fun z => z.2.1) (fun x => (((), ()), (x, ()))) fun _ => rfl)
def A179 := (lc (qg 26) (lc (ql 3) (lc (qg 166) (lc (qg 56) ln))))
def x179 (M : Flat → (List Int) → GStep → GState → Option E179) : Orc → Orc := eZ Tryz.prog 179 A179 d179 (fun g => M g.1 g.2.1 g.2.2.1 g.2.2.2.1)
def H179 (M : Flat → (List Int) → GStep → GState → Option E179) : Prop := HL Tryz.prog 179 A179 d179 (fun g => M g.1 g.2.1 g.2.2.1 g.2.2.2.1)
theorem x179_ok {M : Flat → (List Int) → GStep → GState → Option E179} (hM : H179 M) {F : Orc} (h : OrcG Tryz.prog F) : OrcG Tryz.prog (x179 M F) := eZ_ok hM ⟨_, Tryz.func179, by kernel_rfl, by kernel_rfl⟩ (fun _ => by kernel_rfl) h
def F96 (M96 : Flat → (List Int) → (List GStep) → GState → Option E96) (M179 : Flat → (List Int) → GStep → GState → Option E179) : Orc := (e182 (e181 (e180 (x179 M179 (x96 M96 or0)))))
theorem F96_ok {M96 M179} (h96 : H96 M96) (h179 : H179 M179) : OrcG Tryz.prog (F96 M96 M179) := (e182_ok (e181_ok (e180_ok (x179_ok h179 (x96_ok h96 or0_g)))))
structure L96_0 where
 t1 : List Int
 t2 : List GStep
 t9 : Int
 b0 : Flat
 b1 : GState
 b2 : GState
def d96_0 : Td 0 L96_0 := .c [] [1, 2, 4, 7, 8, 9] (.t (TurnOk.fc 1 0 []) (.t (TurnOk.fc 1 1 []) (.c [] [1, 2, 4, 7, 8, 9] (.r 0 3 (ec 1 (ql 3) (ec 2 (ql 166) (ec 4 (qp 0 0) (ec 7 (qp 1 0) (ec 8 (qp 2 0) (ec 9 (qi .i64) en)))))) (sb 0 26 (lg 26) (sb 1 56 (lg 56) (sb 2 56 (lc qn (lc qn (lc (qi .i64) ln))) sn))) (fun z => ⟨z.1.1, z.1.2.1, z.1.2.2.2.2.2.1, z.2.1, z.2.2.1, (GState.mk [] [] z.2.2.2.1.2.2.1)⟩) (fun x => ((x.t1, x.t2, (), (), (), x.t9, ()), (x.b0, x.b1, ((), (), x.b2.fTime, ()), ()))) fun _ => rfl))))
def n96_0 (M96 : Flat → (List Int) → (List GStep) → GState → Option E96) (M179 : Flat → (List Int) → GStep → GState → Option E179) (p : L96_0) : Option (Option L96_0) :=
 bif decide (p.t9 < (↑p.t2.length : Int)) then if (0 : Int) ≤ p.t9 ∧ p.t9 < (↑p.t2.length : Int) then bif decide (p.t2[p.t9.toNat]!.fDo = 4) then match M179 p.b0 p.t1 (GStep.mk p.t2[p.t9.toNat]!.fDo p.t2[p.t9.toNat]!.fCost p.t2[p.t9.toNat]!.fVar p.t2[p.t9.toNat]!.fN (GTerm.mk p.t2[p.t9.toNat]!.fTerm.fOp p.t2[p.t9.toNat]!.fTerm.fN p.t2[p.t9.toNat]!.fTerm.fKids) p.t2[p.t9.toNat]!.fThen p.t2[p.t9.toNat]!.fElse p.t2[p.t9.toNat]!.fBounds) p.b1 with | none => none | some r1 => some (some (L96_0.mk p.t1 p.t2 (i64.wrap (p.t9 + 1)) p.b0 r1 (GState.mk [] [] p.b2.fTime))) else bif decide (p.t2[p.t9.toNat]!.fDo = 0) then match r181 p.b1.fValues (GTerm.mk p.t2[p.t9.toNat]!.fTerm.fOp p.t2[p.t9.toNat]!.fTerm.fN p.t2[p.t9.toNat]!.fTerm.fKids) with | none => none | some r2 => match m180 p.b0 p.b1.fValues p.t2[p.t9.toNat]!.fVar r2 with | none => none | some r3 => some (some (L96_0.mk p.t1 p.t2 (i64.wrap (p.t9 + 1)) p.b0 (GState.mk r3 p.b1.fOutputs (i64.wrap (p.b1.fTime + p.t2[p.t9.toNat]!.fCost))) (GState.mk [] [] p.b2.fTime))) else bif decide (p.t2[p.t9.toNat]!.fDo = 1) then if ([] ++ p.b1.fOutputs).length ≤ 1073741824 then match r181 p.b1.fValues (GTerm.mk p.t2[p.t9.toNat]!.fTerm.fOp p.t2[p.t9.toNat]!.fTerm.fN p.t2[p.t9.toNat]!.fTerm.fKids) with | none => none | some r4 => if ([] ++ p.b1.fOutputs ++ [r4]).length ≤ 1073741824 then some (some (L96_0.mk p.t1 p.t2 (i64.wrap (p.t9 + 1)) p.b0 (GState.mk p.b1.fValues ([] ++ p.b1.fOutputs ++ [r4]) (i64.wrap (p.b1.fTime + p.t2[p.t9.toNat]!.fCost))) (GState.mk [] [] p.b2.fTime))) else none else none else bif decide (p.t2[p.t9.toNat]!.fDo = 5) then if (0 : Int) ≤ p.t2[p.t9.toNat]!.fN ∧ p.t2[p.t9.toNat]!.fN < (↑p.t1.length : Int) then match m180 p.b0 p.b1.fValues p.t2[p.t9.toNat]!.fVar p.t1[p.t2[p.t9.toNat]!.fN.toNat]! with | none => none | some r5 => some (some (L96_0.mk p.t1 p.t2 (i64.wrap (p.t9 + 1)) p.b0 (GState.mk r5 p.b1.fOutputs (i64.wrap (p.b1.fTime + p.t2[p.t9.toNat]!.fCost))) (GState.mk [] [] p.b2.fTime))) else none else bif decide (p.t2[p.t9.toNat]!.fDo = 3) then match r181 p.b1.fValues (GTerm.mk p.t2[p.t9.toNat]!.fTerm.fOp p.t2[p.t9.toNat]!.fTerm.fN p.t2[p.t9.toNat]!.fTerm.fKids) with | none => none | some r6 => bif bif decide (r6 = 0) then false else true then match M96 p.b0 p.t1 p.t2[p.t9.toNat]!.fThen (GState.mk p.b1.fValues p.b1.fOutputs (i64.wrap (p.b1.fTime + p.t2[p.t9.toNat]!.fCost))) with | none => none | some r7 => some (some (L96_0.mk p.t1 p.t2 (i64.wrap (p.t9 + 1)) p.b0 r7 (GState.mk [] [] p.b2.fTime))) else match M96 p.b0 p.t1 p.t2[p.t9.toNat]!.fElse (GState.mk p.b1.fValues p.b1.fOutputs (i64.wrap (p.b1.fTime + p.t2[p.t9.toNat]!.fCost))) with | none => none | some r8 => some (some (L96_0.mk p.t1 p.t2 (i64.wrap (p.t9 + 1)) p.b0 r8 (GState.mk [] [] p.b2.fTime))) else bif decide (p.t2[p.t9.toNat]!.fDo = 6) then match m182 p.t2[p.t9.toNat]!.fBounds (i64.wrap (p.b1.fTime + p.t2[p.t9.toNat]!.fCost)) with | none => none | some r9 => some (some (L96_0.mk p.t1 p.t2 (i64.wrap (p.t9 + 1)) p.b0 (GState.mk p.b1.fValues p.b1.fOutputs r9) (GState.mk [] [] p.b2.fTime))) else some (some (L96_0.mk p.t1 p.t2 (i64.wrap (p.t9 + 1)) p.b0 (GState.mk p.b1.fValues p.b1.fOutputs (i64.wrap (p.b1.fTime + p.t2[p.t9.toNat]!.fCost))) (GState.mk [] [] p.b2.fTime))) else none else some (none)
theorem q96_0 (M96 : Flat → (List Int) → (List GStep) → GState → Option E96) (M179 : Flat → (List Int) → GStep → GState → Option E179) (p : L96_0) : execA Tryz.prog (F96 M96 M179) Tryz.f96.ntmps 300 (loopAt Tryz.f96 0) .no (Option L96_0) (d96_0.pat p) (kOn d96_0.rd) = n96_0 M96 M179 p := by kernel_rfl
def a96_0 (M96 : Flat → (List Int) → (List GStep) → GState → Option E96) (M179 : Flat → (List Int) → GStep → GState → Option E179) : L96_0 → Option L96_0 := advG (n96_0 M96 M179)
def an96 (M96 : Flat → (List Int) → (List GStep) → GState → Option E96) (M179 : Flat → (List Int) → GStep → GState → Option E179) : An := (.two .no (.two (.two .no (d96_0.lp (a96_0 M96 M179) .no)) .no))
theorem fa96 (M96 : Flat → (List Int) → (List GStep) → GState → Option E96) (M179 : Flat → (List Int) → GStep → GState → Option E179) : FnAn Tryz.prog (F96 M96 M179) 0 300 96 (an96 M96 M179) := fnAn_of (l := [(loopAt Tryz.f96 0, (d96_0.lp (a96_0 M96 M179) .no))]) Tryz.func96 (bodyOf_eq (by kernel_rfl)) (by kernel_rfl) (ob_cons ⟨d96_0.ok _, advG_ok (q96_0 M96 M179)⟩ ob_nil)
def s96 (M96 : Flat → (List Int) → (List GStep) → GState → Option E96) (M179 : Flat → (List Int) → GStep → GState → Option E179) (a0 : Flat) (a1 : List Int) (a2 : List GStep) (a3 : GState) : Option E96 :=
 match a96_0 M96 M179 (L96_0.mk a1 a2 (0) a0 a3 (GState.mk [] [] (0))) with | none => none | some r10 => bif decide (r10.t9 < (↑r10.t2.length : Int)) then if (0 : Int) ≤ r10.t9 ∧ r10.t9 < (↑r10.t2.length : Int) then bif decide (r10.t2[r10.t9.toNat]!.fDo = 4) then match M179 r10.b0 r10.t1 (GStep.mk r10.t2[r10.t9.toNat]!.fDo r10.t2[r10.t9.toNat]!.fCost r10.t2[r10.t9.toNat]!.fVar r10.t2[r10.t9.toNat]!.fN (GTerm.mk r10.t2[r10.t9.toNat]!.fTerm.fOp r10.t2[r10.t9.toNat]!.fTerm.fN r10.t2[r10.t9.toNat]!.fTerm.fKids) r10.t2[r10.t9.toNat]!.fThen r10.t2[r10.t9.toNat]!.fElse r10.t2[r10.t9.toNat]!.fBounds) r10.b1 with | none => none | some r11 => none else bif decide (r10.t2[r10.t9.toNat]!.fDo = 0) then match r181 r10.b1.fValues (GTerm.mk r10.t2[r10.t9.toNat]!.fTerm.fOp r10.t2[r10.t9.toNat]!.fTerm.fN r10.t2[r10.t9.toNat]!.fTerm.fKids) with | none => none | some r12 => match m180 r10.b0 r10.b1.fValues r10.t2[r10.t9.toNat]!.fVar r12 with | none => none | some r13 => none else bif decide (r10.t2[r10.t9.toNat]!.fDo = 1) then if ([] ++ r10.b1.fOutputs).length ≤ 1073741824 then match r181 r10.b1.fValues (GTerm.mk r10.t2[r10.t9.toNat]!.fTerm.fOp r10.t2[r10.t9.toNat]!.fTerm.fN r10.t2[r10.t9.toNat]!.fTerm.fKids) with | none => none | some r14 => if ([] ++ r10.b1.fOutputs ++ [r14]).length ≤ 1073741824 then none else none else none else bif decide (r10.t2[r10.t9.toNat]!.fDo = 5) then if (0 : Int) ≤ r10.t2[r10.t9.toNat]!.fN ∧ r10.t2[r10.t9.toNat]!.fN < (↑r10.t1.length : Int) then match m180 r10.b0 r10.b1.fValues r10.t2[r10.t9.toNat]!.fVar r10.t1[r10.t2[r10.t9.toNat]!.fN.toNat]! with | none => none | some r15 => none else none else bif decide (r10.t2[r10.t9.toNat]!.fDo = 3) then match r181 r10.b1.fValues (GTerm.mk r10.t2[r10.t9.toNat]!.fTerm.fOp r10.t2[r10.t9.toNat]!.fTerm.fN r10.t2[r10.t9.toNat]!.fTerm.fKids) with | none => none | some r16 => bif bif decide (r16 = 0) then false else true then match M96 r10.b0 r10.t1 r10.t2[r10.t9.toNat]!.fThen (GState.mk r10.b1.fValues r10.b1.fOutputs (i64.wrap (r10.b1.fTime + r10.t2[r10.t9.toNat]!.fCost))) with | none => none | some r17 => none else match M96 r10.b0 r10.t1 r10.t2[r10.t9.toNat]!.fElse (GState.mk r10.b1.fValues r10.b1.fOutputs (i64.wrap (r10.b1.fTime + r10.t2[r10.t9.toNat]!.fCost))) with | none => none | some r18 => none else bif decide (r10.t2[r10.t9.toNat]!.fDo = 6) then match m182 r10.t2[r10.t9.toNat]!.fBounds (i64.wrap (r10.b1.fTime + r10.t2[r10.t9.toNat]!.fCost)) with | none => none | some r19 => none else none else none else some (r10.b1)
theorem c96 (M96 : Flat → (List Int) → (List GStep) → GState → Option E96) (M179 : Flat → (List Int) → GStep → GState → Option E179) (a0 : Flat) (a1 : List Int) (a2 : List GStep) (a3 : GState) : callR Tryz.prog (F96 M96 M179) 300 (an96 M96 M179) 96 (A96.c (a0, a1, a2, a3, ())) [] 0 d96.rd = s96 M96 M179 a0 a1 a2 a3 := by kernel_rfl
def F179 (M96 : Flat → (List Int) → (List GStep) → GState → Option E96) (M179 : Flat → (List Int) → GStep → GState → Option E179) : Orc := (e181 (x96 M96 or0))
theorem F179_ok {M96 M179} (h96 : H96 M96) (h179 : H179 M179) : OrcG Tryz.prog (F179 M96 M179) := (e181_ok (x96_ok h96 or0_g))
structure L179_0 where
 t1 : List Int
 t9 : Int
 b0 : Flat
 b1 : GStep
 b2 : GState
 b3 : GState
def d179_0 : Td 0 L179_0 := .c [] [1, 4, 6, 7, 8, 9] (.r 0 4 (ec 1 (ql 3) (ec 4 (qp 0 0) (ec 6 (qp 1 0) (ec 7 (qp 2 0) (ec 8 (qp 3 0) (ec 9 (qi .i64) en)))))) (sb 0 26 (lg 26) (sb 1 166 (lg 166) (sb 2 56 (lg 56) (sb 3 56 (lc qn (lc qn (lc (qi .i64) ln))) sn)))) (fun z => ⟨z.1.1, z.1.2.2.2.2.2.1, z.2.1, z.2.2.1, z.2.2.2.1, (GState.mk [] [] z.2.2.2.2.1.2.2.1)⟩) (fun x => ((x.t1, (), (), (), (), x.t9, ()), (x.b0, x.b1, x.b2, ((), (), x.b3.fTime, ()), ()))) fun _ => rfl)
def n179_0 (M96 : Flat → (List Int) → (List GStep) → GState → Option E96) (M179 : Flat → (List Int) → GStep → GState → Option E179) (p : L179_0) : Option (Option L179_0) :=
 bif decide (p.t9 < p.b1.fN) then match r181 p.b2.fValues (GTerm.mk p.b1.fTerm.fOp p.b1.fTerm.fN p.b1.fTerm.fKids) with | none => none | some r1 => bif decide (r1 = 0) then some (none) else match M96 p.b0 p.t1 p.b1.fThen (GState.mk p.b2.fValues p.b2.fOutputs (i64.wrap (p.b2.fTime + p.b1.fCost))) with | none => none | some r2 => some (some (L179_0.mk p.t1 (i64.wrap (p.t9 + 1)) p.b0 (GStep.mk p.b1.fDo p.b1.fCost p.b1.fVar p.b1.fN (GTerm.mk p.b1.fTerm.fOp p.b1.fTerm.fN p.b1.fTerm.fKids) p.b1.fThen p.b1.fElse p.b1.fBounds) r2 (GState.mk [] [] p.b3.fTime))) else some (none)
theorem q179_0 (M96 : Flat → (List Int) → (List GStep) → GState → Option E96) (M179 : Flat → (List Int) → GStep → GState → Option E179) (p : L179_0) : execA Tryz.prog (F179 M96 M179) Tryz.f179.ntmps 300 (loopAt Tryz.f179 0) .no (Option L179_0) (d179_0.pat p) (kOn d179_0.rd) = n179_0 M96 M179 p := by kernel_rfl
def a179_0 (M96 : Flat → (List Int) → (List GStep) → GState → Option E96) (M179 : Flat → (List Int) → GStep → GState → Option E179) : L179_0 → Option L179_0 := advG (n179_0 M96 M179)
def an179 (M96 : Flat → (List Int) → (List GStep) → GState → Option E96) (M179 : Flat → (List Int) → GStep → GState → Option E179) : An := (.two .no (.two (.two .no (d179_0.lp (a179_0 M96 M179) .no)) .no))
theorem fa179 (M96 : Flat → (List Int) → (List GStep) → GState → Option E96) (M179 : Flat → (List Int) → GStep → GState → Option E179) : FnAn Tryz.prog (F179 M96 M179) 0 300 179 (an179 M96 M179) := fnAn_of (l := [(loopAt Tryz.f179 0, (d179_0.lp (a179_0 M96 M179) .no))]) Tryz.func179 (bodyOf_eq (by kernel_rfl)) (by kernel_rfl) (ob_cons ⟨d179_0.ok _, advG_ok (q179_0 M96 M179)⟩ ob_nil)
def s179 (M96 : Flat → (List Int) → (List GStep) → GState → Option E96) (M179 : Flat → (List Int) → GStep → GState → Option E179) (a0 : Flat) (a1 : List Int) (a2 : GStep) (a3 : GState) : Option E179 :=
 match a179_0 M96 M179 (L179_0.mk a1 (0) a0 (GStep.mk a2.fDo a2.fCost a2.fVar a2.fN (GTerm.mk a2.fTerm.fOp a2.fTerm.fN a2.fTerm.fKids) a2.fThen a2.fElse a2.fBounds) a3 (GState.mk [] [] (0))) with | none => none | some r3 => bif decide (r3.t9 < r3.b1.fN) then match r181 r3.b2.fValues (GTerm.mk r3.b1.fTerm.fOp r3.b1.fTerm.fN r3.b1.fTerm.fKids) with | none => none | some r4 => bif decide (r4 = 0) then some (GState.mk r3.b2.fValues r3.b2.fOutputs (i64.wrap (r3.b2.fTime + r3.b1.fCost))) else match M96 r3.b0 r3.t1 r3.b1.fThen (GState.mk r3.b2.fValues r3.b2.fOutputs (i64.wrap (r3.b2.fTime + r3.b1.fCost))) with | none => none | some r5 => none else some (r3.b2)
theorem c179 (M96 : Flat → (List Int) → (List GStep) → GState → Option E96) (M179 : Flat → (List Int) → GStep → GState → Option E179) (a0 : Flat) (a1 : List Int) (a2 : GStep) (a3 : GState) : callR Tryz.prog (F179 M96 M179) 300 (an179 M96 M179) 179 (A179.c (a0, a1, a2, a3, ())) [] 0 d179.rd = s179 M96 M179 a0 a1 a2 a3 := by kernel_rfl
def mm96_179 : Nat → (Flat → (List Int) → (List GStep) → GState → Option E96) × (Flat → (List Int) → GStep → GState → Option E179)
 | 0 => (fun _ _ _ _ => none, fun _ _ _ _ => none)
 | n + 1 => (s96 (mm96_179 n).1 (mm96_179 n).2, s179 (mm96_179 n).1 (mm96_179 n).2)
def m96 (n : Nat) : Flat → (List Int) → (List GStep) → GState → Option E96 := (mm96_179 n).1
def m179 (n : Nat) : Flat → (List Int) → GStep → GState → Option E179 := (mm96_179 n).2
theorem mm96_179_ok : ∀ n, H96 (m96 n) ∧ H179 (m179 n)
  | 0 => ⟨fun _ _ h => (by cases h), fun _ _ h => (by cases h)⟩
  | n + 1 => by
    have ih := mm96_179_ok n
    obtain ⟨i96, i179⟩ := ih
    refine ⟨?_, ?_⟩
    · exact (hl_of (F96_ok i96 i179) (fa96 (m96 n) (m179 n)) (fun _ => by kernel_rfl) (fun _ => by kernel_rfl) fun g => c96 (m96 n) (m179 n) g.1 g.2.1 g.2.2.1 g.2.2.2.1)
    · exact (hl_of (F179_ok i96 i179) (fa179 (m96 n) (m179 n)) (fun _ => by kernel_rfl) (fun _ => by kernel_rfl) fun g => c179 (m96 n) (m179 n) g.1 g.2.1 g.2.2.1 g.2.2.2.1)
def r96 : Flat → (List Int) → (List GStep) → GState → Option E96 := fun a0 a1 a2 a3 => lim (fun n => m96 n a0 a1 a2 a3)
theorem r96_ok : H96 r96 := fun g b h => by
 obtain ⟨n, hn⟩ := lim_some (show lim (fun n => m96 n g.1 g.2.1 g.2.2.1 g.2.2.2.1) = some b from h)
 exact (mm96_179_ok n).1 g b hn
def e96 (F : Orc) : Orc := x96 r96 F
theorem e96_ok {F : Orc} (h : OrcG Tryz.prog F) : OrcG Tryz.prog (e96 F) := x96_ok r96_ok h
def F97 : Orc := (e183 (e181 or0))
theorem F97_ok : OrcG Tryz.prog F97 := (e183_ok (e181_ok or0_g))
structure L97_0 where
 t1 : List Int
 t5 : List Int
 t6 : Int
 b0 : Flat
def d97_0 : Td 0 L97_0 := .c [] [1, 2, 5, 6] (.r 0 2 (ec 1 (ql 3) (ec 2 (qp 0 0) (ec 5 (qo 1) (ec 6 (qi .i64) en)))) (sb 0 26 (lg 26) (sr 1 3 sn)) (fun z => ⟨z.1.1, z.2.2.1, z.1.2.2.2.1, z.2.1⟩) (fun x => ((x.t1, (), (), x.t6, ()), (x.b0, x.t5, ()))) fun _ => rfl)
def n97_0 (p : L97_0) : Option (Option L97_0) :=
 bif decide (p.t6 < (↑p.b0.fHatches.length : Int)) then if (0 : Int) ≤ p.t6 ∧ p.t6 < (↑p.b0.fHatches.length : Int) then match r181 p.t1 (GTerm.mk p.b0.fHatches[p.t6.toNat]!.fTerm.fOp p.b0.fHatches[p.t6.toNat]!.fTerm.fN p.b0.fHatches[p.t6.toNat]!.fTerm.fKids) with | none => none | some r1 => if (p.t5 ++ [m183 r1 p.b0.fHatches[p.t6.toNat]!.fLow p.b0.fHatches[p.t6.toNat]!.fHigh]).length ≤ 1073741824 then some (some (L97_0.mk p.t1 (p.t5 ++ [m183 r1 p.b0.fHatches[p.t6.toNat]!.fLow p.b0.fHatches[p.t6.toNat]!.fHigh]) (i64.wrap (p.t6 + 1)) p.b0)) else none else none else some (none)
theorem q97_0 (p : L97_0) : execA Tryz.prog (F97) Tryz.f97.ntmps 300 (loopAt Tryz.f97 0) .no (Option L97_0) (d97_0.pat p) (kOn d97_0.rd) = n97_0 p := by kernel_rfl
def a97_0 : L97_0 → Option L97_0 := advG (n97_0)
abbrev E97 : Type := List Int
def d97 : Td 0 E97 := .c [] [4] (.t (TurnOk.fs 4 []) (.c [] [4] (.r 0 0 (ec 4 (ql 3) en) sn (fun z => z.1.1) (fun x => ((x, ()), (()))) fun _ => rfl)))
def A97 := (lc (qg 26) (lc (ql 3) ln))
def an97 : An := (.two .no (.two .no (.two (.two .no (d97_0.lp a97_0 .no)) .no)))
theorem fa97 : FnAn Tryz.prog (F97) 0 300 97 (an97) := fnAn_of (l := [(loopAt Tryz.f97 0, (d97_0.lp a97_0 .no))]) Tryz.func97 (bodyOf_eq (by kernel_rfl)) (by kernel_rfl) (ob_cons ⟨d97_0.ok _, advG_ok (q97_0)⟩ ob_nil)
def m97 (a0 : Flat) (a1 : List Int) : Option E97 :=
 match a97_0 (L97_0.mk a1 [] (0) a0) with | none => none | some r2 => bif decide (r2.t6 < (↑r2.b0.fHatches.length : Int)) then if (0 : Int) ≤ r2.t6 ∧ r2.t6 < (↑r2.b0.fHatches.length : Int) then match r181 r2.t1 (GTerm.mk r2.b0.fHatches[r2.t6.toNat]!.fTerm.fOp r2.b0.fHatches[r2.t6.toNat]!.fTerm.fN r2.b0.fHatches[r2.t6.toNat]!.fTerm.fKids) with | none => none | some r3 => if (r2.t5 ++ [m183 r3 r2.b0.fHatches[r2.t6.toNat]!.fLow r2.b0.fHatches[r2.t6.toNat]!.fHigh]).length ≤ 1073741824 then none else none else none else some (r2.t5)
theorem c97 (a0 : Flat) (a1 : List Int) : callR Tryz.prog (F97) 300 (an97) 97 (A97.c (a0, a1, ())) [] 0 d97.rd = m97 a0 a1 := by kernel_rfl
def e97 : Orc → Orc := eZ Tryz.prog 97 A97 d97 (fun g => m97 g.1 g.2.1)
theorem e97_ok {F : Orc} (h : OrcG Tryz.prog F) : OrcG Tryz.prog (e97 F) := eZ_ok (hl_of F97_ok fa97 (fun _ => by kernel_rfl) (fun _ => by kernel_rfl) fun g => c97 g.1 g.2.1) ⟨_, Tryz.func97, by kernel_rfl, by kernel_rfl⟩ (fun _ => by kernel_rfl) h
def F28 : Orc := (e97 (e96 (e95 (e78 or0))))
theorem F28_ok : OrcG Tryz.prog F28 := (e97_ok (e96_ok (e95_ok (e78_ok or0_g))))
abbrev E28 : Type := GState × Int
def d28 : Td 0 E28 := .c [] [4, 5] (.r 0 1 (ec 4 (qp 0 0) (ec 5 (qi .i64) en)) (sb 0 56 (lg 56) sn) (fun z => (z.2.1, z.1.2.1)) (fun x => (((), x.2, ()), (x.1, ()))) fun _ => rfl)
def A28 := (lc (qg 26) (lc (qg 52) ln))
def an28 : An := .no
theorem fa28 : FnAn Tryz.prog (F28) 0 300 28 (an28) := fnAn_of (l := []) Tryz.func28 (bodyOf_eq (by kernel_rfl)) (by kernel_rfl) ob_nil
def m28 (a0 : Flat) (a1 : Inputs) : Option E28 :=
 match m78 a0 with | none => none | some r1 => bif bif decide (r1 = 0) then false else true then some ((GState.mk [] [] (0), r1)) else match m95 a0.fVars a1 with | none => none | some r2 => bif bif decide (r2.snd = 0) then false else true then some ((GState.mk [] [] (0), r2.snd)) else match m97 a0 r2.fst with | none => none | some r3 => match r96 a0 r3 a0.fBody (GState.mk r2.fst [] (0)) with | none => none | some r4 => some ((r4, 0))
theorem c28 (a0 : Flat) (a1 : Inputs) : callR Tryz.prog (F28) 300 (an28) 28 (A28.c (a0, a1, ())) [] 0 d28.rd = m28 a0 a1 := by kernel_rfl
def e28 : Orc → Orc := eZ Tryz.prog 28 A28 d28 (fun g => m28 g.1 g.2.1)
theorem e28_ok {F : Orc} (h : OrcG Tryz.prog F) : OrcG Tryz.prog (e28 F) := eZ_ok (hl_of F28_ok fa28 (fun _ => by kernel_rfl) (fun _ => by kernel_rfl) fun g => c28 g.1 g.2.1) ⟨_, Tryz.func28, by kernel_rfl, by kernel_rfl⟩ (fun _ => by kernel_rfl) h
def F29 : Orc := or0
theorem F29_ok : OrcG Tryz.prog F29 := or0_g
abbrev E29 : Type := Observation
def d29 : Td 0 E29 := .c [] [4] (.r 0 1 (ec 4 (qp 0 0) en) (sb 0 47 (lg 47) sn) (fun z => z.2.1) (fun x => (((), ()), (x, ()))) fun _ => rfl)
def A29 := (lc (qg 47) (lc qb ln))
def an29 : An := .no
theorem fa29 : FnAn Tryz.prog (F29) 0 300 29 (an29) := fnAn_of (l := []) Tryz.func29 (bodyOf_eq (by kernel_rfl)) (by kernel_rfl) ob_nil
def m29 (a0 : Observation) (a1 : Bool) : E29 :=
 bif a1 then a0 else Observation.mk a0.fOutputs (0)
theorem c29 (a0 : Observation) (a1 : Bool) : callR Tryz.prog (F29) 300 (an29) 29 (A29.c (a0, a1, ())) [] 0 d29.rd = some (m29 a0 a1) := by
 refine Eq.trans (b := (
  bif a1 then some (a0) else some (Observation.mk a0.fOutputs (0)) : Option E29)) (by kernel_rfl) ?_
 simp only [m29, cond_some, ite_some]
def e29 : Orc → Orc := eZ Tryz.prog 29 A29 d29 (fun g => some (m29 g.1 g.2.1))
theorem e29_ok {F : Orc} (h : OrcG Tryz.prog F) : OrcG Tryz.prog (e29 F) := eZ_ok (hl_of F29_ok fa29 (fun _ => by kernel_rfl) (fun _ => by kernel_rfl) fun g => c29 g.1 g.2.1) ⟨_, Tryz.func29, by kernel_rfl, by kernel_rfl⟩ (fun _ => by kernel_rfl) h
def F98 : Orc := or0
theorem F98_ok : OrcG Tryz.prog F98 := or0_g
structure L98_0 where
 t0 : List Int
 t1 : List Int
 t5 : Int
def d98_0 : Td 0 L98_0 := .c [] [0, 1, 5] (.r 0 0 (ec 0 (ql 3) (ec 1 (ql 3) (ec 5 (qi .i64) en))) sn (fun z => ⟨z.1.1, z.1.2.1, z.1.2.2.1⟩) (fun x => ((x.t0, x.t1, x.t5, ()), (()))) fun _ => rfl)
def n98_0 (p : L98_0) : Option (Option L98_0) :=
 bif decide (p.t5 < (↑p.t0.length : Int)) then if (0 : Int) ≤ p.t5 ∧ p.t5 < (↑p.t0.length : Int) then if (0 : Int) ≤ p.t5 ∧ p.t5 < (↑p.t1.length : Int) then bif bif decide (((p.t0, p.t1, p.t5, ()), ()).fst.fst[((p.t0, p.t1, p.t5, ()), ()).fst.snd.snd.fst.toNat]! = ((p.t0, p.t1, p.t5, ()), ()).fst.snd.fst[((p.t0, p.t1, p.t5, ()), ()).fst.snd.snd.fst.toNat]!) then false else true then some (none) else some (some (L98_0.mk p.t0 p.t1 (i64.wrap (p.t5 + 1)))) else none else none else some (none)
theorem q98_0 (p : L98_0) : execA Tryz.prog (F98) Tryz.f98.ntmps 300 (loopAt Tryz.f98 0) .no (Option L98_0) (d98_0.pat p) (kOn d98_0.rd) = n98_0 p := by kernel_rfl
def a98_0 : L98_0 → Option L98_0 := advG (n98_0)
abbrev E98 : Type := Bool
def d98 : Td 0 E98 := .c [] [4] (.r 0 0 (ec 4 qb en) sn (fun z => z.1.1) (fun x => ((x, ()), (()))) fun _ => rfl)
def A98 := (lc (ql 3) (lc (ql 3) ln))
def an98 : An := (.two .no (.two .no (.two (.two .no (d98_0.lp a98_0 .no)) .no)))
theorem fa98 : FnAn Tryz.prog (F98) 0 300 98 (an98) := fnAn_of (l := [(loopAt Tryz.f98 0, (d98_0.lp a98_0 .no))]) Tryz.func98 (bodyOf_eq (by kernel_rfl)) (by kernel_rfl) (ob_cons ⟨d98_0.ok _, advG_ok (q98_0)⟩ ob_nil)
def m98 (a0 : List Int) (a1 : List Int) : Option E98 :=
 bif bif decide ((↑a0.length : Int) = (↑a1.length : Int)) then false else true then some (false) else match a98_0 (L98_0.mk a0 a1 (0)) with | none => none | some r1 => bif decide (r1.t5 < (↑r1.t0.length : Int)) then if (0 : Int) ≤ r1.t5 ∧ r1.t5 < (↑r1.t0.length : Int) then if (0 : Int) ≤ r1.t5 ∧ r1.t5 < (↑r1.t1.length : Int) then bif bif decide (((r1.t0, r1.t1, r1.t5, ()), ()).fst.fst[((r1.t0, r1.t1, r1.t5, ()), ()).fst.snd.snd.fst.toNat]! = ((r1.t0, r1.t1, r1.t5, ()), ()).fst.snd.fst[((r1.t0, r1.t1, r1.t5, ()), ()).fst.snd.snd.fst.toNat]!) then false else true then some (false) else none else none else none else some (true)
theorem c98 (a0 : List Int) (a1 : List Int) : callR Tryz.prog (F98) 300 (an98) 98 (A98.c (a0, a1, ())) [] 0 d98.rd = m98 a0 a1 := by kernel_rfl
def e98 : Orc → Orc := eL Tryz.prog 98 false A98 d98 (fun g => m98 g.1 g.2.1)
theorem e98_ok {F : Orc} (h : OrcG Tryz.prog F) : OrcG Tryz.prog (e98 F) := eL_ok (sc := scU) scU_ok (hl_of F98_ok fa98 (fun _ => by kernel_rfl) (fun _ => by kernel_rfl) fun g => c98 g.1 g.2.1) ⟨_, Tryz.func98, by kernel_rfl, by kernel_rfl⟩ (fun _ => by kernel_rfl) (fun _ => by kernel_rfl) h
theorem e98_pure {F : Orc} {f : Nat} (h : PureF F f) : PureF (e98 F) f := orL_pure h (fun _ => by kernel_rfl)
def F31 : Orc := (e98 or0)
theorem F31_ok : OrcG Tryz.prog F31 := (e98_ok or0_g)
abbrev E31 : Type := Bool
def d31 : Td 0 E31 := .c [] [4] (.r 0 0 (ec 4 qb en) sn (fun z => z.1.1) (fun x => ((x, ()), (()))) fun _ => rfl)
def A31 := (lc (qg 47) (lc (qg 47) ln))
def an31 : An := (.two .no (.two (.rb [98] 4) .no))
theorem pu31  : ∀ f ∈ ([98] : List Nat), PureF (F31) f := (ob_cons (e98_pure or0_pure) ob_nil)
theorem fa31 : FnAn Tryz.prog (F31) 0 300 31 (an31) := fnAn_of (l := [(.skip, (.rb [98] 4))]) Tryz.func31 (bodyOf_eq (by kernel_rfl)) (by kernel_rfl) (ob_cons pu31 ob_nil)
def m31 (a0 : Observation) (a1 : Observation) : Option E31 :=
 match bif decide (a0.fTime = a1.fTime) then match m98 a0.fOutputs a1.fOutputs with | none => none | some r1 => some (r1) else some (false) with | none => none | some r2 => some (r2)
theorem c31 (a0 : Observation) (a1 : Observation) : callR Tryz.prog (F31) 300 (an31) 31 (A31.c (a0, a1, ())) [] 0 d31.rd = m31 a0 a1 := by kernel_rfl
def e31 : Orc → Orc := eL Tryz.prog 31 false A31 d31 (fun g => m31 g.1 g.2.1)
theorem e31_ok {F : Orc} (h : OrcG Tryz.prog F) : OrcG Tryz.prog (e31 F) := eL_ok (sc := scU) scU_ok (hl_of F31_ok fa31 (fun _ => by kernel_rfl) (fun _ => by kernel_rfl) fun g => c31 g.1 g.2.1) ⟨_, Tryz.func31, by kernel_rfl, by kernel_rfl⟩ (fun _ => by kernel_rfl) (fun _ => by kernel_rfl) h
end Go.Proofs.YtnfljbehcffmcaaGreat
end
noncomputable section
namespace Go.Proofs.YtnfljbehcffmcaaGreat
open Go Go.Iv
def flagI (b : Bool) : Int := if b = true then 1 else 0
def heldI (n lo hi : Int) : Int := if n < lo then lo else if hi < n then hi else n
def divI (a b : Int) : Int := if b = 0 then 0 else if a.tmod b ≠ 0 ∧ decide (a < 0) ≠ decide (b < 0) then a.tdiv b - 1 else a.tdiv b
def modI (a b : Int) : Int := if b = 0 then 0 else a - b * divI a b
def binV (o a b : Int) : Int :=
 if o = 8 then a + b else if o = 9 then a - b else if o = 10 then a * b else if o = 11 then divI a b else if o = 12 then modI a b
 else if o = 13 then flagI (decide (a = b)) else if o = 14 then flagI (decide (a ≠ b)) else if o = 15 then flagI (decide (a < b)) else if o = 16 then flagI (decide (a ≤ b))
 else if o = 17 then flagI (decide (b < a)) else if o = 18 then flagI (decide (b ≤ a)) else if o = 19 then flagI (decide (a ≠ 0 ∧ b ≠ 0)) else if o = 20 then flagI (decide (a ≠ 0 ∨ b ≠ 0))
 else if o = 21 then (if a < b then a else b) else (if b < a then a else b)
def valO (vals : List Int) (t : GTerm) (k : List Int) : Int :=
 if t.fOp = 0 then t.fN else if t.fOp = 24 then vals[t.fN.toNat]! else if t.fOp = 6 then -k[0]! else if t.fOp = 7 then flagI (decide (k[0]! = 0))
 else if t.fOp = 23 then (if k[0]! ≠ 0 then k[1]! else k[2]!) else if t.fOp = 25 then k[(1 + heldI k[0]! 0 ((k.length : Int) - 2)).toNat]! else binV t.fOp k[0]! k[1]!
def valT (vals : List Int) (t : GTerm) : Int := valO vals t (t.fKids.attach.map fun k => valT vals k.1)
termination_by SizeOf.sizeOf t
decreasing_by exact GTerm.kids_lt k.2
theorem valT_eq (vals : List Int) (t : GTerm) : valT vals t = valO vals t (t.fKids.map (valT vals)) := by
 rw [valT]
 rw [show (t.fKids.attach.map fun k => valT vals k.1) = t.fKids.map (valT vals) from List.attach_map_val (f := valT vals)]
theorem tm_cases (a b : Int) (hb : b ≠ 0) : b * a.tdiv b + a.tmod b = a ∧ (a.tmod b).natAbs < b.natAbs ∧ (0 ≤ a → 0 ≤ a.tmod b) ∧ (a ≤ 0 → a.tmod b ≤ 0) := by
  refine ⟨Int.mul_tdiv_add_tmod a b, ?_, fun h => Int.tmod_nonneg b h, fun h => ?_⟩
  · rw [Int.natAbs_tmod]; exact Nat.mod_lt _ (by omega)
  · have := Int.tmod_nonneg b (show 0 ≤ -a by omega)
    rw [Int.neg_tmod] at this
    omega
theorem tdiv_bd (a b : Int) : (a.tdiv b).natAbs ≤ a.natAbs := Int.natAbs_tdiv_le_natAbs a b
theorem tdiv_sign {a b : Int} : (0 ≤ a → 0 ≤ b → 0 ≤ a.tdiv b) := fun h1 h2 => Int.tdiv_nonneg h1 h2
theorem divI_bd (a b : Int) : -(a.natAbs : Int) ≤ divI a b ∧ divI a b ≤ a.natAbs ∧ (0 ≤ a → 0 ≤ b → 0 ≤ divI a b) := by
  unfold divI
  by_cases hb : b = 0
  · rw [if_pos hb]; omega
  rw [if_neg hb]
  obtain ⟨e, h1, h2, h3⟩ := tm_cases a b hb
  have h4 := tdiv_bd a b
  by_cases hc : a.tmod b ≠ 0 ∧ decide (a < 0) ≠ decide (b < 0)
  · rw [if_pos hc]
    obtain ⟨c1, c2⟩ := hc
    have c3 : (a < 0 ∧ 0 < b) ∨ (0 ≤ a ∧ b < 0) := by
      by_cases q1 : a < 0 <;> by_cases q2 : b < 0 <;> simp [q1, q2] at c2 <;> omega
    have h5 : (a.tdiv b).natAbs < a.natAbs := by
      rcases Nat.lt_or_ge (a.tdiv b).natAbs a.natAbs with h | h
      · exact h
      · exfalso
        have e1 : (a.tdiv b).natAbs = a.natAbs := by omega
        have e2 : a.natAbs = b.natAbs * (a.tdiv b).natAbs + (a.tmod b).natAbs := by
          rw [Int.natAbs_tdiv, Int.natAbs_tmod]; exact (Nat.div_add_mod _ _).symm
        rw [e1] at e2
        have : b.natAbs * a.natAbs ≥ 1 * a.natAbs := Nat.mul_le_mul_right _ (by omega)
        omega
    omega
  · rw [if_neg hc]
    refine ⟨by omega, by omega, fun q1 q2 => tdiv_sign q1 q2⟩
theorem modI_bd (a b : Int) : (if b < 0 then b + 1 else 0) ≤ modI a b ∧ modI a b ≤ (if 0 < b then b - 1 else 0) := by
  unfold modI divI
  by_cases hb : b = 0
  · rw [if_pos hb]; simp [hb]
  rw [if_neg hb, if_neg hb]
  obtain ⟨e, h1, h2, h3⟩ := tm_cases a b hb
  by_cases hc : a.tmod b ≠ 0 ∧ decide (a < 0) ≠ decide (b < 0)
  · rw [if_pos hc, Int.mul_sub, Int.mul_one]
    obtain ⟨c1, c2⟩ := hc
    have c3 : (a < 0 ∧ 0 < b) ∨ (0 ≤ a ∧ b < 0) := by
      by_cases q1 : a < 0 <;> by_cases q2 : b < 0 <;> simp [q1, q2] at c2 <;> omega
    split <;> split <;> omega
  · rw [if_neg hc]
    have c3 : a.tmod b = 0 ∨ (a < 0 ∧ b < 0) ∨ (0 ≤ a ∧ 0 ≤ b) := by
      by_cases q0 : a.tmod b = 0
      · exact .inl q0
      · by_cases q1 : a < 0 <;> by_cases q2 : b < 0 <;> simp [q0, q1, q2] at hc <;> omega
    split <;> split <;> omega
theorem mul_le_of {x lo hi y : Int} (h1 : lo ≤ x) (h2 : x ≤ hi) : (lo * y ≤ x * y ∨ hi * y ≤ x * y) ∧ (x * y ≤ lo * y ∨ x * y ≤ hi * y) := by
  rcases Int.le_total 0 y with h | h
  · exact ⟨.inl (Int.mul_le_mul_of_nonneg_right h1 h), .inr (Int.mul_le_mul_of_nonneg_right h2 h)⟩
  · exact ⟨.inr (Int.mul_le_mul_of_nonpos_right h2 h), .inl (Int.mul_le_mul_of_nonpos_right h1 h)⟩
theorem mul_in {x y : Int} {a b : Span} (h1 : a.fLow ≤ x) (h2 : x ≤ a.fHigh) (h3 : b.fLow ≤ y) (h4 : y ≤ b.fHigh) :
  (a.fLow * b.fLow ≤ x * y ∨ a.fLow * b.fHigh ≤ x * y ∨ a.fHigh * b.fLow ≤ x * y ∨ a.fHigh * b.fHigh ≤ x * y) ∧
  (x * y ≤ a.fLow * b.fLow ∨ x * y ≤ a.fLow * b.fHigh ∨ x * y ≤ a.fHigh * b.fLow ∨ x * y ≤ a.fHigh * b.fHigh) := by
 obtain ⟨p1, p2⟩ := mul_le_of (y := y) h1 h2
 obtain ⟨q1, q2⟩ := mul_le_of (y := a.fLow) h3 h4
 obtain ⟨r1, r2⟩ := mul_le_of (y := a.fHigh) h3 h4
 rw [Int.mul_comm b.fLow, Int.mul_comm b.fHigh, Int.mul_comm y] at q1 q2 r1 r2
 omega
theorem foldl_hull_le : ∀ (l : List Span) (a : Span), (l.foldl hull a).fLow ≤ a.fLow ∧ a.fHigh ≤ (l.foldl hull a).fHigh ∧ ∀ s ∈ l, (l.foldl hull a).fLow ≤ s.fLow ∧ s.fHigh ≤ (l.foldl hull a).fHigh
  | [], a => ⟨Int.le_refl _, Int.le_refl _, fun s h => by cases h⟩
  | x :: l, a => by
    obtain ⟨h1, h2, h3⟩ := foldl_hull_le l (hull a x)
    have e1 : (hull a x).fLow ≤ a.fLow ∧ (hull a x).fLow ≤ x.fLow ∧ a.fHigh ≤ (hull a x).fHigh ∧ x.fHigh ≤ (hull a x).fHigh := by unfold hull; grind
    rw [List.foldl_cons]
    refine ⟨by omega, by omega, fun s hs => ?_⟩
    rcases List.mem_cons.1 hs with rfl | hs
    · omega
    · exact h3 s hs
def InV (x : Int) (s : Span) : Prop := s.fLow ≤ x ∧ x ≤ s.fHigh
theorem flag_in (b : Bool) : InV (flagI b) ⟨0, 1⟩ := by cases b <;> exact ⟨by decide, by decide⟩
def KIn (k : List Int) (r : List Span) : Prop := k.length = r.length ∧ ∀ i, i < r.length → InV k[i]! r[i]!
def VIn (vars : List GVar) (vals : List Int) : Prop := vals.length = vars.length ∧ ∀ i, i < vars.length → vars[i]!.fLow ≤ vals[i]! ∧ vals[i]! ≤ vars[i]!.fHigh
theorem valO_in {vars : List GVar} {vals : List Int} (hV : VIn vars vals) {t : GTerm} {r : List Span} (h : KidsOk vars t r) {k : List Int} (hk : KIn k r) : InV (valO vals t k) (ruleS vars t r) := by
  obtain ⟨⟨g1, g2, g3⟩, h24, hI⟩ := h
  obtain ⟨hl, hk⟩ := hk
  have k0 : 1 ≤ r.length → InV k[0]! r[0]! := fun h => hk 0 (by omega)
  have k1 : 2 ≤ r.length → InV k[1]! r[1]! := fun h => hk 1 (by omega)
  have sel : ∀ i, 1 ≤ i → i < r.length → InV k[i]! ((r.drop 2).foldl hull r[1]!) := fun i h1 h2 => by
    obtain ⟨e1, e2, e3⟩ := foldl_hull_le (r.drop 2) r[1]!
    have e4 := hk i h2
    unfold InV at e4 ⊢
    by_cases hi : i = 1
    · subst hi; omega
    · have hm : r[i]! ∈ r.drop 2 := by
        rw [List.mem_iff_getElem]
        refine ⟨i - 2, by rw [List.length_drop]; omega, ?_⟩
        rw [List.getElem_drop, getElem!_pos _ i h2]
        congr 1
        omega
      have := e3 _ hm
      omega
  have kn : kidsN t.fOp = if t.fOp = 0 ∨ t.fOp = 24 then (0, 0) else if t.fOp = 6 ∨ t.fOp = 7 then (1, 1) else if 8 ≤ t.fOp ∧ t.fOp ≤ 22 then (2, 2) else if t.fOp = 23 then (3, 3) else if t.fOp = 25 then (2, 33) else (-1, -1) := rfl
  unfold valO ruleS
  by_cases o0 : t.fOp = 0
  · rw [if_pos o0, if_pos o0]; exact ⟨Int.le_refl _, Int.le_refl _⟩
  rw [if_neg o0, if_neg o0]
  by_cases o24 : t.fOp = 24
  · rw [if_pos o24, if_pos o24]
    obtain ⟨n1, n2⟩ := h24 o24
    exact hV.2 _ (by omega)
  rw [if_neg o24, if_neg o24]
  rw [if_neg (by omega)] at kn
  by_cases o6 : t.fOp = 6
  · rw [if_pos (.inl o6)] at kn
    rw [kn] at g1 g2 g3
    have := k0 (by simp at g2; omega)
    rw [if_pos o6, if_pos o6]
    unfold InV at this ⊢
    dsimp only
    omega
  rw [if_neg o6, if_neg o6]
  by_cases o7 : t.fOp = 7
  · simp only [o7, Int.reduceEq, reduceIte, or_self]
    exact flag_in _
  rw [if_neg o7]
  rw [if_neg (by omega)] at kn
  by_cases o23 : t.fOp = 23
  · rw [if_neg (by omega), if_pos o23] at kn
    rw [kn] at g1 g2 g3
    dsimp only at g2 g3
    simp only [o23, Int.reduceEq, reduceIte, true_or]
    split
    · exact sel 1 (by omega) (by omega)
    · exact sel 2 (by omega) (by omega)
  rw [if_neg o23]
  by_cases o25 : t.fOp = 25
  · rw [if_neg (by omega), if_neg o23, if_pos o25] at kn
    rw [kn] at g1 g2 g3
    dsimp only at g2 g3
    simp only [o25, Int.reduceEq, reduceIte, or_true]
    refine sel _ ?_ ?_ <;> unfold heldI <;> grind
  rw [if_neg o25]
  have h22 : 8 ≤ t.fOp ∧ t.fOp ≤ 22 := by
    by_cases h : 8 ≤ t.fOp ∧ t.fOp ≤ 22
    · exact h
    · rw [if_neg h, if_neg o23, if_neg o25] at kn; rw [kn] at g1; simp at g1
  rw [if_pos h22] at kn
  rw [kn] at g1 g2 g3
  dsimp only at g2 g3
  have a0 := k0 (by omega)
  have a1 := k1 (by omega)
  have i0 := hI _ (get_memL (show 0 < r.length by omega))
  have i1 := hI _ (get_memL (show 1 < r.length by omega))
  unfold InV at a0 a1
  unfold InS at i0 i1
  unfold binV
  by_cases o8 : t.fOp = 8
  · rw [if_pos o8, if_pos o8]; unfold InV; dsimp only; omega
  rw [if_neg o8, if_neg o8]
  by_cases o9 : t.fOp = 9
  · rw [if_pos o9, if_pos o9]; unfold InV; dsimp only; omega
  rw [if_neg o9, if_neg o9]
  by_cases o10 : t.fOp = 10
  · rw [if_pos o10, if_pos o10]
    have hm := mul_in (a := r[0]!) (b := r[1]!) a0.1 a0.2 a1.1 a1.2
    unfold InV hull
    dsimp only
    generalize k[0]! * k[1]! = xy at hm ⊢
    generalize r[0]!.fLow * r[1]!.fLow = p at hm ⊢
    generalize r[0]!.fLow * r[1]!.fHigh = q at hm ⊢
    generalize r[0]!.fHigh * r[1]!.fLow = u at hm ⊢
    generalize r[0]!.fHigh * r[1]!.fHigh = s at hm ⊢
    grind
  rw [if_neg o10, if_neg o10]
  by_cases o11 : t.fOp = 11
  · rw [if_pos o11, if_pos o11]
    obtain ⟨d1, d2, d3⟩ := divI_bd k[0]! k[1]!
    unfold InV
    split
    · rename_i hc
      have := d3 (by omega) (by omega)
      dsimp only
      refine ⟨this, ?_⟩
      split <;> omega
    · dsimp only
      split <;> omega
  rw [if_neg o11, if_neg o11]
  by_cases o12 : t.fOp = 12
  · rw [if_pos o12, if_pos o12]
    obtain ⟨d1, d2⟩ := modI_bd k[0]! k[1]!
    unfold InV
    dsimp only
    constructor
    · refine Int.le_trans ?_ d1
      split <;> split <;> omega
    · refine Int.le_trans d2 ?_
      split <;> split <;> omega
  rw [if_neg o12, if_neg o12]
  by_cases o21 : t.fOp = 21
  · rw [if_pos o21]
    simp only [o21, Int.reduceEq, reduceIte]
    unfold InV
    dsimp only
    constructor <;> split <;> (try split) <;> omega
  by_cases o22 : t.fOp = 22
  · rw [if_neg o21, if_pos o22]
    simp only [o22, Int.reduceEq, reduceIte]
    unfold InV
    dsimp only
    constructor <;> split <;> (try split) <;> omega
  have cs : t.fOp = 13 ∨ t.fOp = 14 ∨ t.fOp = 15 ∨ t.fOp = 16 ∨ t.fOp = 17 ∨ t.fOp = 18 ∨ t.fOp = 19 ∨ t.fOp = 20 := by omega
  rcases cs with o | o | o | o | o | o | o | o <;> simp only [o, Int.reduceEq, reduceIte, or_self] <;> exact flag_in _
theorem valT_in {vars : List GVar} (hv : VarsOk vars) {vals : List Int} (hV : VIn vars vals) {inp : Bool} : ∀ (n : Nat) (t : GTerm), SizeOf.sizeOf t < n → formS vars inp t = true → ∀ s, rngS vars t = some s → InV (valT vals t) s
  | 0, _, h, _, _, _ => by omega
  | n + 1, t, h, hf, s, hs => by
    rw [rngS_eq] at hs
    cases ha : allS (t.fKids.map (rngS vars)) with
    | none => rw [ha] at hs; cases hs
    | some r =>
      rw [ha] at hs
      dsimp only at hs
      have hK := kids_all hv hf ha
      have hr : t.fKids.map (rngS vars) = r.map some := allS_some ha
      have hlen : t.fKids.length = r.length := by have := congrArg List.length hr; simpa using this
      split at hs
      · cases hs
        rw [valT_eq]
        refine valO_in hV hK ⟨by simp [hlen], fun i hi => ?_⟩
        have hm : t.fKids[i]! ∈ t.fKids := get_memL (by omega)
        have e1 : (t.fKids.map (valT vals))[i]! = valT vals t.fKids[i]! := by
          rw [getElem!_pos _ i (by simp; omega), getElem!_pos _ i (by omega), List.getElem_map]
        have e2 : rngS vars t.fKids[i]! = some r[i]! := by
          have := congrArg (fun l => l[i]?) hr
          simp only [List.getElem?_map] at this
          rw [List.getElem?_eq_getElem (show i < t.fKids.length by omega), List.getElem?_eq_getElem hi] at this
          rw [getElem!_pos _ i (by omega), getElem!_pos _ i hi]
          simpa using this
        rw [e1]
        exact valT_in hv hV n _ (by have := GTerm.kids_lt hm; omega) (form_kid hf hm) _ e2
      · cases hs
end Go.Proofs.YtnfljbehcffmcaaGreat
end
noncomputable section
namespace Go.Proofs.YtnfljbehcffmcaaGreat
open Go Go.Iv
open Go.IntKind (i64)
theorem m248_eq (b : Bool) : m248 b = flagI b := by cases b <;> rfl
theorem m183_eq (n lo hi : Int) : m183 n lo hi = heldI n lo hi := by unfold m183 heldI; simp only [Bool.cond_decide]
theorem neB (a b : Bool) : (bif a == b then false else true) = decide (a ≠ b) := by cases a <;> cases b <;> rfl
theorem m193_eq {a b : Int} (h1 : -1099511627776 ≤ a) (h2 : a ≤ 1099511627776) : m193 a b = some (divI a b) := by
  have h3 := tdiv_bd a b
  have w1 : i64.wrap (a.tdiv b) = a.tdiv b := wrap_id (by omega) (by omega)
  have w2 : i64.wrap (a.tdiv b - 1) = a.tdiv b - 1 := wrap_id (by omega) (by omega)
  unfold m193 divI
  by_cases hb : b = 0
  · simp [hb]
  by_cases hm : a.tmod b = 0
  · simp [hb, hm, w1]
  · simp only [hb, hm, w1, w2, decide_false, cond_false, cond_true, not_false_eq_true, if_true, if_false, ne_eq, true_and, neB, not_true]
    by_cases hc : decide (a < 0) = decide (b < 0)
    · simp [hc]
    · simp [hc]
theorem m287_eq {a b : Int} (h1 : -1099511627776 ≤ a) (h2 : a ≤ 1099511627776) (h3 : -1099511627776 ≤ b) (h4 : b ≤ 1099511627776) : m287 a b = some (modI a b) := by
  unfold m287
  rw [m193_eq h1 h2]
  unfold modI
  by_cases hb : b = 0
  · simp [hb]
  obtain ⟨e, q1, q2, q3⟩ := tm_cases a b hb
  have hd : b * divI a b = b * a.tdiv b ∨ b * divI a b = b * a.tdiv b - b := by
    unfold divI
    rw [if_neg hb]
    split
    · right; rw [Int.mul_sub, Int.mul_one]
    · left; rfl
  have w1 : i64.wrap (b * divI a b) = b * divI a b := wrap_id (by omega) (by omega)
  have w2 : i64.wrap (a - b * divI a b) = a - b * divI a b := wrap_id (by omega) (by omega)
  simp only [hb, decide_false, cond_false, if_false, w1, w2]
theorem m249_eq {o a b : Int} (ha : -1048576 ≤ a ∧ a ≤ 1048576) (hb : -1048576 ≤ b ∧ b ≤ 1048576) : m249 o a b = some (binV o a b) := by
 have hm := mul_bd (a := a) (b := b) (by omega) (by omega) (by omega) (by omega)
 have w1 : i64.wrap (a + b) = a + b := wrap_id (by omega) (by omega)
 have w2 : i64.wrap (a - b) = a - b := wrap_id (by omega) (by omega)
 have w3 : i64.wrap (a * b) = a * b := wrap_id (by omega) (by omega)
 unfold m249 binV
 rw [m193_eq (by omega) (by omega), m287_eq (by omega) (by omega) (by omega) (by omega), w1, w2, w3]
 simp only [m248_eq, m175_eq, m174_eq]
 have z : ∀ x : Int, (bif decide (x = 0) then false else true) = decide (x ≠ 0) := fun x => by by_cases h : x = 0 <;> simp [h]
 have z2 : (bif decide (a = b) then false else true) = decide (a ≠ b) := by by_cases h : a = b <;> simp [h]
 rw [z, z, z2]
 have y : (bif decide (a ≠ 0) then some (flagI (decide (b ≠ 0))) else some (flagI false)) = some (flagI (decide (a ≠ 0 ∧ b ≠ 0))) := by by_cases h1 : a = 0 <;> by_cases h2 : b = 0 <;> simp [h1, h2]
 have y2 : (bif decide (a ≠ 0) then some (flagI true) else some (flagI (decide (b ≠ 0)))) = some (flagI (decide (a ≠ 0 ∨ b ≠ 0))) := by by_cases h1 : a = 0 <;> by_cases h2 : b = 0 <;> simp [h1, h2]
 rw [y, y2]
 simp only [Bool.cond_decide, ite_some]
theorem kidV {vars : List GVar} (hv : VarsOk vars) {vals : List Int} (hV : VIn vars vals) {inp : Bool} {t : GTerm} (hf : formS vars inp t = true) (hs : (rngS vars t).isSome = true) :
  ∀ k ∈ t.fKids, (rngS vars k).isSome = true ∧ -1048576 ≤ valT vals k ∧ valT vals k ≤ 1048576 := fun k hk => by
 rw [rngS_eq] at hs
 cases ha : allS (t.fKids.map (rngS vars)) with
 | none => rw [ha] at hs; cases hs
 | some r =>
  have hK := kids_all hv hf ha
  have hr := allS_some ha
  have hm : rngS vars k ∈ r.map some := by rw [← hr]; exact List.mem_map_of_mem hk
  obtain ⟨s, h1, h2⟩ := List.mem_map.1 hm
  have h3 := valT_in hv hV (SizeOf.sizeOf k + 1) k (by omega) (form_kid hf hk) s h2.symm
  have h4 := hK.2.2 s h1
  unfold InV at h3
  unfold InS at h4
  exact ⟨by rw [← h2]; rfl, by omega, by omega⟩
theorem form_kn {vars : List GVar} {inp : Bool} {t : GTerm} (hf : formS vars inp t = true) : (0 ≤ (kidsN t.fOp).1 ∧ (kidsN t.fOp).1 ≤ t.fKids.length ∧ (t.fKids.length : Int) ≤ (kidsN t.fOp).2) ∧ (t.fOp = 24 → 0 ≤ t.fN ∧ t.fN < vars.length) := by
 rw [formS_eq] at hf
 have h := (Bool.and_eq_true _ _ ▸ hf).1
 unfold form0 at h
 rw [Bool.and_eq_true, decide_eq_true_iff] at h
 refine ⟨h.1, fun h24 => ?_⟩
 have h2 := h.2
 simp only [h24, Int.reduceEq, reduceIte, Bool.and_eq_true, decide_eq_true_eq] at h2
 exact h2.1
theorem kn_cases (o : Int) (h : 0 ≤ (kidsN o).1) : ((o = 0 ∨ o = 24) ∧ kidsN o = (0, 0)) ∨ ((o = 6 ∨ o = 7) ∧ kidsN o = (1, 1)) ∨ ((8 ≤ o ∧ o ≤ 22) ∧ kidsN o = (2, 2)) ∨ (o = 23 ∧ kidsN o = (3, 3)) ∨ (o = 25 ∧ kidsN o = (2, 33)) := by
  unfold kidsN at h ⊢
  split
  · exact .inl ⟨‹_›, rfl⟩
  rename_i h1
  rw [if_neg h1] at h
  split
  · exact .inr (.inl ⟨‹_›, rfl⟩)
  rename_i h2
  rw [if_neg h2] at h
  split
  · exact .inr (.inr (.inl ⟨‹_›, rfl⟩))
  rename_i h3
  rw [if_neg h3] at h
  split
  · exact .inr (.inr (.inr (.inl ⟨‹_›, rfl⟩)))
  rename_i h4
  rw [if_neg h4] at h
  split
  · exact .inr (.inr (.inr (.inr ⟨‹_›, rfl⟩)))
  · rename_i h5
    rw [if_neg h5] at h
    simp at h
theorem mapV {vals : List Int} {t : GTerm} {i : Nat} (h : i < t.fKids.length) : (t.fKids.map (valT vals))[i]! = valT vals t.fKids[i]! := by
 rw [getElem!_pos _ i (by simpa using h), getElem!_pos _ i h, List.getElem_map]
theorem s181_eq (M : List Int → GTerm → Option E181) {vars : List GVar} (hv : VarsOk vars) {vals : List Int} (hV : VIn vars vals) {inp : Bool} (t : GTerm) (hf : formS vars inp t = true) (hs : (rngS vars t).isSome = true)
    (hM : ∀ k ∈ t.fKids, M vals k = some (valT vals k)) : s181 M vals t = some (valT vals t) := by
  obtain ⟨⟨g1, g2, g3⟩, h24⟩ := form_kn hf
  have hkv := kidV hv hV hf hs
  have K : ∀ i, i < t.fKids.length → M vals t.fKids[i]! = some (valT vals t.fKids[i]!) ∧ -1048576 ≤ valT vals t.fKids[i]! ∧ valT vals t.fKids[i]! ≤ 1048576 := fun i hi => ⟨hM _ (get_memL hi), (hkv _ (get_memL hi)).2⟩
  rw [valT_eq]
  unfold s181 valO
  simp only [GTerm.eta, List.length_map]
  rcases kn_cases t.fOp g1 with ⟨h, e⟩ | ⟨h, e⟩ | ⟨h, e⟩ | ⟨h, e⟩ | ⟨h, e⟩ <;> rw [e] at g2 g3 <;> dsimp only at g2 g3
  · rcases h with h | h
    · simp [h]
    · have := h24 h
      have hl := hV.1
      simp [h]
      omega
  · obtain ⟨k1, k2, k3⟩ := K 0 (by omega)
    have m0 := mapV (vals := vals) (show 0 < t.fKids.length by omega)
    have w : i64.wrap ((0 : Int) - valT vals t.fKids[0]!) = -valT vals t.fKids[0]! := by rw [wrap_id (by omega) (by omega)]; omega
    have i0 : (0 : Int) ≤ 0 ∧ (0 : Int) < (t.fKids.length : Int) := by omega
    rcases h with h | h
    · simp only [Z0, h, Int.reduceEq, decide_false, decide_true, cond_true, cond_false, i0, if_true, k1, w, m0, reduceIte, and_self]
    · simp only [h, Int.reduceEq, decide_false, decide_true, cond_true, cond_false, i0, if_true, k1, m0, reduceIte, and_self, m248_eq]
  · obtain ⟨k1, k2, k3⟩ := K 0 (by omega)
    obtain ⟨l1, l2, l3⟩ := K 1 (by omega)
    have m0 := mapV (vals := vals) (show 0 < t.fKids.length by omega)
    have m1 := mapV (vals := vals) (show 1 < t.fKids.length by omega)
    have i0 : (0 : Int) ≤ 0 ∧ (0 : Int) < (t.fKids.length : Int) := by omega
    have i1 : (0 : Int) ≤ 1 ∧ (1 : Int) < (t.fKids.length : Int) := by omega
    have hb := m249_eq (o := t.fOp) ⟨k2, k3⟩ ⟨l2, l3⟩
    have n0 : t.fOp ≠ 0 := by omega
    have n1 : t.fOp ≠ 24 := by omega
    have n2 : t.fOp ≠ 6 := by omega
    have n3 : t.fOp ≠ 7 := by omega
    have n4 : t.fOp ≠ 23 := by omega
    have n5 : t.fOp ≠ 25 := by omega
    simp only [n0, n1, n2, n3, n4, n5, decide_false, cond_false, i0, i1, if_true, if_false, k1, l1, hb, m0, m1, and_self]
  · obtain ⟨k1, k2, k3⟩ := K 0 (by omega)
    obtain ⟨l1, l2, l3⟩ := K 1 (by omega)
    obtain ⟨p1, p2, p3⟩ := K 2 (by omega)
    have m0 := mapV (vals := vals) (show 0 < t.fKids.length by omega)
    have m1 := mapV (vals := vals) (show 1 < t.fKids.length by omega)
    have m2 := mapV (vals := vals) (show 2 < t.fKids.length by omega)
    have i0 : (0 : Int) ≤ 0 ∧ (0 : Int) < (t.fKids.length : Int) := by omega
    have i1 : (0 : Int) ≤ 1 ∧ (1 : Int) < (t.fKids.length : Int) := by omega
    have i2 : (0 : Int) ≤ 2 ∧ (2 : Int) < (t.fKids.length : Int) := by omega
    simp only [h, Int.reduceEq, decide_false, decide_true, cond_true, cond_false, i0, i1, i2, if_true, k1, l1, p1, m0, m1, m2, reduceIte, and_self]
    by_cases hz : valT vals t.fKids[0]! = 0
    · simp only [hz, decide_true, cond_true, cond_false, if_false, ne_eq, not_true]
    · simp only [hz, decide_false, cond_true, cond_false, if_true, ne_eq, not_false_eq_true]
  · obtain ⟨k1, k2, k3⟩ := K 0 (by omega)
    have m0 := mapV (vals := vals) (show 0 < t.fKids.length by omega)
    have i0 : (0 : Int) ≤ 0 ∧ (0 : Int) < (t.fKids.length : Int) := by omega
    have w : i64.wrap ((t.fKids.length : Int) - (2 : Int)) = (t.fKids.length : Int) - (2 : Int) := wrap_id (by omega) (by omega)
    have hh : 0 ≤ heldI (valT vals t.fKids[0]!) 0 ((t.fKids.length : Int) - (2 : Int)) ∧ heldI (valT vals t.fKids[0]!) 0 ((t.fKids.length : Int) - (2 : Int)) ≤ (t.fKids.length : Int) - (2 : Int) := by unfold heldI; grind
    have w2 : i64.wrap ((1 : Int) + heldI (valT vals t.fKids[0]!) 0 ((t.fKids.length : Int) - (2 : Int))) = (1 : Int) + heldI (valT vals t.fKids[0]!) 0 ((t.fKids.length : Int) - (2 : Int)) := wrap_id (by omega) (by omega)
    simp only [h, Int.reduceEq, decide_false, decide_true, cond_true, cond_false, i0, if_true, k1, m0, reduceIte, and_self, m183_eq, w, w2]
    generalize heldI (valT vals t.fKids[0]!) 0 ((t.fKids.length : Int) - (2 : Int)) = H at hh
    obtain ⟨q1, _, _⟩ := K (1 + H).toNat (by omega)
    rw [if_pos (by omega), mapV (by omega)]
    simp only [q1]
    rfl
theorem m181_eq {vars : List GVar} (hv : VarsOk vars) {vals : List Int} (hV : VIn vars vals) (inp : Bool) : ∀ (n : Nat) (t : GTerm), SizeOf.sizeOf t < n → formS vars inp t = true → (rngS vars t).isSome = true → m181 n vals t = some (valT vals t)
 | 0, _, h, _, _ => by omega
 | n + 1, t, h, hf, hs => s181_eq (m181 n) hv hV t hf hs (fun k hk => m181_eq hv hV inp n k (by have := GTerm.kids_lt hk; omega) (form_kid hf hk) (kidV hv hV hf hs k hk).1)
theorem r181_eq {vars : List GVar} (hv : VarsOk vars) {vals : List Int} (hV : VIn vars vals) (inp : Bool) (t : GTerm) (hc : termC vars inp t = 0) : r181 vals t = some (valT vals t) ∧ -1048576 ≤ valT vals t ∧ valT vals t ≤ 1048576 := by
  unfold termC at hc
  cases hf : formS vars inp t with
  | false => rw [hf] at hc; simp at hc
  | true =>
    rw [hf] at hc
    cases hs : (rngS vars t).isSome with
    | false => rw [hs] at hc; simp at hc
    | true =>
      refine ⟨lim_eq (SizeOf.sizeOf t + 1) fun n hn => m181_eq hv hV inp n t (by omega) hf hs, ?_⟩
      obtain ⟨s, e⟩ := Option.isSome_iff_exists.1 hs
      have h3 := valT_in hv hV (SizeOf.sizeOf t + 1) t (by omega) hf s e
      have h4 : limS s = true := by
        rw [rngS_eq] at e
        cases ha : allS (t.fKids.map (rngS vars)) with
        | none => rw [ha] at e; cases e
        | some r =>
          rw [ha] at e
          dsimp only at e
          split at e
          · cases e; assumption
          · cases e
      unfold limS at h4
      unfold InV at h3
      simp at h4
      omega
theorem Hatch.eta (h : Hatch) : Hatch.mk h.fName h.fLow h.fHigh h.fTerm = h := by cases h; rfl
theorem m266_eq (l : List Hatch) (hl : l.length ≤ 1000000) (v : Hatch) : m266 l v = some (l.any fun w => w.fName.toList == v.fName.toList) := by
  obtain ⟨i, e1, hc⟩ := loopB (rnd := n305_0) l (fun i => ⟨l, v.fName, v.fLow, v.fHigh, v.fTerm.fOp, v.fTerm.fN, v.fTerm.fKids, (l.length : Int), (i : Int)⟩) (fun _ w => !(w.fName.toList == v.fName.toList)) (fun i hi => by
    have hw := w1L hi hl
    unfold n305_0 m265
    dsimp only
    simp only [Bool.cond_decide, Int.toNat_natCast]
    grind) (by unfold n305_0; simp)
  have e1' : a305_0 ⟨l, v.fName, v.fLow, v.fHigh, v.fTerm.fOp, v.fTerm.fN, v.fTerm.fKids, (l.length : Int), 0⟩ = some ⟨l, v.fName, v.fLow, v.fHigh, v.fTerm.fOp, v.fTerm.fN, v.fTerm.fKids, (l.length : Int), (i : Int)⟩ := e1
  unfold m266 m305
  rw [e1']
  dsimp only
  rcases hc with ⟨rfl, hc⟩ | ⟨hi, hc⟩
  · rw [not_any fun j hj => by have := hc j hj; simpa using this]
    simp
  · have hc' : (l[i]!.fName.toList == v.fName.toList) = true := by simpa using hc
    rw [is_any hi hc']
    unfold m265
    simp only [Int.toNat_natCast, hc', cond_true]
    simp [hi]
theorem a78_1_eq (f : Flat) (hl : f.fHatches.length ≤ 1000000) (n : Nat) (hn : n ≤ f.fHatches.length) (v : Hatch) :
    ∃ i : Nat, a78_1 ⟨n, 0, f, v⟩ = some ⟨n, (i : Int), f, v⟩ ∧ ((i = n ∧ ((f.fHatches.take n).any fun w => w.fName.toList == v.fName.toList) = false) ∨ (i < n ∧ (f.fHatches[i]!.fName.toList == v.fName.toList) = true ∧ ((f.fHatches.take n).any fun w => w.fName.toList == v.fName.toList) = true)) := by
  have hlen : (f.fHatches.take n).length = n := by rw [List.length_take]; omega
  have hget : ∀ i, i < n → (f.fHatches.take n)[i]! = f.fHatches[i]! := fun i hi => by
    rw [getElem!_pos _ i (by omega), getElem!_pos _ i (by omega), List.getElem_take]
  obtain ⟨i, e1, hc⟩ := loopB (rnd := n78_1) (f.fHatches.take n) (fun i => ⟨(n : Int), (i : Int), f, v⟩) (fun _ w => !(w.fName.toList == v.fName.toList)) (fun i hi => by
    rw [hlen] at hi
    have hw := w1L hi (by omega)
    rw [hget i hi]
    unfold n78_1
    dsimp only
    simp only [Bool.cond_decide, Int.toNat_natCast, GTerm.eta, Hatch.eta]
    grind) (by rw [hlen]; unfold n78_1; simp)
  refine ⟨i, e1, ?_⟩
  rw [hlen] at hc
  rcases hc with ⟨rfl, hc⟩ | ⟨hi, hc⟩
  · exact .inl ⟨rfl, not_any fun j hj => by have := hc j (by omega); simpa using this⟩
  · have hc' : ((f.fHatches.take n)[i]!.fName.toList == v.fName.toList) = true := by simpa using hc
    exact .inr ⟨hi, by rw [← hget i hi]; exact hc', is_any (by omega) hc'⟩
theorem m311_eq (t : GTerm) : m311 t = zeroT t := by
 unfold m311 zeroT
 simp only [Bool.cond_decide]
 grind
theorem m272_eq (t : GTerm) : m272 t = zeroT t := by
 unfold m272 zeroT
 simp only [Bool.cond_decide]
 grind
theorem riseB_get : ∀ (l : List Int), riseB l = true ↔ ∀ i, i + 1 < l.length → l[i]! < l[i + 1]!
  | [] => by simp [riseB]
  | [a] => by simp [riseB]
  | a :: b :: l => by
    unfold riseB
    rw [Bool.and_eq_true, riseB_get (b :: l), decide_eq_true_iff]
    constructor
    · rintro ⟨h1, h2⟩ i hi
      cases i with
      | zero => exact h1
      | succ i => exact h2 i (by simpa using hi)
    · intro h
      exact ⟨h 0 (by simp), fun i hi => h (i + 1) (by simpa using hi)⟩
theorem m312_eq (l : List Int) (hl : l.length ≤ 1000000) : m312 l = some (riseB l) := by
  obtain ⟨i, e1, hc⟩ := loopB (rnd := n312_0) l (fun i => ⟨l, (l.length : Int), (i : Int)⟩) (fun i x => decide (i = 0) || decide (l[i - 1]! < x)) (fun i hi => by
    have hw := w1L hi hl
    have hw2 : i64.wrap ((i : Int) - 1) = (i : Int) - 1 := wrap_id (by omega) (by omega)
    have hw3 : ((i : Int) - 1).toNat = i - 1 := by omega
    unfold n312_0
    dsimp only
    simp only [Bool.cond_decide, Int.toNat_natCast, hw, hw2, hw3]
    generalize l[i]! = y
    generalize l[i - 1]! = z
    grind) (by unfold n312_0; simp)
  have e1' : a312_0 ⟨l, (l.length : Int), 0⟩ = some ⟨l, (l.length : Int), (i : Int)⟩ := e1
  unfold m312
  rw [e1']
  dsimp only
  rcases hc with ⟨rfl, hc⟩ | ⟨hi, hc⟩
  · have : riseB l = true := (riseB_get l).2 fun i hi => by
      have := hc (i + 1) hi
      simpa using this
    rw [this]
    simp
  · have hc' : i ≠ 0 ∧ ¬ l[i - 1]! < l[i]! := by
      simp only [Bool.or_eq_false_iff, decide_eq_false_iff_not] at hc
      exact hc
    have : riseB l = false := by
      cases hr : riseB l with
      | false => rfl
      | true =>
        have := (riseB_get l).1 hr (i - 1) (by omega)
        rw [show i - 1 + 1 = i by omega] at this
        exact absurd this hc'.2
    rw [this]
    have hw2 : i64.wrap ((i : Int) - 1) = (i : Int) - 1 := wrap_id (by omega) (by omega)
    have hw3 : ((i : Int) - 1).toNat = i - 1 := by omega
    simp only [Bool.cond_decide, Int.toNat_natCast, hw2, hw3]
    revert hc'
    generalize l[i]! = y
    generalize l[i - 1]! = z
    intro hc'
    grind
theorem m273_eq (l : List Int) (hl : l.length ≤ 1000000) : m273 l = some (decide (1 ≤ l.length ∧ l.length ≤ 32) && decide ((0 : Int) ≤ l[0]!) && riseB l) := by
  unfold m273
  by_cases h1 : 1 ≤ l.length ∧ l.length ≤ 32
  case neg =>
    rw [decide_eq_false h1]
    simp only [Bool.cond_decide]
    grind
  rw [decide_eq_true h1, decide_eq_false (show ¬ (l.length : Int) < 1 by omega), decide_eq_false (show ¬ 32 < (l.length : Int) by omega), if_pos (⟨Int.le_refl _, by omega⟩ : (0 : Int) ≤ 0 ∧ (0 : Int) < (l.length : Int))]
  have hz : l[Int.toNat 0]! = l[0]! := rfl
  rw [hz]
  by_cases h0 : (0 : Int) ≤ l[0]!
  case neg =>
    rw [decide_eq_false h0, decide_eq_true (show l[0]! < 0 by omega)]
    rfl
  rw [decide_eq_true h0, decide_eq_false (show ¬ l[0]! < 0 by omega)]
  dsimp only [cond_false]
  have hlen : (l.drop 1).length = l.length - 1 := List.length_drop ..
  have hget : ∀ i, i < l.length - 1 → (l.drop 1)[i]! = l[i + 1]! := fun i hi => by
    rw [getElem!_pos _ i (by omega), getElem!_pos _ (i + 1) (by omega), List.getElem_drop]
    congr 1
    omega
  obtain ⟨i, e1, hc⟩ := loopB (rnd := n273_0) (l.drop 1) (fun i => ⟨l, ((i + 1 : Nat) : Int)⟩) (fun i x => decide (l[i]! < x)) (fun i hi => by
    rw [hlen] at hi
    have hw := w1L (show i + 1 < l.length by omega) hl
    have hw2 : i64.wrap (((i + 1 : Nat) : Int) - 1) = (i : Int) := by rw [wrap_id (by omega) (by omega)]; omega
    rw [hget i hi]
    unfold n273_0
    dsimp only
    simp only [Bool.cond_decide, Int.toNat_natCast, hw, hw2]
    generalize l[i + 1]! = y
    generalize l[i]! = z
    grind) (by
      rw [hlen]
      unfold n273_0
      simp only [Bool.cond_decide]
      rw [if_neg (by omega)])
  have e1' : a273_0 ⟨l, 1⟩ = some ⟨l, ((i + 1 : Nat) : Int)⟩ := e1
  rw [e1']
  dsimp only
  rw [hlen] at hc
  rcases hc with ⟨rfl, hc⟩ | ⟨hi, hc⟩
  · have : riseB l = true := (riseB_get l).2 fun i hi => by
      have := hc i (by omega)
      rw [hget i (by omega)] at this
      simpa using this
    rw [this, decide_eq_false (show ¬ (((l.length - 1 + 1 : Nat) : Int) < (l.length : Int)) by omega)]
    rfl
  · rw [hget i hi] at hc
    have hc' : ¬ l[i]! < l[i + 1]! := by simpa using hc
    have : riseB l = false := by
      cases hr : riseB l with
      | false => rfl
      | true => exact absurd ((riseB_get l).1 hr i (by omega)) hc'
    rw [this]
    have hw2 : i64.wrap (((i + 1 : Nat) : Int) - 1) = (i : Int) := by rw [wrap_id (by omega) (by omega)]; omega
    simp only [Bool.cond_decide, Int.toNat_natCast, hw2]
    revert hc'
    generalize l[i + 1]! = y
    generalize l[i]! = z
    intro hc'
    grind
theorem and_ite (a b : Bool) : (a && b) = if a = true then b else false := by cases a <;> rfl
theorem m268_eq (f : Flat) (s : GStep) (last : Bool) : m268 f s last = some (shapeB f s last) := by
 have h199 : s.fBounds.length ≤ 32 → m312 s.fBounds = some (riseB s.fBounds) := fun h => m312_eq _ (by omega)
 have hz : s.fBounds[Int.toNat 0]! = s.fBounds[0]! := rfl
 unfold m268 m308 m309 m310
 rw [GTerm.eta, m311_eq, hz]
 obtain ⟨X, hX⟩ : ∃ X, X = shapeB f s last := ⟨_, rfl⟩
 rw [← hX]
 have hX1 : X = true ↔ shapeB f s last = true := by rw [hX]
 clear hX
 unfold shapeB localB at hX1
 generalize riseB s.fBounds = R at *
 generalize zeroT s.fTerm = Z at *
 generalize f.fVars[s.fVar.toNat]!.fKind = K at *
 generalize s.fBounds[0]! = B0 at *
 generalize m312 s.fBounds = M at *
 have cs : s.fDo = 0 ∨ s.fDo = 1 ∨ s.fDo = 2 ∨ s.fDo = 3 ∨ s.fDo = 4 ∨ s.fDo = 5 ∨ s.fDo = 6 ∨ s.fDo < 0 ∨ 6 < s.fDo := by omega
 rcases cs with h | h | h | h | h | h | h | h | h
 case inr.inr.inr.inr.inr.inr.inr.inl => rw [decide_eq_true h]; dsimp only [cond_true]; cases X <;> grind
 case inr.inr.inr.inr.inr.inr.inr.inr => rw [decide_eq_true h, decide_eq_false (by omega)]; dsimp only [cond_true, cond_false]; cases X <;> grind
 all_goals
  rw [h] at hX1 ⊢
  cases X <;> cases Z <;> simp only [Int.reduceEq, Int.reduceLT, decide_true, decide_false, cond_true, cond_false, if_true, if_false, Bool.cond_decide, reduceIte, Bool.and_eq_true, decide_eq_true_eq, Bool.false_eq_true, true_iff, false_iff, not_and, and_true, and_false] at hX1 ⊢ <;> grind (splits := 40)
theorem bif_some (a b : Bool) : (bif a then some b else some false) = some (a && b) := by cases a <;> rfl
theorem m223_eq (f : Flat) (s : GStep) (last : Bool) (hb : s.fBounds.length ≤ 1000000) : m223 f s last = some (shapeB f s last) := by
 have h173 := m273_eq s.fBounds hb
 have e1 : (bif decide ((s.fThen.length : Int) = 0) then some (decide ((s.fElse.length : Int) = 0)) else some false) = some (decide (s.fThen.length = 0 ∧ s.fElse.length = 0)) := by
  have c1 : ((s.fThen.length : Int) = 0) ↔ s.fThen.length = 0 := by omega
  have c2 : ((s.fElse.length : Int) = 0) ↔ s.fElse.length = 0 := by omega
  simp only [c1, c2]
  by_cases a1 : s.fThen.length = 0 <;> by_cases a2 : s.fElse.length = 0 <;> simp [a1, a2]
 have e2 : (bif decide (0 ≤ s.fVar) then bif decide (s.fVar < (f.fVars.length : Int)) then if (0 : Int) ≤ s.fVar ∧ s.fVar < (f.fVars.length : Int) then some (decide (f.fVars[s.fVar.toNat]!.fKind = 0)) else none else some false else some false) = some (localB f s) := by
  unfold localB
  simp only [Bool.cond_decide]
  generalize f.fVars[s.fVar.toNat]!.fKind = K
  by_cases a1 : 0 ≤ s.fVar <;> by_cases a2 : s.fVar < (f.fVars.length : Int) <;> simp [a1, a2]
 unfold m223
 rw [GTerm.eta, m272_eq, h173, e1, e2]
 dsimp only
 unfold shapeB
 generalize riseB s.fBounds = R
 generalize zeroT s.fTerm = Z
 generalize localB f s = L1
 generalize decide (s.fThen.length = 0 ∧ s.fElse.length = 0) = F
 generalize s.fBounds[0]! = B0
 have hi : ((s.fBounds.length : Int) = 0) ↔ s.fBounds.length = 0 := by omega
 have hi2 : ((s.fElse.length : Int) = 0) ↔ s.fElse.length = 0 := by omega
 simp only [hi, hi2]
 have cs : s.fDo = 0 ∨ s.fDo = 1 ∨ s.fDo = 2 ∨ s.fDo = 3 ∨ s.fDo = 4 ∨ s.fDo = 5 ∨ s.fDo = 6 ∨ (s.fDo ≠ 0 ∧ s.fDo ≠ 1 ∧ s.fDo ≠ 2 ∧ s.fDo ≠ 3 ∧ s.fDo ≠ 4 ∧ s.fDo ≠ 5 ∧ s.fDo ≠ 6) := by omega
 rcases cs with h | h | h | h | h | h | h | ⟨h0, h1, h2, h3, h4, h5, h6⟩
 case inr.inr.inr.inr.inr.inr.inr => simp only [h0, h1, h2, h3, h4, h5, h6, decide_false, cond_false, if_false]
 all_goals
  rw [h]
  simp only [Int.reduceEq, decide_true, decide_false, cond_true, cond_false, if_true, if_false, reduceIte]
  generalize decide (s.fBounds.length = 0) = b1
  generalize decide (s.fVar = 0) = b2
  generalize decide (s.fElse.length = 0) = b3
  generalize decide (1 ≤ s.fBounds.length ∧ s.fBounds.length ≤ 32) = b4
  generalize decide ((0 : Int) ≤ B0) = b5
  try rw [Bool.decide_and]
  generalize decide (s.fN = 0) = b6
  try generalize decide (0 ≤ s.fN) = b7
  try generalize decide (s.fN < (f.fHatches.length : Int)) = b8
  simp only [bif_some]
  first | done | (congr 1; ac_rfl)
theorem m269_eq (s : GStep) (hb : s.fDo = 6 → 1 ≤ s.fBounds.length ∧ s.fBounds.length ≤ 32) : m269 s = some (numB s) := by
  unfold m269 numB
  by_cases h6 : s.fDo = 6
  · obtain ⟨b1, b2⟩ := hb h6
    have hw : i64.wrap ((s.fBounds.length : Int) - 1) = (s.fBounds.length : Int) - 1 := wrap_id (by omega) (by omega)
    have hw2 : ((s.fBounds.length : Int) - 1).toNat = s.fBounds.length - 1 := by omega
    rw [hw, hw2, h6]
    generalize s.fBounds[s.fBounds.length - 1]! = B
    simp only [Int.reduceEq, Int.reduceLT, decide_true, decide_false, cond_true, cond_false, if_true, if_false, Bool.cond_decide, reduceIte, and_ite, decide_eq_true_eq, Bool.false_eq_true]
    grind (splits := 30)
  · rw [decide_eq_false h6, if_neg h6]
    by_cases h2 : s.fDo = 2
    · rw [h2]
      simp only [Int.reduceEq, Int.reduceLT, decide_true, decide_false, cond_true, cond_false, if_true, if_false, Bool.cond_decide, reduceIte, and_ite, decide_eq_true_eq, Bool.false_eq_true]
      grind (splits := 30)
    · rw [decide_eq_false h2, if_neg h2]
      simp only [Int.reduceEq, Int.reduceLT, decide_true, decide_false, cond_true, cond_false, if_true, if_false, Bool.cond_decide, reduceIte, and_ite, decide_eq_true_eq, Bool.false_eq_true]
      grind (splits := 30)
theorem shape_bounds {f : Flat} {s : GStep} {last : Bool} (h : shapeB f s last = true) : (s.fDo = 6 → 1 ≤ s.fBounds.length ∧ s.fBounds.length ≤ 32) ∧ (s.fDo ≠ 6 → s.fBounds.length = 0) ∧ (s.fDo ≠ 3 → s.fDo ≠ 4 → s.fThen = []) ∧ (s.fDo ≠ 3 → s.fElse = []) ∧ (s.fDo ≠ 4 → 0 ≤ s.fN) := by
 unfold shapeB at h
 simp only [and_ite, decide_eq_true_eq] at h
 have e1 : s.fThen.length = 0 → s.fThen = [] := List.length_eq_zero_iff.1
 have e2 : s.fElse.length = 0 → s.fElse = [] := List.length_eq_zero_iff.1
 refine ⟨fun h6 => ?_, fun h6 => ?_, fun h3 h4 => e1 ?_, fun h3 => e2 ?_, fun h4 => ?_⟩ <;> grind (splits := 40)
theorem a212_1_eq (M : Flat → List GStep → Bool → Option E212) (f : Flat) (l A B : List GStep) (top : Bool) (n i a b : Int) (ha : M f A false = some a) (hb : M f B false = some b) :
    a212_1 M ⟨l, top, l, n, i, [A, B], 2, 0, f⟩ = some ⟨l, top, l, n, i, [A, B], 2, if a ≠ 0 then 0 else if b ≠ 0 then 1 else 2, f⟩ := by
  have w0 : i64.wrap 1 = 1 := rfl
  have w1 : i64.wrap 2 = 2 := rfl
  have r1 : n212_1 M ⟨l, top, l, n, i, [A, B], 2, 0, f⟩ = if a ≠ 0 then some none else some (some ⟨l, top, l, n, i, [A, B], 2, 1, f⟩) := by
    unfold n212_1
    by_cases h : a = 0 <;> simp [ha, h, w0]
  have r2 : n212_1 M ⟨l, top, l, n, i, [A, B], 2, 1, f⟩ = if b ≠ 0 then some none else some (some ⟨l, top, l, n, i, [A, B], 2, 2, f⟩) := by
    unfold n212_1
    by_cases h : b = 0 <;> simp [hb, h, w1]
  have r3 : n212_1 M ⟨l, top, l, n, i, [A, B], 2, 2, f⟩ = some none := by
    unfold n212_1
    simp
  unfold a212_1
  by_cases h1 : a ≠ 0
  · rw [if_pos h1] at r1 ⊢
    exact advG_stop fun r => by rw [r1]; simp
  · rw [if_neg h1] at r1 ⊢
    rw [advG_step r1]
    by_cases h2 : b ≠ 0
    · rw [if_pos h2] at r2 ⊢
      exact advG_stop fun r => by rw [r2]; simp
    · rw [if_neg h2] at r2 ⊢
      rw [advG_step r2]
      exact advG_stop fun r => by rw [r3]; simp
theorem lastB (n i : Nat) (hn : n ≤ 1000000) : decide ((i : Int) = i64.wrap ((n : Int) - 1)) = decide (i + 1 = n) := by
 rw [wrap_id (by omega) (by omega)]
 apply decide_eq_decide.2
 omega
theorem round113 (M : Flat → List GStep → Bool → Option E212) (f : Flat) (hv : VarsOk f.fVars) (l : List GStep) (hl : l.length ≤ 1000000) (top : Bool) (hM : ∀ s ∈ l, M f s.fThen false = some (stepC f false s.fThen) ∧ M f s.fElse false = some (stepC f false s.fElse)) (i : Nat) (hi : i < l.length) :
    (stC f top l.length i l[i]! = 0 → n212_0 M ⟨l, top, l, (l.length : Int), (i : Int), f⟩ = some (some ⟨l, top, l, (l.length : Int), ((i + 1 : Nat) : Int), f⟩)) ∧ (stC f top l.length i l[i]! ≠ 0 → n212_0 M ⟨l, top, l, (l.length : Int), (i : Int), f⟩ = some none) := by
  have hw := w1L hi hl
  obtain ⟨k1, k2⟩ := hM _ (get_memL hi)
  have hin := a212_1_eq M f l l[i]!.fThen l[i]!.fElse top (l.length : Int) (i : Int) _ _ k1 k2
  have hlen : (([l[i]!.fThen, l[i]!.fElse] : List (List GStep)).length : Int) = 2 := rfl
  have hi1 : (i : Int) < (l.length : Int) := by omega
  have hi0 : (0 : Int) ≤ (i : Int) := by omega
  unfold n212_0 stC ownC
  dsimp only
  simp only [Int.toNat_natCast, GTerm.eta, GStep.eta, m268_eq, lastB l.length i hl, m267_eq f.fVars hv, hlen, hin, hw, hi1, hi0, decide_true, cond_true, and_self, if_true]
  have e1' : (bif top then some (bif shapeB f l[i]! (decide (i + 1 = l.length)) then false else true) else some (bif shapeB f l[i]! false then false else true)) = some (bif shapeB f l[i]! (top && decide (i + 1 = l.length)) then false else true) := by cases top <;> rfl
  rw [e1']
  have hS : shapeB f l[i]! (top && decide (i + 1 = l.length)) = true → m269 l[i]! = some (numB l[i]!) := fun h => m269_eq _ (shape_bounds h).1
  revert hS
  generalize shapeB f l[i]! (top && decide (i + 1 = l.length)) = S
  intro hS
  generalize l[i]!.fThen = A at k1 hin ⊢
  generalize l[i]!.fElse = B at k2 hin ⊢
  cases S with
  | false => simp
  | true =>
    rw [hS rfl]
    generalize numB l[i]! = N
    cases N with
    | false => simp
    | true =>
      generalize termC f.fVars false l[i]!.fTerm = T
      generalize stepC f false A = a at *
      generalize stepC f false B = b at *
      by_cases hT : T = 0
      · by_cases ha : a = 0
        · by_cases hb : b = 0
          · simp [hT, ha, hb, hw]
          · simp [hT, ha, hb, k2]
        · simp [hT, ha, k1]
      · simp [hT]
theorem s212_eq (M : Flat → List GStep → Bool → Option E212) (f : Flat) (hv : VarsOk f.fVars) (l : List GStep) (hl : l.length ≤ 1000000) (top : Bool) (hM : ∀ s ∈ l, M f s.fThen false = some (stepC f false s.fThen) ∧ M f s.fElse false = some (stepC f false s.fElse)) : s212 M f l top = some (stepC f top l) := by
  obtain ⟨i, e1, hc⟩ := loopC (rnd := n212_0 M) l (fun i => ⟨l, top, l, (l.length : Int), (i : Int), f⟩) (stC f top l.length) (fun i hi => round113 M f hv l hl top hM i hi) (by unfold n212_0; simp)
  have e1' : a212_0 M ⟨l, top, l, (l.length : Int), 0, f⟩ = some ⟨l, top, l, (l.length : Int), (i : Int), f⟩ := e1
  rw [stepC_first f top l.length l 0 (by omega)] at hc
  unfold s212
  rw [e1']
  dsimp only
  rcases hc with ⟨rfl, hc⟩ | ⟨hi, h0, hc⟩
  · rw [hc]
    simp
  · rw [hc]
    obtain ⟨k1, k2⟩ := hM _ (get_memL hi)
    have hin := a212_1_eq M f l l[i]!.fThen l[i]!.fElse top (l.length : Int) (i : Int) _ _ k1 k2
    have hlen : (([l[i]!.fThen, l[i]!.fElse] : List (List GStep)).length : Int) = 2 := rfl
    have hi1 : (i : Int) < (l.length : Int) := by omega
    have hi0 : (0 : Int) ≤ (i : Int) := by omega
    revert h0
    unfold stC ownC
    simp only [Int.toNat_natCast, GTerm.eta, GStep.eta, m268_eq, lastB l.length i hl, m267_eq f.fVars hv, hlen, hin, hi1, hi0, decide_true, cond_true, and_self, if_true]
    have e1' : (bif top then some (bif shapeB f l[i]! (decide (i + 1 = l.length)) then false else true) else some (bif shapeB f l[i]! false then false else true)) = some (bif shapeB f l[i]! (top && decide (i + 1 = l.length)) then false else true) := by cases top <;> rfl
    rw [e1']
    have hS : shapeB f l[i]! (top && decide (i + 1 = l.length)) = true → m269 l[i]! = some (numB l[i]!) := fun h => m269_eq _ (shape_bounds h).1
    revert hS
    generalize shapeB f l[i]! (top && decide (i + 1 = l.length)) = S
    intro hS
    generalize l[i]!.fThen = A at k1 hin ⊢
    generalize l[i]!.fElse = B at k2 hin ⊢
    cases S with
    | false => simp
    | true =>
      rw [hS rfl]
      generalize numB l[i]! = N
      cases N with
      | false => simp
      | true =>
        generalize termC f.fVars false l[i]!.fTerm = T
        generalize stepC f false A = a at *
        generalize stepC f false B = b at *
        by_cases hT : T = 0
        · by_cases ha : a = 0
          · by_cases hb : b = 0
            · simp [hT, ha, hb]
            · simp [hT, ha, hb, k2]
          · simp [hT, ha, k1]
        · simp [hT]
theorem m212_eq (f : Flat) (hv : VarsOk f.fVars) : ∀ (n : Nat) (l : List GStep) (top : Bool), SizeOf.sizeOf l < n → nSs l ≤ 1000 → m212 n f l top = some (stepC f top l)
 | 0, _, _, h, _ => by omega
 | n + 1, l, top, h, h2 => s212_eq (m212 n) f hv l (by have := nSs_len l; omega) top (fun s hs => ⟨m212_eq f hv n _ _ (by have := sizeOf_then hs; omega) (by have := then_le hs; omega), m212_eq f hv n _ _ (by have := sizeOf_then hs; omega) (by have := then_le hs; omega)⟩)
theorem r212_eq (f : Flat) (hv : VarsOk f.fVars) (l : List GStep) (top : Bool) (h : nSs l ≤ 1000) : r212 f l top = some (stepC f top l) := lim_eq (SizeOf.sizeOf l + 1) fun n hn => m212_eq f hv n l top (by omega) h
theorem num_ref {f : Flat} {s : GStep} {last : Bool} (h : shapeB f s last = true) (c : Int) (hc : c = if s.fDo = 2 then 67108864 else 10000) :
    ((bif decide (s.fCost < 0) then some true else bif decide (c < s.fCost) then some true else bif decide (s.fN < 0) then some true else bif decide (s.fDo = 4) then some (decide (4096 < s.fN)) else some false) : Option Bool) = some (!(decide (0 ≤ s.fCost ∧ s.fCost ≤ c) && (if s.fDo = 4 then decide (0 ≤ s.fN ∧ s.fN ≤ 4096) else true))) := by
  obtain ⟨b1, b2, b3, b4, b5⟩ := shape_bounds h
  have hd : ∀ (p : Prop) [Decidable p], (!decide p) = decide (¬ p) := fun p _ => by by_cases hp : p <;> simp [hp]
  by_cases h1 : s.fCost < 0
  · simp [h1, show ¬ 0 ≤ s.fCost by omega]
  by_cases h2 : c < s.fCost
  · simp [h1, h2, show ¬ s.fCost ≤ c by omega]
  by_cases h3 : s.fN < 0
  · have h4 : s.fDo = 4 := by
      by_cases h4 : s.fDo = 4
      · exact h4
      · have := b5 h4; omega
    simp [h1, h2, h3, h4, show ¬ 0 ≤ s.fN by omega]
  by_cases h4 : s.fDo = 4
  · simp [h1, h2, h3, h4, show 0 ≤ s.fCost by omega, show s.fCost ≤ c by omega, show 0 ≤ s.fN by omega]
    by_cases h5 : 4096 < s.fN
    · simp [h5]
    · simp [h5]; omega
  · simp [h1, h2, h3, h4, show 0 ≤ s.fCost by omega, show s.fCost ≤ c by omega]
theorem bnd_ref {f : Flat} {s : GStep} {last : Bool} (h : shapeB f s last = true) :
    ((bif decide (0 < (s.fBounds.length : Int)) then if (0 : Int) ≤ i64.wrap ((s.fBounds.length : Int) - (1 : Int)) ∧ i64.wrap ((s.fBounds.length : Int) - (1 : Int)) < (s.fBounds.length : Int) then some (decide (67108864 < s.fBounds[(i64.wrap ((s.fBounds.length : Int) - 1)).toNat]!)) else none else some false) : Option Bool) = some (!(if s.fDo = 6 then decide (s.fBounds[s.fBounds.length - 1]! ≤ 67108864) else true)) := by
  obtain ⟨b1, b2, b3, b4, b5⟩ := shape_bounds h
  by_cases h6 : s.fDo = 6
  · obtain ⟨b1, b2⟩ := b1 h6
    have hw : i64.wrap ((s.fBounds.length : Int) - 1) = (s.fBounds.length : Int) - 1 := wrap_id (by omega) (by omega)
    have hw2 : ((s.fBounds.length : Int) - 1).toNat = s.fBounds.length - 1 := by omega
    rw [hw, hw2, decide_eq_true (by omega), cond_true, if_pos ⟨by omega, by omega⟩, if_pos h6]
    generalize s.fBounds[s.fBounds.length - 1]! = B
    by_cases h : 67108864 < B
    · simp [h]
    · simp [h]; omega
  · rw [decide_eq_false (by have := b2 h6; omega), if_neg h6]
    rfl
theorem round63 (M : Flat → List GStep → Bool → Option E143) (f : Flat) (hv : VarsOk f.fVars) (l : List GStep) (hl : l.length ≤ 1000000) (hB : ∀ s ∈ l, s.fBounds.length ≤ 1000000) (top : Bool) (hM : ∀ s ∈ l, M f s.fThen false = some (stepC f false s.fThen) ∧ M f s.fElse false = some (stepC f false s.fElse)) (i : Nat) (hi : i < l.length) :
    (stC f top l.length i l[i]! = 0 → n143_0 M ⟨l, top, (i : Int), f⟩ = some (some ⟨l, top, ((i + 1 : Nat) : Int), f⟩)) ∧ (stC f top l.length i l[i]! ≠ 0 → n143_0 M ⟨l, top, (i : Int), f⟩ = some none) := by
  have hw := w1L hi hl
  obtain ⟨k1, k2⟩ := hM _ (get_memL hi)
  have hb := hB _ (get_memL hi)
  have hi1 : (i : Int) < (l.length : Int) := by omega
  have hi0 : (0 : Int) ≤ (i : Int) := by omega
  unfold n143_0 stC ownC
  dsimp only
  simp only [Int.toNat_natCast, GTerm.eta, GStep.eta, m223_eq f l[i]! _ hb, lastB l.length i hl, m142_eq f.fVars hv, hw, hi1, hi0, decide_true, cond_true, and_self, if_true]
  have e1' : (bif top then some (bif shapeB f l[i]! (decide (i + 1 = l.length)) then false else true) else some (bif shapeB f l[i]! false then false else true)) = some (bif shapeB f l[i]! (top && decide (i + 1 = l.length)) then false else true) := by cases top <;> rfl
  rw [e1']
  cases hS : shapeB f l[i]! (top && decide (i + 1 = l.length)) with
  | false => simp
  | true =>
    have hn := num_ref hS
    rw [bnd_ref hS]
    unfold numB
    generalize (if l[i]!.fDo = 6 then decide (l[i]!.fBounds[l[i]!.fBounds.length - 1]! ≤ 67108864) else true) = B6
    by_cases h2 : l[i]!.fDo = 2
    · rw [if_pos h2] at hn ⊢
      rw [decide_eq_true h2, hn 67108864 rfl]
      generalize (decide (0 ≤ l[i]!.fCost ∧ l[i]!.fCost ≤ 67108864) && (if l[i]!.fDo = 4 then decide (0 ≤ l[i]!.fN ∧ l[i]!.fN ≤ 4096) else true)) = N
      generalize termC f.fVars false l[i]!.fTerm = T
      generalize l[i]!.fThen = A at k1 ⊢
      generalize l[i]!.fElse = B at k2 ⊢
      generalize stepC f false A = a at *
      generalize stepC f false B = b at *
      cases N with
      | false => simp
      | true =>
        cases B6 with
        | false => simp
        | true =>
          by_cases hT : T = 0
          · by_cases ha : a = 0
            · by_cases hb : b = 0
              · simp [hT, ha, hb, k1, k2]
              · simp [hT, ha, hb, k1, k2]
            · simp [hT, ha, k1]
          · simp [hT]
    · rw [if_neg h2] at hn ⊢
      rw [decide_eq_false h2, hn 10000 rfl]
      generalize (decide (0 ≤ l[i]!.fCost ∧ l[i]!.fCost ≤ 10000) && (if l[i]!.fDo = 4 then decide (0 ≤ l[i]!.fN ∧ l[i]!.fN ≤ 4096) else true)) = N
      generalize termC f.fVars false l[i]!.fTerm = T
      generalize l[i]!.fThen = A at k1 ⊢
      generalize l[i]!.fElse = B at k2 ⊢
      generalize stepC f false A = a at *
      generalize stepC f false B = b at *
      cases N with
      | false => simp
      | true =>
        cases B6 with
        | false => simp
        | true =>
          by_cases hT : T = 0
          · by_cases ha : a = 0
            · by_cases hb : b = 0
              · simp [hT, ha, hb, k1, k2]
              · simp [hT, ha, hb, k1, k2]
            · simp [hT, ha, k1]
          · simp [hT]
theorem s143_eq (M : Flat → List GStep → Bool → Option E143) (f : Flat) (hv : VarsOk f.fVars) (l : List GStep) (hl : l.length ≤ 1000000) (hB : ∀ s ∈ l, s.fBounds.length ≤ 1000000) (top : Bool) (hM : ∀ s ∈ l, M f s.fThen false = some (stepC f false s.fThen) ∧ M f s.fElse false = some (stepC f false s.fElse)) : s143 M f l top = some (stepC f top l) := by
  obtain ⟨i, e1, hc⟩ := loopC (rnd := n143_0 M) l (fun i => ⟨l, top, (i : Int), f⟩) (stC f top l.length) (fun i hi => round63 M f hv l hl hB top hM i hi) (by unfold n143_0; simp)
  have e1' : a143_0 M ⟨l, top, 0, f⟩ = some ⟨l, top, (i : Int), f⟩ := e1
  rw [stepC_first f top l.length l 0 (by omega)] at hc
  unfold s143
  rw [e1']
  dsimp only
  rcases hc with ⟨rfl, hc⟩ | ⟨hi, h0, hc⟩
  · rw [hc]
    simp
  · rw [hc]
    obtain ⟨k1, k2⟩ := hM _ (get_memL hi)
    have hb := hB _ (get_memL hi)
    have hi1 : (i : Int) < (l.length : Int) := by omega
    have hi0 : (0 : Int) ≤ (i : Int) := by omega
    revert h0
    unfold stC ownC
    simp only [Int.toNat_natCast, GTerm.eta, GStep.eta, m223_eq f l[i]! _ hb, lastB l.length i hl, m142_eq f.fVars hv, hi1, hi0, decide_true, cond_true, and_self, if_true]
    have e1' : (bif top then some (bif shapeB f l[i]! (decide (i + 1 = l.length)) then false else true) else some (bif shapeB f l[i]! false then false else true)) = some (bif shapeB f l[i]! (top && decide (i + 1 = l.length)) then false else true) := by cases top <;> rfl
    rw [e1']
    cases hS : shapeB f l[i]! (top && decide (i + 1 = l.length)) with
    | false => simp
    | true =>
      have hn := num_ref hS
      rw [bnd_ref hS]
      unfold numB
      generalize (if l[i]!.fDo = 6 then decide (l[i]!.fBounds[l[i]!.fBounds.length - 1]! ≤ 67108864) else true) = B6
      by_cases h2 : l[i]!.fDo = 2
      · rw [if_pos h2] at hn ⊢
        rw [decide_eq_true h2, hn 67108864 rfl]
        generalize (decide (0 ≤ l[i]!.fCost ∧ l[i]!.fCost ≤ 67108864) && (if l[i]!.fDo = 4 then decide (0 ≤ l[i]!.fN ∧ l[i]!.fN ≤ 4096) else true)) = N
        generalize termC f.fVars false l[i]!.fTerm = T
        generalize l[i]!.fThen = A at k1 ⊢
        generalize l[i]!.fElse = B at k2 ⊢
        generalize stepC f false A = a at *
        generalize stepC f false B = b at *
        cases N with
        | false => simp
        | true =>
          cases B6 with
          | false => simp
          | true =>
            by_cases hT : T = 0
            · by_cases ha : a = 0
              · by_cases hb : b = 0
                · simp [hT, ha, hb, k1, k2]
                · simp [hT, ha, hb, k1, k2]
              · simp [hT, ha, k1]
            · simp [hT]
      · rw [if_neg h2] at hn ⊢
        rw [decide_eq_false h2, hn 10000 rfl]
        generalize (decide (0 ≤ l[i]!.fCost ∧ l[i]!.fCost ≤ 10000) && (if l[i]!.fDo = 4 then decide (0 ≤ l[i]!.fN ∧ l[i]!.fN ≤ 4096) else true)) = N
        generalize termC f.fVars false l[i]!.fTerm = T
        generalize l[i]!.fThen = A at k1 ⊢
        generalize l[i]!.fElse = B at k2 ⊢
        generalize stepC f false A = a at *
        generalize stepC f false B = b at *
        cases N with
        | false => simp
        | true =>
          cases B6 with
          | false => simp
          | true =>
            by_cases hT : T = 0
            · by_cases ha : a = 0
              · by_cases hb : b = 0
                · simp [hT, ha, hb, k1, k2]
                · simp [hT, ha, hb, k1, k2]
              · simp [hT, ha, k1]
            · simp [hT]
theorem m143_eq (f : Flat) (hv : VarsOk f.fVars) : ∀ (n : Nat) (l : List GStep) (top : Bool), SizeOf.sizeOf l < n → nSs l ≤ 1000 → m143 n f l top = some (stepC f top l)
 | 0, _, _, h, _ => by omega
 | n + 1, l, top, h, h2 => s143_eq (m143 n) f hv l (by have := nSs_len l; omega) (fun s hs => by have := nSs_mem hs; have := nS_eq s; omega) top (fun s hs => ⟨m143_eq f hv n _ _ (by have := sizeOf_then hs; omega) (by have := then_le hs; omega), m143_eq f hv n _ _ (by have := sizeOf_then hs; omega) (by have := then_le hs; omega)⟩)
theorem r143_eq (f : Flat) (hv : VarsOk f.fVars) (l : List GStep) (top : Bool) (h : nSs l ≤ 1000) : r143 f l top = some (stepC f top l) := lim_eq (SizeOf.sizeOf l + 1) fun n hn => m143_eq f hv n l top (by omega) h
theorem round112 (f : Flat) (hv : VarsOk f.fVars) (hl : f.fHatches.length ≤ 1000000) (i : Nat) (hi : i < f.fHatches.length) :
  (hatC f i f.fHatches[i]! = 0 → n211_0 ⟨f.fHatches, (f.fHatches.length : Int), (i : Int), f⟩ = some (some ⟨f.fHatches, (f.fHatches.length : Int), ((i + 1 : Nat) : Int), f⟩)) ∧ (hatC f i f.fHatches[i]! ≠ 0 → n211_0 ⟨f.fHatches, (f.fHatches.length : Int), (i : Int), f⟩ = some none) := by
 have hw := w1L hi hl
 have h2 := m266_eq (f.fHatches.take i) (by rw [List.length_take]; omega) f.fHatches[i]!
 unfold n211_0 hatC
 dsimp only
 simp only [Int.toNat_natCast, GTerm.eta, Hatch.eta, m263_eq, m261_eq, h2, m267_eq f.fVars hv, hw]
 generalize nameB f.fHatches[i]!.fName = B
 generalize ((f.fHatches.take i).any fun w => w.fName.toList == f.fHatches[i]!.fName.toList) = A
 generalize boundB f.fHatches[i]!.fLow f.fHatches[i]!.fHigh = C
 generalize termC f.fVars true f.fHatches[i]!.fTerm = T
 have hi1 : (i : Int) < (f.fHatches.length : Int) := by omega
 have hi0 : (0 : Int) ≤ (i : Int) := by omega
 have hi2 : (i : Int) ≤ (f.fHatches.length : Int) := by omega
 simp only [hi0, hi1, hi2, and_self, if_true, decide_true, cond_true]
 cases A <;> cases B <;> cases C <;> by_cases hT : T = 0 <;> simp [hT]
theorem m211_eq (f : Flat) (hv : VarsOk f.fVars) (hl : f.fHatches.length ≤ 1000000) : m211 f = some (firstC (hatC f) f.fHatches 0) := by
  obtain ⟨i, e1, hc⟩ := loopC (rnd := n211_0) f.fHatches (fun i => ⟨f.fHatches, (f.fHatches.length : Int), (i : Int), f⟩) (hatC f) (fun i hi => round112 f hv hl i hi) (by unfold n211_0; simp)
  have e1' : a211_0 ⟨f.fHatches, (f.fHatches.length : Int), 0, f⟩ = some ⟨f.fHatches, (f.fHatches.length : Int), (i : Int), f⟩ := e1
  unfold m211
  rw [e1']
  dsimp only
  rcases hc with ⟨rfl, hc⟩ | ⟨hi, h0, hc⟩
  · rw [hc]
    simp
  · rw [hc]
    have h2 := m266_eq (f.fHatches.take i) (by rw [List.length_take]; omega) f.fHatches[i]!
    revert h0
    unfold hatC
    simp only [Int.toNat_natCast, GTerm.eta, Hatch.eta, m263_eq, m261_eq, h2, m267_eq f.fVars hv]
    generalize nameB f.fHatches[i]!.fName = B
    generalize ((f.fHatches.take i).any fun w => w.fName.toList == f.fHatches[i]!.fName.toList) = A
    generalize boundB f.fHatches[i]!.fLow f.fHatches[i]!.fHigh = C
    generalize termC f.fVars true f.fHatches[i]!.fTerm = T
    have hi1 : (i : Int) < (f.fHatches.length : Int) := by omega
    have hi0 : (0 : Int) ≤ (i : Int) := by omega
    have hi2 : (i : Int) ≤ (f.fHatches.length : Int) := by omega
    simp only [hi0, hi1, hi2, and_self, if_true, decide_true, cond_true]
    cases A <;> cases B <;> cases C <;> by_cases hT : T = 0 <;> simp [hT]
theorem round18 (f : Flat) (hv : VarsOk f.fVars) (hl : f.fHatches.length ≤ 1000000) (i : Nat) (hi : i < f.fHatches.length) :
    (hatC f i f.fHatches[i]! = 0 → n78_0 ⟨(i : Int), f⟩ = some (some ⟨((i + 1 : Nat) : Int), f⟩)) ∧ (hatC f i f.fHatches[i]! ≠ 0 → n78_0 ⟨(i : Int), f⟩ = some none) := by
  have hw := w1L hi hl
  obtain ⟨j, h2, h3⟩ := a78_1_eq f hl i (by omega) f.fHatches[i]!
  unfold n78_0 hatC
  dsimp only
  simp only [Int.toNat_natCast, GTerm.eta, Hatch.eta, m141_eq, m140_eq, h2, m142_eq f.fVars hv, hw]
  generalize nameB f.fHatches[i]!.fName = B
  generalize ((f.fHatches.take i).any fun w => w.fName.toList == f.fHatches[i]!.fName.toList) = A at h3
  generalize boundB f.fHatches[i]!.fLow f.fHatches[i]!.fHigh = C
  generalize termC f.fVars true f.fHatches[i]!.fTerm = T
  have hi1 : (i : Int) < (f.fHatches.length : Int) := by omega
  have hi0 : (0 : Int) ≤ (i : Int) := by omega
  simp only [hi0, hi1, and_self, if_true, decide_true, cond_true]
  rcases h3 with ⟨rfl, rfl⟩ | ⟨hj, h4, rfl⟩
  · cases B <;> cases C <;> by_cases hT : T = 0 <;> simp [hT]
  · have hj1 : (j : Int) < (i : Int) := by omega
    have hj2 : (j : Int) < (f.fHatches.length : Int) := by omega
    have hj0 : (0 : Int) ≤ (j : Int) := by omega
    simp only [hj0, hj1, hj2, h4, and_self, if_true, decide_true, cond_true]
    cases B <;> simp
theorem a78_0_eq (f : Flat) (hv : VarsOk f.fVars) (hl : f.fHatches.length ≤ 1000000) : ∃ i : Nat, a78_0 ⟨0, f⟩ = some ⟨(i : Int), f⟩ ∧ ((i = f.fHatches.length ∧ firstC (hatC f) f.fHatches 0 = 0) ∨ (i < f.fHatches.length ∧ hatC f i f.fHatches[i]! ≠ 0 ∧ firstC (hatC f) f.fHatches 0 = hatC f i f.fHatches[i]!)) :=
 loopC (rnd := n78_0) f.fHatches (fun i => ⟨(i : Int), f⟩) (hatC f) (fun i hi => round18 f hv hl i hi) (by unfold n78_0; simp)
theorem hat_nodes {f : Flat} {i : Nat} (hi : i < f.fHatches.length) : nTs ((f.fHatches.take i).map (·.fTerm)) + nT f.fHatches[i]!.fTerm ≤ nTs (f.fHatches.map (·.fTerm)) := by
  have h := nTs_take (f.fHatches.map (·.fTerm)) (i + 1)
  rw [← List.map_take, take_succL hi, List.map_append, nTs_app] at h
  simpa [nTs] using h
theorem m138_eq (f : Flat) (h : nSs f.fBody + nTs (f.fHatches.map (·.fTerm)) ≤ 900) (hl : f.fHatches.length ≤ 1000000) : m138 f = some (sizesB f) := by
  unfold m138 sizesB
  by_cases h1 : 64 < (f.fVars.length : Int)
  · simp [h1, show ¬ f.fVars.length ≤ 64 by omega]
  by_cases h2 : 8 < (f.fHatches.length : Int)
  · simp [h1, h2, show ¬ f.fHatches.length ≤ 8 by omega]
  rw [decide_eq_false h1, decide_eq_false h2, decide_eq_true (show f.fVars.length ≤ 64 by omega), decide_eq_true (show f.fHatches.length ≤ 8 by omega)]
  dsimp only [cond_false, cond_true]
  have hb := nodS_le f.fBody
  rw [r215_eq f.fBody (by omega)]
  obtain ⟨i, b, e1, hI, hc⟩ := loopJ (rnd := n138_0) f.fHatches.length (fun i (b : Int) => ⟨b, (i : Int), f⟩) (fun i b => (0 ≤ b ∧ b ≤ nSs f.fBody + nTs ((f.fHatches.take i).map (·.fTerm))) ∧ ∀ j, j < i → dT f.fHatches[j]!.fTerm ≤ 12) (fun i _ => 12 < dT f.fHatches[i]!.fTerm) (fun i b hi hI => by
    have hn := hat_nodes hi
    have hw := w1L hi hl
    have k1 := r216_eq f.fHatches[i]!.fTerm (by omega)
    have k2 := r217_eq f.fHatches[i]!.fTerm (by omega)
    have hi1 : (i : Int) < (f.fHatches.length : Int) := by omega
    have hi0 : (0 : Int) ≤ (i : Int) := by omega
    by_cases hd : 12 < dT f.fHatches[i]!.fTerm
    · refine .inr ⟨?_, hd⟩
      unfold n138_0
      dsimp only
      simp only [Int.toNat_natCast, GTerm.eta, k1, k2, hi1, hi0, decide_true, cond_true, and_self, if_true, hd]
    · refine .inl ⟨b + nT f.fHatches[i]!.fTerm, ?_, ⟨by omega, ?_⟩, fun j hj => ?_⟩
      · have hw2 : i64.wrap (b + (nT f.fHatches[i]!.fTerm : Int)) = b + nT f.fHatches[i]!.fTerm := wrap_id (by omega) (by omega)
        unfold n138_0
        dsimp only
        simp only [Int.toNat_natCast, GTerm.eta, k1, k2, hi1, hi0, decide_true, cond_true, and_self, if_true, hd, decide_false, cond_false, hw, hw2]
      · rw [take_succL hi, List.map_append, nTs_app]
        simp only [List.map_cons, List.map_nil, nTs_cons, show nTs [] = 0 from rfl]
        omega
      · rcases Nat.lt_succ_iff_lt_or_eq.1 hj with h | h
        · exact hI.2 j h
        · subst h; omega) (fun b _ => by unfold n138_0; simp) (b := nodS f.fBody) ⟨⟨by omega, by simp only [List.take_zero, List.map_nil, show nTs [] = 0 from rfl]; omega⟩, fun j hj => absurd hj (by omega)⟩
  have e1' : a138_0 ⟨nodS f.fBody, 0, f⟩ = some ⟨b, (i : Int), f⟩ := e1
  dsimp only
  rw [e1']
  dsimp only
  rcases hc with rfl | ⟨hi, hd⟩
  · rw [decide_eq_false (show ¬ ((f.fHatches.length : Int) < (f.fHatches.length : Int)) by omega), cond_false]
    have ha : f.fHatches.all (fun h => decide (dT h.fTerm ≤ 12)) = true := all_of fun j hj => by simpa using hI.2 j hj
    have hn := hI.1.2
    rw [List.take_length] at hn
    rw [ha, decide_eq_true (show b ≤ 1024 by omega), cond_true, r218_eq f.fBody (by omega), r219_eq f.fBody (by omega)]
    by_cases h5 : dSs f.fBody ≤ 12
    · cases tDeep f.fBody <;> simp [h5]
    · simp [h5]
  · have hn := hat_nodes hi
    have k1 := r216_eq f.fHatches[i]!.fTerm (by omega)
    have k2 := r217_eq f.fHatches[i]!.fTerm (by omega)
    have hi1 : (i : Int) < (f.fHatches.length : Int) := by omega
    have hi0 : (0 : Int) ≤ (i : Int) := by omega
    have ha : f.fHatches.all (fun h => decide (dT h.fTerm ≤ 12)) = false := not_all hi (by simpa using hd)
    simp only [Int.toNat_natCast, GTerm.eta, k1, k2, hi1, hi0, decide_true, cond_true, and_self, if_true, hd, ha, Bool.and_false, Bool.false_and]
theorem s207_eq (M : List GStep → Int → Measure → Option E207) (l : List GStep) (hM : ∀ s ∈ l, ∀ (d : Int) (b : Measure), 0 ≤ d → d ≤ 13 → 0 ≤ b.fNodes → (b.fNodes + nSs s.fThen ≤ 1000 → M s.fThen d b = some (msS d s.fThen b)) ∧ (b.fNodes + nSs s.fElse ≤ 1000 → M s.fElse d b = some (msS d s.fElse b))) (d : Int) (b : Measure) (h0 : 0 ≤ d) (hd : d ≤ 13) (h1 : 0 ≤ b.fNodes) (h2 : b.fNodes + nSs l ≤ 1000) : s207 M l d b = some (msS d l b) := by
  have hL := nSs_len l
  have hw1 : i64.wrap (d + 1) = d + 1 := wrap_id (by omega) (by omega)
  have hgo : ∀ (l : List GStep) (i : Nat) (b : Measure), goE (fun _ (b : Measure) (s : GStep) => if overM (incM d b) = true then (.inr (incM d b) : Measure ⊕ Measure) else .inl (msS (d + 1) s.fElse (msS (d + 1) s.fThen (msT s.fTerm 1 (incM d b))))) id id l i b = msS d l b := by
    intro l
    induction l with
    | nil => intro i b; rw [msS]; rfl
    | cons s l ih =>
      intro i b
      rw [msS]
      by_cases ho : overM (incM d b) = true
      · rw [if_pos ho, goE_inr (r := incM d b) (by rw [if_pos ho])]; rfl
      · rw [if_neg ho, goE_inl (b' := msS (d + 1) s.fElse (msS (d + 1) s.fThen (msT s.fTerm 1 (incM d b)))) (by rw [if_neg ho])]
        exact ih (i + 1) _
  have hm : ∀ (b : Measure) (x : Bool), -1000000 ≤ b.fNodes → b.fNodes ≤ 1000000 → x = (b.fDeep || decide (12 < d)) → m208 ⟨i64.wrap (b.fNodes + 1), x⟩ = (overM (incM d b), incM d b) := fun b x b1 b2 hx => by
    rw [m208_eq, wrap_id (by omega) (by omega), hx]
    rfl
  have hs : ∀ (i : Nat) (b : Measure), i < l.length → 0 ≤ b.fNodes → b.fNodes + nS l[i]! ≤ 1000 → overM (incM d b) = false → d ≤ 12 ∧ r209 l[i]!.fTerm 1 (incM d b) = some (msT l[i]!.fTerm 1 (incM d b)) ∧ M l[i]!.fThen (d + 1) (msT l[i]!.fTerm 1 (incM d b)) = some (msS (d + 1) l[i]!.fThen (msT l[i]!.fTerm 1 (incM d b))) ∧ M l[i]!.fElse (d + 1) (msS (d + 1) l[i]!.fThen (msT l[i]!.fTerm 1 (incM d b))) = some (msS (d + 1) l[i]!.fElse (msS (d + 1) l[i]!.fThen (msT l[i]!.fTerm 1 (incM d b)))) ∧ 0 ≤ (msS (d + 1) l[i]!.fElse (msS (d + 1) l[i]!.fThen (msT l[i]!.fTerm 1 (incM d b)))).fNodes ∧ (msS (d + 1) l[i]!.fElse (msS (d + 1) l[i]!.fThen (msT l[i]!.fTerm 1 (incM d b)))).fNodes ≤ b.fNodes + nS l[i]! := fun i b hi b1 b2 ho => by
    have hd2 : d ≤ 12 := by unfold overM incM at ho; grind
    have hN := nS_eq l[i]!
    have hp : (incM d b).fNodes = b.fNodes + 1 := rfl
    obtain ⟨a1, a2, a3⟩ := msT_ok l[i]!.fTerm 1 (incM d b) (by omega) (by omega) (by omega)
    obtain ⟨c1, c2, c3⟩ := msS_ok (d + 1) l[i]!.fThen (msT l[i]!.fTerm 1 (incM d b)) (by omega) (by omega) (by omega) (by omega)
    obtain ⟨g1, g2, g3⟩ := msS_ok (d + 1) l[i]!.fElse (msS (d + 1) l[i]!.fThen (msT l[i]!.fTerm 1 (incM d b))) (by omega) (by omega) (by omega) (by omega)
    exact ⟨hd2, r209_eq _ 1 _ (by omega) (by omega) (by omega) (by omega), (hM _ (get_memL hi) (d + 1) _ (by omega) (by omega) (by omega)).1 (by omega), (hM _ (get_memL hi) (d + 1) _ (by omega) (by omega) (by omega)).2 (by omega), by omega, by omega⟩
  obtain ⟨i, v, e1, hI, hc⟩ := loopV (rnd := n207_0 M) l (fun i (b : Measure) => ⟨d, l, (l.length : Int), (i : Int), b⟩) (fun _ (b : Measure) (s : GStep) => if overM (incM d b) = true then (.inr (incM d b) : Measure ⊕ Measure) else .inl (msS (d + 1) s.fElse (msS (d + 1) s.fThen (msT s.fTerm 1 (incM d b))))) id id (fun i x => 0 ≤ x.fNodes ∧ x.fNodes ≤ b.fNodes + nSs (l.take i)) (fun i x hi hx => by
      have hn := nSs_step hi
      have hw := w1L hi (by omega)
      have hi1 : (i : Int) < (l.length : Int) := by omega
      have hi0 : (0 : Int) ≤ (i : Int) := by omega
      have hmx := hm x
      cases ho : overM (incM d x) with
      | true =>
        refine ⟨fun b' hb' => by simp at hb', fun r hr => ?_⟩
        unfold n207_0
        dsimp only
        simp only [Int.toNat_natCast, hi1, hi0, decide_true, cond_true, and_self, if_true]
        cases hb : x.fDeep with
        | true => rw [hmx true (by omega) (by omega) (by rw [hb]; rfl), ho]; rfl
        | false => rw [hmx (decide (12 < d)) (by omega) (by omega) (by rw [hb]; rfl), ho]; rfl
      | false =>
        obtain ⟨q0, q1, q2, q3, q4, q5⟩ := hs i x hi hx.1 (by omega) ho
        refine ⟨fun b' hb' => ?_, fun r hr => by simp at hr⟩
        have hb' : msS (d + 1) l[i]!.fElse (msS (d + 1) l[i]!.fThen (msT l[i]!.fTerm 1 (incM d x))) = b' := by simpa using hb'
        subst hb'
        refine ⟨?_, ⟨q4, by rw [take_succL hi, nSs_snoc]; omega⟩⟩
        unfold n207_0
        dsimp only
        simp only [Int.toNat_natCast, hi1, hi0, decide_true, cond_true, and_self, if_true]
        cases hb : x.fDeep with
        | true => rw [hmx true (by omega) (by omega) (by rw [hb]; rfl), ho]; simp only [GTerm.eta, q1, q2, q3, hw1, hw, cond_true, cond_false]
        | false => rw [hmx (decide (12 < d)) (by omega) (by omega) (by rw [hb]; rfl), ho]; simp only [GTerm.eta, q1, q2, q3, hw1, hw, cond_true, cond_false]) (fun x _ => by unfold n207_0; simp) (b := b) ⟨h1, by simp [nSs]⟩
  have e1' : a207_0 M ⟨d, l, (l.length : Int), 0, b⟩ = some ⟨d, l, (l.length : Int), (i : Int), v⟩ := e1
  rw [hgo] at hc
  unfold s207
  rw [e1']
  dsimp only
  rcases hc with ⟨rfl, hc⟩ | ⟨hi, r, hr, hc⟩
  · rw [hc, decide_eq_false (by omega)]
    rfl
  · have hn := nSs_step hi
    have hi1 : (i : Int) < (l.length : Int) := by omega
    have hi0 : (0 : Int) ≤ (i : Int) := by omega
    have ho : overM (incM d v) = true := by
      by_cases ho : overM (incM d v) = true
      · exact ho
      · rw [if_neg ho] at hr; cases hr
    rw [if_pos ho] at hr
    cases hr
    rw [hc]
    have hmx := hm v
    simp only [Int.toNat_natCast, hi1, hi0, decide_true, cond_true, and_self, if_true]
    cases hb : v.fDeep with
    | true => rw [hmx true (by omega) (by omega) (by rw [hb]; rfl), ho]; rfl
    | false => rw [hmx (decide (12 < d)) (by omega) (by omega) (by rw [hb]; rfl), ho]; rfl
theorem m207_eq : ∀ (n : Nat) (l : List GStep) (d : Int) (b : Measure), SizeOf.sizeOf l < n → 0 ≤ d → d ≤ 13 → 0 ≤ b.fNodes → b.fNodes + nSs l ≤ 1000 → m207 n l d b = some (msS d l b)
 | 0, _, _, _, h, _, _, _, _ => by omega
 | n + 1, l, d, b, h, h0, hd, h1, h2 => s207_eq (m207 n) l (fun s hs d b a1 a2 a3 => ⟨fun a4 => m207_eq n _ d b (by have := sizeOf_then hs; omega) a1 a2 a3 a4, fun a4 => m207_eq n _ d b (by have := sizeOf_then hs; omega) a1 a2 a3 a4⟩) d b h0 hd h1 h2
theorem r207_eq (l : List GStep) (d : Int) (b : Measure) (h0 : 0 ≤ d) (hd : d ≤ 13) (h1 : 0 ≤ b.fNodes) (h2 : b.fNodes + nSs l ≤ 1000) : r207 l d b = some (msS d l b) := lim_eq (SizeOf.sizeOf l + 1) fun n hn => m207_eq n l d b (by omega) h0 hd h1 h2
theorem sizes56 (f : Flat) (h : nSs f.fBody + nTs (f.fHatches.map (·.fTerm)) ≤ 900) (hl : f.fHatches.length ≤ 1000000) : ∃ r q, r207 f.fBody 1 ⟨0, false⟩ = some r ∧ a136_0 ⟨f.fHatches, (f.fHatches.length : Int), 0, f, r⟩ = some ⟨f.fHatches, (f.fHatches.length : Int), (f.fHatches.length : Int), f, q⟩ ∧ overM q = !(f.fHatches.all (fun h => decide (dT h.fTerm ≤ 12)) && decide (dSs f.fBody ≤ 12) && !tDeep f.fBody) := by
  obtain ⟨p1, p2, p3⟩ := msS_ok 1 f.fBody ⟨0, false⟩ (by omega) (by omega) (Int.le_refl 0) (by show (0 : Int) + _ ≤ _; omega)
  have p2 : 0 ≤ (msS 1 f.fBody ⟨0, false⟩).fNodes := p2
  have p3 : (msS 1 f.fBody ⟨0, false⟩).fNodes ≤ 0 + nSs f.fBody := p3
  refine ⟨msS 1 f.fBody ⟨0, false⟩, ?_⟩
  have p4 := r207_eq f.fBody 1 ⟨0, false⟩ (by omega) (by omega) (Int.le_refl 0) (by show (0 : Int) + _ ≤ _; omega)
  generalize msS 1 f.fBody ⟨0, false⟩ = r at *
  obtain ⟨q, e1, hI⟩ := loopI (rnd := n136_0) f.fHatches.length (fun i (q : Measure) => ⟨f.fHatches, (f.fHatches.length : Int), (i : Int), f, q⟩) (fun i q => q.fDeep = (r.fDeep || (f.fHatches.take i).any fun h => decide (12 < dT h.fTerm)) ∧ 0 ≤ q.fNodes ∧ q.fNodes ≤ r.fNodes + nTs ((f.fHatches.take i).map (·.fTerm))) (fun i q hi hI => by
    have hn := hat_nodes hi
    have hw := w1L hi hl
    have hi1 : (i : Int) < (f.fHatches.length : Int) := by omega
    have hi0 : (0 : Int) ≤ (i : Int) := by omega
    have hn2 : nTs ((f.fHatches.take (i + 1)).map (·.fTerm)) = nTs ((f.fHatches.take i).map (·.fTerm)) + nT f.fHatches[i]!.fTerm := by
      rw [take_succL hi, List.map_append, nTs_app]
      simp [nTs]
    have ha : ((f.fHatches.take (i + 1)).any fun h => decide (12 < dT h.fTerm)) = (((f.fHatches.take i).any fun h => decide (12 < dT h.fTerm)) || decide (12 < dT f.fHatches[i]!.fTerm)) := by
      rw [take_succL hi, List.any_append, List.any_cons, List.any_nil, Bool.or_false]
    rw [ha, hn2]
    obtain ⟨q1, q2, q3⟩ := hI
    cases ho : overM q with
    | true =>
      refine ⟨q, ?_, ?_, q2, by omega⟩
      · unfold n136_0
        dsimp only
        simp only [Int.toNat_natCast, hi1, hi0, decide_true, cond_true, cond_false, and_self, if_true, m208_eq, ho, hw]
      · unfold overM at ho
        rw [decide_eq_false (show ¬ 1024 < q.fNodes by omega), Bool.or_false] at ho
        rw [← Bool.or_assoc, ← q1, ho]
        rfl
    | false =>
      obtain ⟨c1, c2, c3⟩ := msT_ok f.fHatches[i]!.fTerm 1 q (by omega) q2 (by omega)
      have k := r209_eq f.fHatches[i]!.fTerm 1 q (by omega) (by omega) q2 (by omega)
      refine ⟨msT f.fHatches[i]!.fTerm 1 q, ?_, ?_, by omega, by omega⟩
      · unfold n136_0
        dsimp only
        simp only [Int.toNat_natCast, GTerm.eta, hi1, hi0, decide_true, cond_true, cond_false, and_self, if_true, m208_eq, ho, hw, k]
      · rw [c1, q1, Bool.or_assoc]
        rw [show decide (12 < 1 - 1 + dT f.fHatches[i]!.fTerm) = decide (12 < dT f.fHatches[i]!.fTerm) from decide_eq_decide.2 (by omega)]) (fun q _ => by unfold n136_0; simp) (b := r) ⟨by simp, p2, by simp [nTs]⟩
  have e1' : a136_0 ⟨f.fHatches, (f.fHatches.length : Int), 0, f, r⟩ = some ⟨f.fHatches, (f.fHatches.length : Int), (f.fHatches.length : Int), f, q⟩ := e1
  refine ⟨q, p4, e1', ?_⟩
  rw [List.take_length] at hI
  obtain ⟨q1, q2, q3⟩ := hI
  unfold overM
  rw [decide_eq_false (show ¬ 1024 < q.fNodes by omega), Bool.or_false, q1, p1]
  have e2 : (f.fHatches.any fun h => decide (12 < dT h.fTerm)) = !(f.fHatches.all fun h => decide (dT h.fTerm ≤ 12)) := by
    rw [List.not_all_eq_any_not]
    congr 1
    funext h
    by_cases hd : dT h.fTerm ≤ 12
    · simp [hd]
    · simp [hd]; omega
  have e3 : decide (12 < 1 - 1 + dSs f.fBody) = !decide (dSs f.fBody ≤ 12) := by
    by_cases hd : dSs f.fBody ≤ 12
    · simp [hd]
    · simp [hd]; omega
  rw [e2, e3]
  generalize (f.fHatches.all fun h => decide (dT h.fTerm ≤ 12)) = x
  generalize decide (dSs f.fBody ≤ 12) = y
  generalize tDeep f.fBody = z
  cases x <;> cases y <;> cases z <;> rfl
def SOk : List GStep → Prop
 | [] => True
 | s :: l => (0 ≤ s.fCost ∧ s.fCost ≤ 67108864) ∧ (s.fDo = 4 → 0 ≤ s.fN ∧ s.fN ≤ 4096) ∧ (s.fDo ≠ 3 → s.fDo ≠ 4 → s.fThen = []) ∧ (s.fDo ≠ 3 → s.fElse = []) ∧ SOk s.fThen ∧ SOk s.fElse ∧ SOk l
termination_by l => SizeOf.sizeOf l
decreasing_by
  · exact (sizeOf_then (List.mem_cons_self ..)).1
  · exact (sizeOf_then (List.mem_cons_self ..)).2
  · exact size_tail _ _
theorem num_bd {s : GStep} (h : numB s = true) : (0 ≤ s.fCost ∧ s.fCost ≤ 67108864) ∧ (s.fDo = 4 → 0 ≤ s.fN ∧ s.fN ≤ 4096) := by
 unfold numB at h
 simp only [Bool.and_eq_true, decide_eq_true_eq] at h
 grind
theorem SOk_of (f : Flat) : ∀ (n : Nat) (l : List GStep) (top : Bool), SizeOf.sizeOf l < n → stepC f top l = 0 → SOk l
  | 0, _, _, h, _ => by omega
  | n + 1, [], top, h, hc => by rw [SOk]; trivial
  | n + 1, s :: l, top, h, hc => by
    rw [stepC] at hc
    have hz := sizeOf_then (l := s :: l) (List.mem_cons_self ..)
    have hz2 := size_tail s l
    by_cases h1 : ownC f (top && l.isEmpty) s ≠ 0
    · rw [if_pos h1] at hc; exact absurd hc h1
    rw [if_neg h1] at hc
    by_cases h2 : stepC f false s.fThen ≠ 0
    · rw [if_pos h2] at hc; exact absurd hc h2
    rw [if_neg h2] at hc
    by_cases h3 : stepC f false s.fElse ≠ 0
    · rw [if_pos h3] at hc; exact absurd hc h3
    rw [if_neg h3] at hc
    have q1 := SOk_of f n s.fThen false (by omega) (by omega)
    have q2 := SOk_of f n s.fElse false (by omega) (by omega)
    have q3 := SOk_of f n l top (by omega) hc
    have h1 : ownC f (top && l.isEmpty) s = 0 := by omega
    unfold ownC at h1
    cases hS : shapeB f s (top && l.isEmpty) with
    | false => rw [hS] at h1; simp at h1
    | true =>
      rw [hS] at h1
      cases hN : numB s with
      | false => rw [hN] at h1; simp at h1
      | true =>
        obtain ⟨n1, n2⟩ := num_bd hN
        obtain ⟨b1, b2, b3, b4, b5⟩ := shape_bounds hS
        rw [SOk]
        exact ⟨n1, n2, b3, b4, q1, q2, q3⟩
def uS1 (s : GStep) (a b : Int × Int × Int) : Int × Int × Int :=
 if s.fDo = 1 then (1, 1, s.fCost)
 else if s.fDo = 3 then (1 + max a.1 b.1, max a.2.1 b.2.1, s.fCost + max a.2.2 b.2.2)
 else if s.fDo = 4 then (1 + s.fN * (1 + a.1), s.fN * a.2.1, s.fN * (s.fCost + a.2.2))
 else (1, 0, s.fCost)
def add3 (a b : Int × Int × Int) : Int × Int × Int := (a.1 + b.1, a.2.1 + b.2.1, a.2.2 + b.2.2)
theorem uSs_cons (s : GStep) (l : List GStep) : uSs (s :: l) = add3 (uS1 s (uSs s.fThen) (uSs s.fElse)) (uSs l) := by
  rw [uSs]
  unfold uS1 add3
  dsimp only
  split
  · rfl
  · split
    · rfl
    · split
      · rfl
      · simp
theorem uSs_snoc (l : List GStep) (s : GStep) : uSs (l ++ [s]) = add3 (uSs l) (uS1 s (uSs s.fThen) (uSs s.fElse)) := by
 have h0 : uSs [] = (0, 0, 0) := by rw [uSs]
 induction l with
 | nil => rw [List.nil_append, uSs_cons, h0]; unfold add3; simp
 | cons a l ih =>
  rw [List.cons_append, uSs_cons, uSs_cons, ih]
  unfold add3
  simp only [Int.add_assoc]
def cut3 (c : Int × Int × Int) (a : Int × Int × Int) : Int × Int × Int := (min a.1 c.1, min a.2.1 c.2.1, min a.2.2 c.2.2)
theorem min_mul {n x c k : Int} (hn : 0 ≤ n) (hk : 0 ≤ k) (hx : 0 ≤ x) (hc : 0 ≤ c) : min (n * (k + min x c)) c = min (n * (k + x)) c := by
  by_cases h : x ≤ c
  · rw [Int.min_eq_left h]
  · rw [Int.min_eq_right (show c ≤ x by omega)]
    by_cases h0 : n = 0
    · subst h0; simp
    · have e1 : 1 * (k + c) ≤ n * (k + c) := Int.mul_le_mul_of_nonneg_right (by omega) (by omega)
      have e2 : 1 * (k + x) ≤ n * (k + x) := Int.mul_le_mul_of_nonneg_right (by omega) (by omega)
      rw [Int.min_eq_right (by omega), Int.min_eq_right (by omega)]
theorem SOk_mem : ∀ {l : List GStep}, SOk l → ∀ s ∈ l, (0 ≤ s.fCost ∧ s.fCost ≤ 67108864) ∧ (s.fDo = 4 → 0 ≤ s.fN ∧ s.fN ≤ 4096) ∧ (s.fDo ≠ 3 → s.fDo ≠ 4 → s.fThen = []) ∧ (s.fDo ≠ 3 → s.fElse = []) ∧ SOk s.fThen ∧ SOk s.fElse
  | [], _, s, hs => by cases hs
  | a :: l, h, s, hs => by
    rw [SOk] at h
    rcases List.mem_cons.1 hs with rfl | hs
    · exact ⟨h.1, h.2.1, h.2.2.1, h.2.2.2.1, h.2.2.2.2.1, h.2.2.2.2.2.1⟩
    · exact SOk_mem h.2.2.2.2.2.2 s hs
def nn3 (a : Int × Int × Int) : Prop := 0 ≤ a.1 ∧ 0 ≤ a.2.1 ∧ 0 ≤ a.2.2
theorem uS1_nn {s : GStep} {a b : Int × Int × Int} (hc : 0 ≤ s.fCost) (hN : s.fDo = 4 → 0 ≤ s.fN) (ha : nn3 a) (hb : nn3 b) : nn3 (uS1 s a b) := by
  unfold nn3 at *
  unfold uS1
  split
  · exact ⟨Int.le_of_lt (by decide : (0 : Int) < 1), Int.le_of_lt (by decide : (0 : Int) < 1), hc⟩
  · split
    · dsimp only; omega
    · split
      · rename_i h4
        have := hN h4
        have e1 : 0 ≤ s.fN * (1 + a.1) := Int.mul_nonneg this (by omega)
        have e2 : 0 ≤ s.fN * a.2.1 := Int.mul_nonneg this (by omega)
        have e3 : 0 ≤ s.fN * (s.fCost + a.2.2) := Int.mul_nonneg this (by omega)
        dsimp only; omega
      · exact ⟨Int.le_of_lt (by decide : (0 : Int) < 1), Int.le_refl (0 : Int), hc⟩
theorem uSs_nn : ∀ (n : Nat) (l : List GStep), SizeOf.sizeOf l < n → SOk l → nn3 (uSs l)
 | 0, _, h, _ => by omega
 | n + 1, [], h, _ => by rw [show uSs [] = (0, 0, 0) by rw [uSs]]; exact ⟨by decide, by decide, by decide⟩
 | n + 1, s :: l, h, ho => by
  have hz := sizeOf_then (l := s :: l) (List.mem_cons_self ..)
  have hz2 := size_tail s l
  rw [SOk] at ho
  have q1 := uSs_nn n s.fThen (by omega) ho.2.2.2.2.1
  have q2 := uSs_nn n s.fElse (by omega) ho.2.2.2.2.2.1
  have q3 := uSs_nn n l (by omega) ho.2.2.2.2.2.2
  have q4 := uS1_nn ho.1.1 (fun h => (ho.2.1 h).1) q1 q2
  rw [uSs_cons]
  unfold nn3 add3 at *
  dsimp only
  omega
theorem uSs_nn' {l : List GStep} (h : SOk l) : nn3 (uSs l) := uSs_nn _ l (Nat.lt_succ_self _) h
theorem SOk_take : ∀ {l : List GStep} (i : Nat), SOk l → SOk (l.take i)
 | [], i, h => by rw [List.take_nil]; exact h
 | s :: l, 0, h => by rw [List.take_zero, SOk]; trivial
 | s :: l, i + 1, h => by
  rw [SOk] at h
  rw [List.take_succ_cons, SOk]
  exact ⟨h.1, h.2.1, h.2.2.1, h.2.2.2.1, h.2.2.2.2.1, h.2.2.2.2.2.1, SOk_take i h.2.2.2.2.2.2⟩
def M3 (a : Int × Int × Int) : Most := ⟨a.1, a.2.1, a.2.2⟩
def big3 : Int × Int × Int := (1099511627776, 1099511627776, 1099511627776)
def lim3 : Int × Int × Int := (4097, 9, 67108865)
theorem mul_bd2 {n x : Int} (h1 : 0 ≤ n) (h2 : n ≤ 4096) (h3 : 0 ≤ x) (h4 : x ≤ 1200000000000) : 0 ≤ n * x ∧ n * x ≤ 4915200000000000 := by
 have e1 : n * x ≤ 4096 * x := Int.mul_le_mul_of_nonneg_right h2 h3
 have e2 : 0 ≤ n * x := Int.mul_nonneg h1 h3
 omega
theorem ifmin1 (w c : Int) : (if c < w then c else w) = min w c := by omega
theorem ifmin2 (w c : Int) : (if w < c then w else c) = min w c := by omega
theorem maxcut (a b c : Int) : (if min a c < min b c then min b c else min a c) = min (max a b) c := by omega
theorem maxcut2 (a b c : Int) : (if min b c < min a c then min a c else min b c) = min (max a b) c := by omega
section
variable {C x y m k n a : Int} (h0 : 0 ≤ C) (h1 : C ≤ 1099511627776) (hx : 0 ≤ x)
include h0 h1 hx
theorem cutA (hy : 0 ≤ y) (hy2 : y ≤ 67108864) : min (i64.wrap (min x C + y)) C = min (x + y) C := by
 rw [wrap_id (by omega) (by omega)]
 omega
theorem cutB (hm : 0 ≤ m) (hk : 0 ≤ k) (hk2 : k ≤ 67108864) : min (i64.wrap (min x C + i64.wrap (k + min m C))) C = min (x + (k + m)) C := by
 have : i64.wrap (k + min m C) = k + min m C := wrap_id (by omega) (by omega)
 rw [this, wrap_id (by omega) (by omega)]
 omega
theorem cutB0 (hm : 0 ≤ m) : min (i64.wrap (min x C + min m C)) C = min (x + m) C := by
 rw [wrap_id (by omega) (by omega)]
 omega
theorem cutY {z : Int} (hz : 0 ≤ z) (hy : 0 ≤ y) (hy2 : y ≤ 4915200000000001) (h : min y C = min z C) : min (i64.wrap (min x C + y)) C = min (x + z) C := by
 rw [wrap_id (by omega) (by omega)]
 omega
omit hx in
theorem cutNk (hn : 0 ≤ n) (hn2 : n ≤ 4096) (ha : 0 ≤ a) (hk : 0 ≤ k) (hk2 : k ≤ 67108864) : i64.wrap (n * i64.wrap (k + min a C)) = n * (k + min a C) ∧ 0 ≤ n * (k + min a C) ∧ n * (k + min a C) ≤ 4915200000000000 ∧ 0 ≤ n * (k + a) ∧ min (n * (k + min a C)) C = min (n * (k + a)) C := by
 have e1 : i64.wrap (k + min a C) = k + min a C := wrap_id (by omega) (by omega)
 have e2 := mul_bd2 (x := k + min a C) hn hn2 (by omega) (by omega)
 rw [e1]
 exact ⟨wrap_id (by omega) (by omega), e2.1, e2.2, Int.mul_nonneg hn (by omega), min_mul hn hk ha h0⟩
theorem cutN (hn : 0 ≤ n) (hn2 : n ≤ 4096) (ha : 0 ≤ a) (hk : 0 ≤ k) (hk2 : k ≤ 67108864) : min (i64.wrap (min x C + i64.wrap (n * i64.wrap (k + min a C)))) C = min (x + n * (k + a)) C := by
 obtain ⟨q1, q2, q3, q4, q5⟩ := cutNk h0 h1 hn hn2 ha hk hk2
 rw [q1]
 exact cutY h0 h1 hx q4 q2 (by omega) q5
theorem cutN1 (hn : 0 ≤ n) (hn2 : n ≤ 4096) (ha : 0 ≤ a) : min (i64.wrap (min x C + i64.wrap (1 + i64.wrap (n * i64.wrap (1 + min a C))))) C = min (x + (1 + n * (1 + a))) C := by
 obtain ⟨q1, q2, q3, q4, q5⟩ := cutNk (k := 1) h0 h1 hn hn2 ha (by omega) (by omega)
 rw [q1]
 generalize n * (1 + min a C) = y at *
 generalize n * (1 + a) = z at *
 rw [show i64.wrap (1 + y) = 1 + y from wrap_id (by omega) (by omega)]
 exact cutY h0 h1 hx (by omega) (by omega) (by omega) (by omega)
theorem cutN0 (hn : 0 ≤ n) (hn2 : n ≤ 4096) (ha : 0 ≤ a) : min (i64.wrap (min x C + i64.wrap (n * min a C))) C = min (x + n * a) C := by
 obtain ⟨q1, q2, q3, q4, q5⟩ := cutNk (k := 0) h0 h1 hn hn2 ha (by omega) (by omega)
 rw [Int.zero_add] at q2 q3 q4 q5
 rw [Int.zero_add] at q5
 rw [show i64.wrap (n * min a C) = n * min a C from wrap_id (by omega) (by omega)]
 exact cutY h0 h1 hx q4 q2 (by omega) q5
end
theorem s213_eq (M : List GStep → Option E213) (l : List GStep) (hl : l.length ≤ 1000000) (ho : SOk l) (hM : ∀ s ∈ l, M s.fThen = some (M3 (cut3 big3 (uSs s.fThen))) ∧ M s.fElse = some (M3 (cut3 big3 (uSs s.fElse)))) : s213 M l = some (M3 (cut3 big3 (uSs l))) := by
  obtain ⟨v, e1, hv⟩ := loopI (rnd := n213_0 M) l.length (fun i (b : Most) => ⟨l, (l.length : Int), (i : Int), ⟨0, 0, 0⟩, b⟩) (fun i b => b = M3 (cut3 big3 (uSs (l.take i)))) (fun i bb hi hb => by
    have hw := w1L hi hl
    obtain ⟨k1, k2⟩ := hM _ (get_memL hi)
    obtain ⟨⟨c1, c2⟩, hN, _, _, o1, o2⟩ := SOk_mem ho _ (get_memL hi)
    obtain ⟨x1, x2, x3⟩ := uSs_nn' (SOk_take i ho)
    obtain ⟨a1, a2, a3⟩ := uSs_nn' o1
    obtain ⟨b1, b2, b3⟩ := uSs_nn' o2
    refine ⟨M3 (cut3 big3 (uSs (l.take (i + 1)))), ?_, rfl⟩
    have hi1 : (i : Int) < (l.length : Int) := by omega
    have hi0 : (0 : Int) ≤ (i : Int) := by omega
    rw [take_succL hi, uSs_snoc]
    generalize uSs (l.take i) = x at *
    generalize uSs l[i]!.fThen = a at *
    generalize uSs l[i]!.fElse = b at *
    obtain ⟨X1, X2, X3⟩ := x
    obtain ⟨A1, A2, A3⟩ := a
    obtain ⟨B1, B2, B3⟩ := b
    have hb : bb = ⟨min X1 1099511627776, min X2 1099511627776, min X3 1099511627776⟩ := hb
    have k1 : M l[i]!.fThen = some ⟨min A1 1099511627776, min A2 1099511627776, min A3 1099511627776⟩ := k1
    have k2 : M l[i]!.fElse = some ⟨min B1 1099511627776, min B2 1099511627776, min B3 1099511627776⟩ := k2
    subst hb
    have z0 : (0 : Int) ≤ 1099511627776 := by decide
    have z1 : (1099511627776 : Int) ≤ 1099511627776 := by decide
    dsimp only at x1 x2 x3 a1 a2 a3 b1 b2 b3
    unfold n213_0
    dsimp only
    simp only [Int.toNat_natCast, hi1, hi0, decide_true, cond_true, and_self, if_true, k1, k2, hw]
    by_cases h1 : l[i]!.fDo = 1
    · have e : uS1 l[i]! (A1, A2, A3) (B1, B2, B3) = (1, 1, l[i]!.fCost) := by unfold uS1; rw [if_pos h1]
      rw [decide_eq_true h1, cond_true, e, ifmin1, ifmin1, ifmin1, cutA z0 z1 x1 (by omega) (by omega), cutA z0 z1 x2 (by omega) (by omega), cutA z0 z1 x3 c1 c2]
      rfl
    · rw [decide_eq_false h1, cond_false]
      by_cases h3 : l[i]!.fDo = 3
      · have e : uS1 l[i]! (A1, A2, A3) (B1, B2, B3) = (1 + max A1 B1, max A2 B2, l[i]!.fCost + max A3 B3) := by unfold uS1; rw [if_neg h1, if_pos h3]
        rw [decide_eq_true h3, cond_true, e, maxcut, maxcut, maxcut, ifmin1, ifmin1, ifmin1, cutB z0 z1 x1 (by omega) (by omega) (by omega), cutB0 z0 z1 x2 (by omega), cutB z0 z1 x3 (by omega) c1 c2]
        rfl
      · rw [decide_eq_false h3, cond_false]
        by_cases h4 : l[i]!.fDo = 4
        · obtain ⟨n1, n2⟩ := hN h4
          have e : uS1 l[i]! (A1, A2, A3) (B1, B2, B3) = (1 + l[i]!.fN * (1 + A1), l[i]!.fN * A2, l[i]!.fN * (l[i]!.fCost + A3)) := by unfold uS1; rw [if_neg h1, if_neg h3, if_pos h4]
          rw [decide_eq_true h4, cond_true, e, ifmin1, ifmin1, ifmin1, cutN1 z0 z1 x1 n1 n2 a1, cutN0 z0 z1 x2 n1 n2 a2, cutN z0 z1 x3 n1 n2 a3 c1 c2]
          rfl
        · have e : uS1 l[i]! (A1, A2, A3) (B1, B2, B3) = (1, 0, l[i]!.fCost) := by unfold uS1; rw [if_neg h1, if_neg h3, if_neg h4]
          rw [decide_eq_false h4, cond_false, e, ifmin1, ifmin1, ifmin1, cutA z0 z1 x1 (by omega) (by omega), cutA z0 z1 x2 (by omega) (by omega), cutA z0 z1 x3 c1 c2]
          rfl) (fun b _ => by unfold n213_0; simp) (b := ⟨0, 0, 0⟩) (by rw [List.take_zero, show uSs [] = (0, 0, 0) by rw [uSs]]; rfl)
  have e1' : a213_0 M ⟨l, (l.length : Int), 0, ⟨0, 0, 0⟩, ⟨0, 0, 0⟩⟩ = some ⟨l, (l.length : Int), (l.length : Int), ⟨0, 0, 0⟩, v⟩ := e1
  unfold s213
  rw [e1']
  rw [List.take_length] at hv
  rw [hv]
  simp
theorem m213_eq : ∀ (n : Nat) (l : List GStep), SizeOf.sizeOf l < n → nSs l ≤ 1000 → SOk l → m213 n l = some (M3 (cut3 big3 (uSs l)))
 | 0, _, h, _, _ => by omega
 | n + 1, l, h, h2, ho => s213_eq (m213 n) l (by have := nSs_len l; omega) ho (fun s hs => ⟨m213_eq n _ (by have := sizeOf_then hs; omega) (by have := then_le hs; omega) (SOk_mem ho s hs).2.2.2.2.1, m213_eq n _ (by have := sizeOf_then hs; omega) (by have := then_le hs; omega) (SOk_mem ho s hs).2.2.2.2.2⟩)
theorem r213_eq (l : List GStep) (h : nSs l ≤ 1000) (ho : SOk l) : r213 l = some (M3 (cut3 big3 (uSs l))) := lim_eq (SizeOf.sizeOf l + 1) fun n hn => m213_eq n l (by omega) h ho
theorem s90_eq (M : List GStep → Option E90) (l : List GStep) (hl : l.length ≤ 1000000) (ho : SOk l) (hM : ∀ s ∈ l, M s.fThen = some (cut3 lim3 (uSs s.fThen)) ∧ M s.fElse = some (cut3 lim3 (uSs s.fElse))) : s90 M l = some (cut3 lim3 (uSs l)) := by
  obtain ⟨v, e1, hv⟩ := loopI (rnd := n90_0 M) l.length (fun i (b : Int × Int × Int) => ⟨l, b.1, b.2.1, b.2.2, (i : Int)⟩) (fun i b => b = cut3 lim3 (uSs (l.take i))) (fun i bb hi hb => by
    have hw := w1L hi hl
    obtain ⟨k1, k2⟩ := hM _ (get_memL hi)
    obtain ⟨⟨c1, c2⟩, hN, hT, hE, o1, o2⟩ := SOk_mem ho _ (get_memL hi)
    obtain ⟨x1, x2, x3⟩ := uSs_nn' (SOk_take i ho)
    obtain ⟨a1, a2, a3⟩ := uSs_nn' o1
    obtain ⟨b1, b2, b3⟩ := uSs_nn' o2
    have zT : l[i]!.fDo ≠ 3 → l[i]!.fDo ≠ 4 → uSs l[i]!.fThen = (0, 0, 0) := fun h3 h4 => by rw [hT h3 h4, uSs]
    have zE : l[i]!.fDo ≠ 3 → uSs l[i]!.fElse = (0, 0, 0) := fun h3 => by rw [hE h3, uSs]
    refine ⟨cut3 lim3 (uSs (l.take (i + 1))), ?_, rfl⟩
    have hi1 : (i : Int) < (l.length : Int) := by omega
    have hi0 : (0 : Int) ≤ (i : Int) := by omega
    rw [take_succL hi, uSs_snoc]
    generalize uSs (l.take i) = x at *
    generalize uSs l[i]!.fThen = a at *
    generalize uSs l[i]!.fElse = b at *
    obtain ⟨X1, X2, X3⟩ := x
    obtain ⟨A1, A2, A3⟩ := a
    obtain ⟨B1, B2, B3⟩ := b
    have hb : bb = (min X1 4097, min X2 9, min X3 67108865) := hb
    have k1 : M l[i]!.fThen = some (min A1 4097, min A2 9, min A3 67108865) := k1
    have k2 : M l[i]!.fElse = some (min B1 4097, min B2 9, min B3 67108865) := k2
    subst hb
    have z0 : (0 : Int) ≤ 4097 := by decide
    have z1 : (4097 : Int) ≤ 1099511627776 := by decide
    have y0 : (0 : Int) ≤ 9 := by decide
    have y1 : (9 : Int) ≤ 1099511627776 := by decide
    have u0 : (0 : Int) ≤ 67108865 := by decide
    have u1 : (67108865 : Int) ≤ 1099511627776 := by decide
    dsimp only at x1 x2 x3 a1 a2 a3 b1 b2 b3
    unfold n90_0
    dsimp only
    simp only [Int.toNat_natCast, hi1, hi0, decide_true, cond_true, and_self, if_true, k1, k2, hw, m175_eq, m174_eq, ifmin2, maxcut2]
    by_cases h4 : l[i]!.fDo = 4
    · obtain ⟨n1, n2⟩ := hN h4
      have h1 : ¬ l[i]!.fDo = 1 := by omega
      have h3 : ¬ l[i]!.fDo = 3 := by omega
      have e : uS1 l[i]! (A1, A2, A3) (B1, B2, B3) = (1 + l[i]!.fN * (1 + A1), l[i]!.fN * A2, l[i]!.fN * (l[i]!.fCost + A3)) := by unfold uS1; rw [if_neg h1, if_neg h3, if_pos h4]
      rw [decide_eq_true h4, decide_eq_false h1, cond_true, cond_false, e, cutN1 z0 z1 x1 n1 n2 a1, cutN0 y0 y1 x2 n1 n2 a2, cutN u0 u1 x3 n1 n2 a3 c1 c2]
      rfl
    · rw [decide_eq_false h4, cond_false]
      by_cases h1 : l[i]!.fDo = 1
      · have h3 : ¬ l[i]!.fDo = 3 := by omega
        have ea := zT h3 h4
        have eb := zE h3
        cases ea
        cases eb
        have e : uS1 l[i]! (0, 0, 0) (0, 0, 0) = (1, 1, l[i]!.fCost) := by unfold uS1; rw [if_pos h1]
        rw [decide_eq_true h1, cond_true, e, cutB z0 z1 x1 (by omega) (by omega) (by omega), cutA y0 y1 x2 (by omega) (by omega), cutB u0 u1 x3 (by omega) c1 c2]
        simp only [cut3, lim3, add3, Int.max_self, Int.add_zero]
      · rw [decide_eq_false h1, cond_false, cutB z0 z1 x1 (by omega) (by omega) (by omega), cutB0 y0 y1 x2 (by omega), cutB u0 u1 x3 (by omega) c1 c2]
        by_cases h3 : l[i]!.fDo = 3
        · have e : uS1 l[i]! (A1, A2, A3) (B1, B2, B3) = (1 + max A1 B1, max A2 B2, l[i]!.fCost + max A3 B3) := by unfold uS1; rw [if_neg h1, if_pos h3]
          rw [e]
          rfl
        · have ea := zT h3 h4
          have eb := zE h3
          cases ea
          cases eb
          have e : uS1 l[i]! (0, 0, 0) (0, 0, 0) = (1, 0, l[i]!.fCost) := by unfold uS1; rw [if_neg h1, if_neg h3, if_neg h4]
          rw [e]
          simp only [cut3, lim3, add3, Int.max_self, Int.add_zero]) (fun b _ => by unfold n90_0; simp) (b := (0, 0, 0)) (by rw [List.take_zero, show uSs [] = (0, 0, 0) by rw [uSs]]; rfl)
  have e1' : a90_0 M ⟨l, 0, 0, 0, 0⟩ = some ⟨l, v.1, v.2.1, v.2.2, (l.length : Int)⟩ := e1
  unfold s90
  rw [e1']
  rw [List.take_length] at hv
  rw [hv]
  simp
theorem m90_eq : ∀ (n : Nat) (l : List GStep), SizeOf.sizeOf l < n → nSs l ≤ 1000 → SOk l → m90 n l = some (cut3 lim3 (uSs l))
 | 0, _, h, _, _ => by omega
 | n + 1, l, h, h2, ho => s90_eq (m90 n) l (by have := nSs_len l; omega) ho (fun s hs => ⟨m90_eq n _ (by have := sizeOf_then hs; omega) (by have := then_le hs; omega) (SOk_mem ho s hs).2.2.2.2.1, m90_eq n _ (by have := sizeOf_then hs; omega) (by have := then_le hs; omega) (SOk_mem ho s hs).2.2.2.2.2⟩)
theorem r90_eq (l : List GStep) (h : nSs l ≤ 1000) (ho : SOk l) : r90 l = some (cut3 lim3 (uSs l)) := lim_eq (SizeOf.sizeOf l + 1) fun n hn => m90_eq n l (by omega) h ho
theorem m136_eq (f : Flat) (h : nSs f.fBody + nTs (f.fHatches.map (·.fTerm)) ≤ 900) (hh : f.fHatches.length ≤ 1000000) (hvl : f.fVars.length ≤ 1000000) : m136 f = some (chk f) := by
  obtain ⟨r, q, e1, e2, e3⟩ := sizes56 f h hh
  unfold m136 chk
  rw [e1]
  dsimp only
  rw [e2]
  dsimp only
  rw [decide_eq_false (show ¬ ((f.fHatches.length : Int) < (f.fHatches.length : Int)) by omega), cond_false, m208_eq, e3]
  unfold sizesB
  generalize (f.fHatches.all fun h => decide (dT h.fTerm ≤ 12)) = x
  generalize decide (dSs f.fBody ≤ 12) = y
  generalize tDeep f.fBody = z
  by_cases h1 : 64 < (f.fVars.length : Int)
  · simp [h1, show ¬ f.fVars.length ≤ 64 by omega]
  by_cases h2 : 8 < (f.fHatches.length : Int)
  · simp [h1, h2, show ¬ f.fHatches.length ≤ 8 by omega]
  rw [decide_eq_false h1, decide_eq_false h2, decide_eq_true (show f.fVars.length ≤ 64 by omega), decide_eq_true (show f.fHatches.length ≤ 8 by omega)]
  dsimp only [cond_false, Bool.true_and]
  simp only [Bool.true_and]
  cases hx : (x && y && !z) with
  | false => rfl
  | true =>
    rw [m210_eq f.fVars hvl]
    dsimp only [Bool.not_true, cond_false]
    rw [if_neg (by decide)]
    by_cases hvc : varsC f.fVars = 0
    case neg => simp [hvc]
    have hv : VarsOk f.fVars := by
      apply varsOk_of
      unfold varsC at hvc
      by_cases h0 : firstC (varC f.fVars) f.fVars 0 = 0
      · exact h0
      · rw [if_pos h0] at hvc; exact absurd hvc h0
    rw [decide_eq_true hvc, cond_true, cond_false, if_neg (by simpa using hvc), m211_eq f hv hh]
    dsimp only
    by_cases hhc : firstC (hatC f) f.fHatches 0 = 0
    case neg => simp [hhc]
    rw [decide_eq_true hhc, cond_true, cond_false, if_neg (by simpa using hhc), r212_eq f hv f.fBody true (by omega)]
    dsimp only
    by_cases hsc : stepC f true f.fBody = 0
    case neg => simp [hsc]
    have ho : SOk f.fBody := SOk_of f _ f.fBody true (Nat.lt_succ_self _) hsc
    rw [decide_eq_true hsc, cond_true, cond_false, if_neg (by simpa using hsc)]
    have e := r213_eq f.fBody (by omega) ho
    unfold overB
    generalize uSs f.fBody = u at e ⊢
    obtain ⟨a, b, c⟩ := u
    have e : r213 f.fBody = some ⟨min a 1099511627776, min b 1099511627776, min c 1099511627776⟩ := e
    rw [e]
    dsimp only
    by_cases a1 : 4096 < a
    · simp [a1, show 4096 < min a 1099511627776 by omega]
    · by_cases b1 : 8 < b
      · simp [a1, b1, show ¬ 4096 < min a 1099511627776 by omega, show 8 < min b 1099511627776 by omega]
      · by_cases d1 : 67108864 < c
        · simp [a1, b1, d1, show ¬ 4096 < min a 1099511627776 by omega, show ¬ 8 < min b 1099511627776 by omega, show 67108864 < min c 1099511627776 by omega]
        · simp [a1, b1, d1, show ¬ 4096 < min a 1099511627776 by omega, show ¬ 8 < min b 1099511627776 by omega, show ¬ 67108864 < min c 1099511627776 by omega]
theorem m78_eq (f : Flat) (h : nSs f.fBody + nTs (f.fHatches.map (·.fTerm)) ≤ 900) (hh : f.fHatches.length ≤ 1000000) (hvl : f.fVars.length ≤ 1000000) : m78 f = some (chk f) := by
  unfold m78 chk
  rw [m138_eq f h hh]
  dsimp only
  cases hx : sizesB f with
  | false => rfl
  | true =>
    rw [m139_eq f.fVars hvl]
    dsimp only [cond_true, cond_false]
    rw [if_neg (by decide)]
    by_cases hvc : varsC f.fVars = 0
    case neg => simp [hvc]
    have hv : VarsOk f.fVars := by
      apply varsOk_of
      unfold varsC at hvc
      by_cases h0 : firstC (varC f.fVars) f.fVars 0 = 0
      · exact h0
      · rw [if_pos h0] at hvc; exact absurd hvc h0
    obtain ⟨i, e1, hc⟩ := a78_0_eq f hv hh
    rw [decide_eq_true hvc, cond_true, cond_false, if_neg (by simpa using hvc), e1]
    dsimp only
    rcases hc with ⟨rfl, hc⟩ | ⟨hi, h0, hc⟩
    · rw [if_neg (show ¬ (firstC (hatC f) f.fHatches 0 ≠ 0) by rw [hc]; simp), decide_eq_false (show ¬ ((f.fHatches.length : Int) < (f.fHatches.length : Int)) by omega), cond_false, r143_eq f hv f.fBody true (by omega)]
      dsimp only
      by_cases hsc : stepC f true f.fBody = 0
      case neg => simp [hsc]
      have ho : SOk f.fBody := SOk_of f _ f.fBody true (Nat.lt_succ_self _) hsc
      rw [decide_eq_true hsc, cond_true, cond_false, if_neg (show ¬ (stepC f true f.fBody ≠ 0) by rw [hsc]; simp)]
      have e := r90_eq f.fBody (by omega) ho
      unfold overB
      generalize uSs f.fBody = u at e ⊢
      obtain ⟨a, b, c⟩ := u
      have e : r90 f.fBody = some (min a 4097, min b 9, min c 67108865) := e
      rw [e]
      dsimp only
      by_cases a1 : 4096 < a
      · simp [a1, show 4096 < min a 4097 by omega]
      · by_cases b1 : 8 < b
        · simp [a1, b1, show ¬ 4096 < min a 4097 by omega, show 8 < min b 9 by omega]
        · by_cases d1 : 67108864 < c
          · simp [a1, b1, d1, show ¬ 4096 < min a 4097 by omega, show ¬ 8 < min b 9 by omega, show 67108864 < min c 67108865 by omega]
          · simp [a1, b1, d1, show ¬ 4096 < min a 4097 by omega, show ¬ 8 < min b 9 by omega, show ¬ 67108864 < min c 67108865 by omega]
    · obtain ⟨j, h2, h3⟩ := a78_1_eq f hh i (by omega) f.fHatches[i]!
      rw [if_pos (show firstC (hatC f) f.fHatches 0 ≠ 0 by rw [hc]; exact h0), hc]
      have hi1 : (i : Int) < (f.fHatches.length : Int) := by omega
      have hi0 : (0 : Int) ≤ (i : Int) := by omega
      revert h0
      unfold hatC
      simp only [Int.toNat_natCast, GTerm.eta, Hatch.eta, m141_eq, m140_eq, h2, m142_eq f.fVars hv, hi0, hi1, and_self, if_true, decide_true, cond_true]
      generalize nameB f.fHatches[i]!.fName = B
      generalize ((f.fHatches.take i).any fun w => w.fName.toList == f.fHatches[i]!.fName.toList) = A at h3
      generalize boundB f.fHatches[i]!.fLow f.fHatches[i]!.fHigh = C
      generalize termC f.fVars true f.fHatches[i]!.fTerm = T
      rcases h3 with ⟨rfl, rfl⟩ | ⟨hj, h4, rfl⟩
      · cases B <;> cases C <;> by_cases hT : T = 0 <;> simp [hT]
      · have hj1 : (j : Int) < (i : Int) := by omega
        have hj2 : (j : Int) < (f.fHatches.length : Int) := by omega
        have hj0 : (0 : Int) ≤ (j : Int) := by omega
        simp only [hj0, hj1, hj2, h4, and_self, if_true, decide_true, cond_true]
        cases B <;> simp
theorem chk_vars {f : Flat} (h : chk f = 0) : VarsOk f.fVars := by
  unfold chk at h
  by_cases h1 : sizesB f = false
  · rw [if_pos h1] at h; exact absurd h (by decide)
  rw [if_neg h1] at h
  by_cases hvc : varsC f.fVars = 0
  · apply varsOk_of
    unfold varsC at hvc
    by_cases h0 : firstC (varC f.fVars) f.fVars 0 = 0
    · exact h0
    · rw [if_pos h0] at hvc; exact absurd hvc h0
  · rw [if_pos hvc] at h; exact absurd h hvc
end Go.Proofs.YtnfljbehcffmcaaGreat
end
noncomputable section
namespace Go.Proofs.YtnfljbehcffmcaaGreat
open Go Go.Iv
structure CS where
 vals : List Int
 outs : List Int
 time : Int
def settI : List Int → Int → Int
 | [], t => t
 | b :: l, t => if t ≤ b then b else settI l t
def setI (f : Flat) (s : CS) (v n : Int) : CS := ⟨s.vals.set v.toNat (heldI n f.fVars[v.toNat]!.fLow f.fVars[v.toNat]!.fHigh), s.outs, s.time⟩
def CS.add (s : CS) (c : Int) : CS := ⟨s.vals, s.outs, s.time + c⟩
def rndC (body : CS → CS) (t : GTerm) (c : Int) : Nat → CS → CS
 | 0, s => s
 | n + 1, s => if valT s.vals t = 0 then s.add c else rndC body t c n (body (s.add c))
def stepO (f : Flat) (hv : List Int) (a b : CS → CS) (x : GStep) (s : CS) : CS :=
 if x.fDo = 4 then rndC a x.fTerm x.fCost x.fN.toNat s
 else if x.fDo = 0 then setI f (s.add x.fCost) x.fVar (valT s.vals x.fTerm)
 else if x.fDo = 1 then ⟨s.vals, s.outs ++ [valT s.vals x.fTerm], s.time + x.fCost⟩
 else if x.fDo = 5 then setI f (s.add x.fCost) x.fVar hv[x.fN.toNat]!
 else if x.fDo = 3 then (if valT s.vals x.fTerm ≠ 0 then a (s.add x.fCost) else b (s.add x.fCost))
 else if x.fDo = 6 then ⟨s.vals, s.outs, settI x.fBounds (s.time + x.fCost)⟩
 else s.add x.fCost
def runC (f : Flat) (hv : List Int) : List GStep → CS → CS
 | [], s => s
 | x :: l, s => runC f hv l (stepO f hv (fun s => runC f hv x.fThen s) (fun s => runC f hv x.fElse s) x s)
termination_by l => SizeOf.sizeOf l
decreasing_by
 all_goals first | exact (sizeOf_then (List.mem_cons_self ..)).1 | exact (sizeOf_then (List.mem_cons_self ..)).2 | exact size_tail _ _
theorem runC_nil (f : Flat) (hv : List Int) (s : CS) : runC f hv [] s = s := by rw [runC]
theorem runC_cons (f : Flat) (hv : List Int) (x : GStep) (l : List GStep) (s : CS) : runC f hv (x :: l) s = runC f hv l (stepO f hv (runC f hv x.fThen) (runC f hv x.fElse) x s) := by rw [runC]
theorem stepC_cons {f : Flat} {top : Bool} {x : GStep} {l : List GStep} (h : stepC f top (x :: l) = 0) : ownC f (top && l.isEmpty) x = 0 ∧ stepC f false x.fThen = 0 ∧ stepC f false x.fElse = 0 ∧ stepC f top l = 0 := by
  rw [stepC] at h
  split at h
  · exact absurd h ‹_›
  rename_i h1
  split at h
  · exact absurd h ‹_›
  rename_i h2
  split at h
  · exact absurd h ‹_›
  rename_i h3
  exact ⟨by simpa using h1, by simpa using h2, by simpa using h3, h⟩
structure StOk (f : Flat) (last : Bool) (x : GStep) : Prop where
 do_ : 0 ≤ x.fDo ∧ x.fDo ≤ 6
 cost : 0 ≤ x.fCost ∧ x.fCost ≤ 67108864
 n4 : x.fDo = 4 → 0 ≤ x.fN ∧ x.fN ≤ 4096
 var : x.fDo = 0 ∨ x.fDo = 5 → 0 ≤ x.fVar ∧ x.fVar < f.fVars.length
 n5 : x.fDo = 5 → 0 ≤ x.fN ∧ x.fN < f.fHatches.length
 last6 : x.fDo = 6 → last = true ∧ (1 ≤ x.fBounds.length ∧ x.fBounds.length ≤ 32) ∧ (0 : Int) ≤ x.fBounds[0]! ∧ riseB x.fBounds = true ∧ x.fBounds[x.fBounds.length - 1]! ≤ 67108864
 term : termC f.fVars false x.fTerm = 0
theorem stOk_of {f : Flat} {last : Bool} {x : GStep} (h : ownC f last x = 0) : StOk f last x := by
  unfold ownC at h
  by_cases h1 : shapeB f x last = false
  · rw [if_pos h1] at h; cases h
  rw [if_neg h1] at h
  by_cases h2 : numB x = false
  · rw [if_pos h2] at h; cases h
  rw [if_neg h2] at h
  have h1 : shapeB f x last = true := by simpa using h1
  have h2 : numB x = true := by simpa using h2
  unfold numB at h2
  simp only [Bool.and_eq_true, decide_eq_true_eq] at h2
  obtain ⟨⟨g1, g2⟩, g3⟩ := h2
  unfold shapeB localB at h1
  dsimp only at h1
  have hd : 0 ≤ x.fDo ∧ x.fDo ≤ 6 := by
    by_cases a0 : x.fDo = 0
    · omega
    by_cases a1 : x.fDo = 1
    · omega
    by_cases a2 : x.fDo = 2
    · omega
    by_cases a3 : x.fDo = 3
    · omega
    by_cases a4 : x.fDo = 4
    · omega
    by_cases a5 : x.fDo = 5
    · omega
    by_cases a6 : x.fDo = 6
    · omega
    · simp [a0, a1, a2, a3, a4, a5, a6] at h1
  refine ⟨hd, ⟨g1.1, ?_⟩, fun q => ?_, fun q => ?_, fun q => ?_, fun q => ?_, h⟩
  · have := g1.2
    split at this <;> omega
  · rw [if_pos q] at g2
    simpa using g2
  · rcases q with q | q
    · simp [q] at h1; omega
    · simp [q] at h1; omega
  · simp [q] at h1; omega
  · rw [if_pos q] at g3
    simp only [q, Int.reduceEq, if_true, if_false, Bool.and_eq_true, decide_eq_true_eq] at h1 g3
    exact ⟨h1.1.1.1.1.2, h1.2.1.1, h1.2.1.2, h1.2.2, g3⟩
theorem uSs_cns (x : GStep) (l : List GStep) : uSs (x :: l) =
  (if x.fDo = 1 then (1 + (uSs l).1, 1 + (uSs l).2.1, x.fCost + (uSs l).2.2)
   else if x.fDo = 3 then (1 + max (uSs x.fThen).1 (uSs x.fElse).1 + (uSs l).1, max (uSs x.fThen).2.1 (uSs x.fElse).2.1 + (uSs l).2.1, x.fCost + max (uSs x.fThen).2.2 (uSs x.fElse).2.2 + (uSs l).2.2)
   else if x.fDo = 4 then (1 + x.fN * (1 + (uSs x.fThen).1) + (uSs l).1, x.fN * (uSs x.fThen).2.1 + (uSs l).2.1, x.fN * (x.fCost + (uSs x.fThen).2.2) + (uSs l).2.2)
   else (1 + (uSs l).1, (uSs l).2.1, x.fCost + (uSs l).2.2)) := by rw [uSs]
theorem uSs_pos (f : Flat) : ∀ (n : Nat) (l : List GStep) (top : Bool), SizeOf.sizeOf l < n → stepC f top l = 0 → 0 ≤ (uSs l).2.1 ∧ 0 ≤ (uSs l).2.2
  | 0, _, _, h, _ => by omega
  | n + 1, [], _, _, _ => by rw [uSs]; exact ⟨Int.le_refl _, Int.le_refl _⟩
  | n + 1, x :: l, top, h, hc => by
    obtain ⟨h1, h2, h3, h4⟩ := stepC_cons hc
    have ho := stOk_of h1
    have hs := sizeOf_then (List.mem_cons_self (a := x) (l := l))
    have ht := size_tail x l
    have i1 := uSs_pos f n x.fThen false (by omega) h2
    have i2 := uSs_pos f n x.fElse false (by omega) h3
    have i3 := uSs_pos f n l top (by omega) h4
    have hcost := ho.cost
    rw [uSs_cns]
    by_cases a1 : x.fDo = 1
    · rw [if_pos a1]; dsimp only; omega
    by_cases a3 : x.fDo = 3
    · rw [if_neg a1, if_pos a3]; dsimp only; omega
    by_cases a4 : x.fDo = 4
    · rw [if_neg a1, if_neg a3, if_pos a4]
      have hn := ho.n4 a4
      have p1 := Int.mul_nonneg hn.1 i1.1
      have p2 := Int.mul_nonneg hn.1 (show 0 ≤ x.fCost + (uSs x.fThen).2.2 by omega)
      dsimp only
      omega
    · rw [if_neg a1, if_neg a3, if_neg a4]; dsimp only; omega
theorem heldI_in {n lo hi : Int} (h : lo ≤ hi) : lo ≤ heldI n lo hi ∧ heldI n lo hi ≤ hi := by unfold heldI; grind
theorem VIn.set {vars : List GVar} {vals : List Int} (h : VIn vars vals) (hv : VarsOk vars) {v n : Int} (h1 : 0 ≤ v) (h2 : v < vars.length) : VIn vars (vals.set v.toNat (heldI n vars[v.toNat]!.fLow vars[v.toNat]!.fHigh)) := by
  refine ⟨by rw [List.length_set]; exact h.1, fun i hi => ?_⟩
  have hl := h.1
  by_cases hvi : v.toNat = i
  · subst hvi
    rw [getElem!_pos (vals.set _ _) v.toNat (by rw [List.length_set]; omega), List.getElem_set_self]
    exact heldI_in (hv _ (get_memL hi)).2.1
  · have := h.2 i hi
    rw [getElem!_pos (vals.set _ _) i (by rw [List.length_set]; omega), List.getElem_set_ne hvi]
    rw [getElem!_pos vals i (by omega)] at this
    exact this
structure Aft (vars : List GVar) (s r : CS) (o t : Int) : Prop where
 vals : VIn vars r.vals
 outs : (s.outs.length : Int) ≤ r.outs.length ∧ (r.outs.length : Int) ≤ s.outs.length + o
 time : s.time ≤ r.time ∧ r.time ≤ s.time + t
theorem rndC_aft {vars : List GVar} {a : CS → CS} {t : GTerm} {c o u : Int} (hc : 0 ≤ c) (ho : 0 ≤ o) (hu : 0 ≤ u) (ha : ∀ s : CS, VIn vars s.vals → Aft vars s (a s) o u) : ∀ (n : Nat) (s : CS), VIn vars s.vals → Aft vars s (rndC a t c n s) (n * o) (n * (c + u))
  | 0, s, h => ⟨h, by rw [rndC]; simp, by rw [rndC]; simp⟩
  | n + 1, s, h => by
    rw [rndC]
    have e1 : ((n + 1 : Nat) : Int) * o = n * o + o := by rw [Int.natCast_add, Int.add_mul]; simp
    have e2 : ((n + 1 : Nat) : Int) * (c + u) = n * (c + u) + (c + u) := by rw [Int.natCast_add, Int.add_mul]; simp
    have p1 : 0 ≤ (n : Int) * o := Int.mul_nonneg (by omega) ho
    have p2 : 0 ≤ (n : Int) * (c + u) := Int.mul_nonneg (by omega) (by omega)
    rw [e1, e2]
    split
    · refine ⟨h, ?_, ?_⟩
      · show (s.outs.length : Int) ≤ s.outs.length ∧ _; exact ⟨Int.le_refl _, by show (s.outs.length : Int) ≤ _; omega⟩
      · show s.time ≤ s.time + c ∧ s.time + c ≤ _; omega
    · have i1 := ha (s.add c) h
      have i2 := rndC_aft (t := t) hc ho hu ha n (a (s.add c)) i1.vals
      have q1 := i1.outs
      have q2 := i1.time
      have q3 := i2.outs
      have q4 := i2.time
      have z1 : (s.add c).time = s.time + c := rfl
      have z2 : (s.add c).outs = s.outs := rfl
      rw [z2] at q1
      rw [z1] at q2
      exact ⟨i2.vals, by omega, by omega⟩
theorem Aft.weak {vars : List GVar} {s r : CS} {o t o' t' : Int} (h : Aft vars s r o t) (h1 : o ≤ o') (h2 : t ≤ t') : Aft vars s r o' t' := ⟨h.vals, by have := h.outs; omega, by have := h.time; omega⟩
theorem Aft.trans {vars : List GVar} {s r q : CS} {o t o' t' : Int} (h : Aft vars s r o t) (h' : Aft vars r q o' t') : Aft vars s q (o + o') (t + t') := ⟨h'.vals, by have := h.outs; have := h'.outs; omega, by have := h.time; have := h'.time; omega⟩
def uO (x : GStep) : Int × Int := if x.fDo = 1 then (1, x.fCost) else if x.fDo = 3 then (max (uSs x.fThen).2.1 (uSs x.fElse).2.1, x.fCost + max (uSs x.fThen).2.2 (uSs x.fElse).2.2)
 else if x.fDo = 4 then (x.fN * (uSs x.fThen).2.1, x.fN * (x.fCost + (uSs x.fThen).2.2)) else (0, x.fCost)
theorem uO_cons (x : GStep) (l : List GStep) : (uSs (x :: l)).2.1 = (uO x).1 + (uSs l).2.1 ∧ (uSs (x :: l)).2.2 = (uO x).2 + (uSs l).2.2 := by
  rw [uSs_cns]
  unfold uO
  split
  · exact ⟨rfl, rfl⟩
  split
  · exact ⟨rfl, rfl⟩
  split
  · exact ⟨rfl, rfl⟩
  · refine ⟨?_, rfl⟩
    dsimp only
    omega
theorem stepO_aft {f : Flat} (hv : VarsOk f.fVars) {hs : List Int} {a b : CS → CS} {last : Bool} {x : GStep} (hx : StOk f last x) (h6 : x.fDo ≠ 6)
    (p1 : 0 ≤ (uSs x.fThen).2.1 ∧ 0 ≤ (uSs x.fThen).2.2) (p2 : 0 ≤ (uSs x.fElse).2.1 ∧ 0 ≤ (uSs x.fElse).2.2)
    (ha : ∀ s : CS, VIn f.fVars s.vals → Aft f.fVars s (a s) (uSs x.fThen).2.1 (uSs x.fThen).2.2) (hb : ∀ s : CS, VIn f.fVars s.vals → Aft f.fVars s (b s) (uSs x.fElse).2.1 (uSs x.fElse).2.2)
    (s : CS) (h : VIn f.fVars s.vals) : Aft f.fVars s (stepO f hs a b x s) (uO x).1 (uO x).2 := by
  have hc := hx.cost
  have add : Aft f.fVars s (s.add x.fCost) 0 x.fCost := ⟨h, by show (s.outs.length : Int) ≤ s.outs.length ∧ (s.outs.length : Int) ≤ _; omega, by show s.time ≤ s.time + x.fCost ∧ s.time + x.fCost ≤ _; omega⟩
  unfold stepO uO
  by_cases a4 : x.fDo = 4
  · simp only [a4, Int.reduceEq, if_true, if_false]
    have hn := hx.n4 a4
    have := rndC_aft (t := x.fTerm) hc.1 p1.1 p1.2 ha x.fN.toNat s h
    rw [show ((x.fN.toNat : Nat) : Int) = x.fN by omega] at this
    exact this
  by_cases a0 : x.fDo = 0
  · simp only [a0, Int.reduceEq, if_true, if_false]
    obtain ⟨v1, v2⟩ := hx.var (.inl a0)
    exact ⟨h.set hv v1 v2, add.outs, add.time⟩
  by_cases a1 : x.fDo = 1
  · simp only [a1, Int.reduceEq, if_true, if_false]
    exact ⟨h, by simp; omega, by show s.time ≤ s.time + x.fCost ∧ s.time + x.fCost ≤ _; omega⟩
  by_cases a5 : x.fDo = 5
  · simp only [a5, Int.reduceEq, if_true, if_false]
    obtain ⟨v1, v2⟩ := hx.var (.inr a5)
    exact ⟨h.set hv v1 v2, add.outs, add.time⟩
  by_cases a3 : x.fDo = 3
  · simp only [a3, Int.reduceEq, if_true, if_false]
    split
    · refine (add.trans (ha _ h)).weak ?_ ?_ <;> omega
    · refine (add.trans (hb _ h)).weak ?_ ?_ <;> omega
  · simp only [a0, a1, a3, a4, a5, h6, if_false]
    exact add
theorem runC_aft {f : Flat} (hv : VarsOk f.fVars) (hs : List Int) : ∀ (n : Nat) (l : List GStep), SizeOf.sizeOf l < n → stepC f false l = 0 → ∀ s : CS, VIn f.fVars s.vals → Aft f.fVars s (runC f hs l s) (uSs l).2.1 (uSs l).2.2
 | 0, _, h, _, _, _ => by omega
 | n + 1, [], _, _, s, h => by rw [runC_nil, uSs]; exact ⟨h, by simp, by simp⟩
 | n + 1, x :: l, hn, hc, s, h => by
  obtain ⟨h1, h2, h3, h4⟩ := stepC_cons hc
  have ho := stOk_of h1
  have hsz := sizeOf_then (List.mem_cons_self (a := x) (l := l))
  have ht := size_tail x l
  have h6 : x.fDo ≠ 6 := fun h => by have := (ho.last6 h).1; simp at this
  have p1 := uSs_pos f n x.fThen false (by omega) h2
  have p2 := uSs_pos f n x.fElse false (by omega) h3
  rw [runC_cons, (uO_cons x l).1, (uO_cons x l).2]
  have i1 := stepO_aft hv (hs := hs) ho h6 p1 p2 (runC_aft hv hs n x.fThen (by omega) h2) (runC_aft hv hs n x.fElse (by omega) h3) s h
  exact i1.trans (runC_aft hv hs n l (by omega) h4 _ i1.vals)
end Go.Proofs.YtnfljbehcffmcaaGreat
end
