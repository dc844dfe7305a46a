/- Merged: Pl, Pfew, Pl2, Pd. -/
import Derived.Test.YtaonipoflmbhgaaGreatM3AbstractWholes
section
set_option linter.unusedSectionVars false
set_option linter.unusedVariables false
set_option linter.unusedSimpArgs false
namespace Go.Iv
open Go
variable [U : Uni] [L : UniL]
theorem wrap_id {n : Int} (h1 : -9223372036854775808 ≤ n) (h2 : n < 9223372036854775808) : IntKind.i64.wrap n = n := by
  simp [IntKind.wrap, IntKind.bits, IntKind.signed]
  omega
theorem cond_true' {α : Type} (x y : α) : (bif true then x else y) = x := rfl
/-- A loop over a counter: at i it stands at f i; it goes on while g does not hold. -/
theorem advG_count {γ : Type} {rnd : γ → Option (Option γ)} (f : Nat → γ) (n : Nat) (h1 : ∀ i, i < n → rnd (f i) = some (some (f (i + 1))) ∨ ∀ r, rnd (f i) ≠ some (some r)) (h2 : ∀ r, rnd (f n) ≠ some (some r)) : ∀ k i, i + k = n →
    ∃ j, i ≤ j ∧ j ≤ n ∧ advG rnd (f i) = some (f j) ∧ (∀ m, i ≤ m → m < j → rnd (f m) = some (some (f (m + 1)))) ∧ ∀ r, rnd (f j) ≠ some (some r)
  | 0, i, hi => by
    have : i = n := by omega
    subst this
    exact ⟨i, Nat.le_refl _, Nat.le_refl _, advG_stop h2, fun m h3 h4 => by omega, h2⟩
  | k + 1, i, hi => by
    rcases h1 i (by omega) with h | h
    · obtain ⟨j, q1, q2, q3, q4, q5⟩ := advG_count f n h1 h2 k (i + 1) (by omega)
      refine ⟨j, by omega, q2, by rw [advG_step h]; exact q3, fun m h3 h4 => ?_, q5⟩
      by_cases hm : m = i
      · subst hm; exact h
      · exact q4 m (by omega) h4
    · exact ⟨i, Nat.le_refl _, by omega, advG_stop h, fun m h3 h4 => by omega, h⟩
/-- A loop that runs through. -/
theorem advG_all {γ : Type} {rnd : γ → Option (Option γ)} (f : Nat → γ) (n : Nat) (h1 : ∀ i, i < n → rnd (f i) = some (some (f (i + 1)))) (h2 : ∀ r, rnd (f n) ≠ some (some r)) : advG rnd (f 0) = some (f n) := by
  have key : ∀ k i, i + k = n → advG rnd (f i) = some (f n) := by
    intro k
    induction k with
    | zero => intro i hi; have : i = n := by omega
              subst this; exact advG_stop h2
    | succ k ih => intro i hi; rw [advG_step (h1 i (by omega))]; exact ih (i + 1) (by omega)
  exact key n 0 (by omega)
/-- What a loop over a list comes to. -/
def runL {α β : Type} (step : β → α → Option β) : List α → β → β
  | [], b => b
  | x :: xs, b => match step b x with
    | some b' => runL step xs b'
    | none => b
/-- What comes of it: ret where it is left, fin at the end. -/
def foldE {α β ρ : Type} (step : β → α → Option β) (ret : β → α → ρ) (fin : β → ρ) : List α → β → ρ
  | [], b => fin b
  | x :: xs, b => match step b x with
    | some b' => foldE step ret fin xs b'
    | none => ret b x
/-- A loop over a list: it stands at mk i b, b what was made of the first i. -/
theorem advG_list {γ α β ρ : Type} {rnd : γ → Option (Option γ)} (l : List α) (mk : Nat → β → γ) (step : β → α → Option β) (ret : β → α → ρ) (fin : β → ρ) (I : Nat → β → Prop)
    (h1 : ∀ i b (hi : i < l.length), I i b → ∀ b', step b l[i] = some b' → rnd (mk i b) = some (some (mk (i + 1) b')) ∧ I (i + 1) b')
    (h2 : ∀ i b (hi : i < l.length), I i b → step b l[i] = none → ∀ r, rnd (mk i b) ≠ some (some r)) (h3 : ∀ b, I l.length b → ∀ r, rnd (mk l.length b) ≠ some (some r)) {b : β} (hb : I 0 b) :
    ∃ i v, i ≤ l.length ∧ advG rnd (mk 0 b) = some (mk i v) ∧ I i v ∧ ((i = l.length ∧ foldE step ret fin l b = fin v) ∨ ∃ hi : i < l.length, step v l[i] = none ∧ foldE step ret fin l b = ret v l[i]) := by
  have key : ∀ (xs : List α) (i : Nat) (b : β), l.drop i = xs → i ≤ l.length → I i b → ∃ j v, j ≤ l.length ∧ advG rnd (mk i b) = some (mk j v) ∧ I j v ∧ ((j = l.length ∧ foldE step ret fin xs b = fin v) ∨ ∃ hi : j < l.length, step v l[j] = none ∧ foldE step ret fin xs b = ret v l[j]) := by
    intro xs
    induction xs with
    | nil =>
      intro i b hd hi hb
      have : i = l.length := by have := congrArg List.length hd; simp at this; omega
      subst this
      exact ⟨_, b, Nat.le_refl _, advG_stop (h3 b hb), hb, .inl ⟨rfl, rfl⟩⟩
    | cons x xs ih =>
      intro i b hd hi hb
      have hil : i < l.length := by have := congrArg List.length hd; simp at this; omega
      have hx : l[i] = x := by
        have := congrArg List.head? hd
        rw [List.head?_drop, List.getElem?_eq_getElem hil] at this
        simpa using this
      have hd' : l.drop (i + 1) = xs := by
        have := congrArg List.tail hd
        rw [List.tail_drop] at this
        simpa using this
      cases hs : step b x with
      | some b' =>
        obtain ⟨q1, q2⟩ := h1 i b hil hb b' (by rw [hx]; exact hs)
        obtain ⟨j, v, e1, e2, e3, e4⟩ := ih (i + 1) b' hd' hil q2
        have er : foldE step ret fin (x :: xs) b = foldE step ret fin xs b' := by simp only [foldE, hs]
        exact ⟨j, v, e1, by rw [advG_step q1]; exact e2, e3, by rw [er]; exact e4⟩
      | none =>
        have er : foldE step ret fin (x :: xs) b = ret b x := by simp only [foldE, hs]
        exact ⟨i, b, hi, advG_stop (h2 i b hil hb (by rw [hx]; exact hs)), hb, .inr ⟨hil, by rw [hx]; exact hs, by rw [er, hx]⟩⟩
  exact key l 0 b rfl (Nat.zero_le _) hb
end Go.Iv
end
section
set_option linter.unusedSectionVars false
set_option linter.unusedVariables false
set_option linter.unusedSimpArgs false
namespace Go.Proofs.YtaonipoflmbhgaaGreat
open Go Go.Iv

theorem GTerm.eta (t : GTerm) : GTerm.mk t.fOp t.fN t.fKids = t := by cases t; rfl
theorem GTerm.kids_lt {t k : GTerm} (h : k ∈ t.fKids) : SizeOf.sizeOf k < SizeOf.sizeOf t := by
  cases t
  have := List.sizeOf_lt_of_mem h
  simp only [GTerm.mk.sizeOf_spec]
  simp only at this
  omega
/-- the nodes of a term -/
def nT (t : GTerm) : Nat := 1 + (t.fKids.attach.map fun k => nT k.1).sum
termination_by SizeOf.sizeOf t
decreasing_by exact GTerm.kids_lt k.2
def nTs (l : List GTerm) : Nat := (l.map nT).sum
theorem nT_eq (t : GTerm) : nT t = 1 + nTs t.fKids := by
  rw [nT, nTs]
  congr 2
  exact List.attach_map_val (f := nT)
theorem nTs_cons (k : GTerm) (ks : List GTerm) : nTs (k :: ks) = nT k + nTs ks := by simp [nTs]
theorem nTs_mem {k : GTerm} {ks : List GTerm} (h : k ∈ ks) : nT k ≤ nTs ks := by
  induction ks with
  | nil => cases h
  | cons a ks ih =>
    rw [nTs_cons]
    rcases List.mem_cons.1 h with rfl | h
    · omega
    · have := ih h; omega
theorem nT_pos (t : GTerm) : 0 < nT t := by rw [nT_eq]; omega
/-- what is left -/
def tl (t : GTerm) (left : Int) : Int := if (nT t : Int) ≤ left then left - nT t else if 0 ≤ left then -1 else left - 1
def tls : List GTerm → Int → Int
  | [], l => l
  | k :: ks, l => if 0 ≤ l then tls ks (tl k l) else l
theorem tls_eq : ∀ (ks : List GTerm) (l : Int), tls ks l = if 0 ≤ l then (if (nTs ks : Int) ≤ l then l - nTs ks else -1) else l
  | [], l => by simp [tls, nTs]; omega
  | k :: ks, l => by
    have e := nTs_cons k ks
    have := nT_pos k
    unfold tls
    by_cases h : 0 ≤ l
    · rw [if_pos h, if_pos h, tls_eq ks, e]
      unfold tl
      grind
    · rw [if_neg h, if_neg h]
theorem tl_eq (t : GTerm) (left : Int) : tl t left = tls t.fKids (left - 1) := by
  rw [tls_eq, tl, nT_eq]
  grind

theorem tl_bd (t : GTerm) (l : Int) : (0 ≤ l → -1 ≤ tl t l ∧ tl t l ≤ l - 1) ∧ (l < 0 → tl t l = l - 1) := by
  have := nT_pos t
  unfold tl
  grind
theorem loop55 (M : GTerm → Int → Option E55) (t : GTerm) (hM : ∀ k ∈ t.fKids, ∀ l : Int, 0 ≤ l → l ≤ 1000 → M k l = some (tl k l)) :
    ∀ (ks : List GTerm) (i : Nat) (l : Int), t.fKids.drop i = ks → i + ks.length = t.fKids.length → l ≤ 1000 - i → ∃ q, a55_0 M ⟨l, i, t⟩ = some q ∧ q.t1 = tls ks l ∧ q.b0 = t ∧ (q.t5 < t.fKids.length → q.t1 < 0)
  | [], i, l, hd, hl, _ => by
    refine ⟨_, advG_stop fun r => ?_, rfl, rfl, fun h => ?_⟩
    · have : ¬ ((i : Int) < t.fKids.length) := by simp at hl; omega
      simp [n55_0, this]
    · simp at hl h; omega
  | k :: ks, i, l, hd, hl, h2 => by
    have hil : i < t.fKids.length := by simp at hl; omega
    have hki : t.fKids[i]! = k := by
      have : t.fKids[i]? = some k := by
        have := congrArg List.head? hd
        rw [List.head?_drop] at this
        simpa using this
      rw [List.getElem!_eq_getElem?_getD, this]; rfl
    have hmem : k ∈ t.fKids := by rw [← hki, getElem!_pos t.fKids i hil]; exact List.getElem_mem hil
    by_cases h0 : 0 ≤ l
    · have hd' : t.fKids.drop (i + 1) = ks := by
        have := congrArg List.tail hd
        rw [List.tail_drop] at this
        simpa using this
      have b3 := ((tl_bd k l).1 h0).2
      obtain ⟨q, e1, e2, e3, e4⟩ := loop55 M t hM ks (i + 1) (tl k l) hd' (by simp at hl; omega) (by omega)
      refine ⟨q, ?_, ?_, e3, e4⟩
      · rw [← e1]
        refine advG_step ?_
        have hw : IntKind.i64.wrap ((i : Int) + 1) = ((i + 1 : Nat) : Int) := by rw [wrap_id (by omega) (by omega)]; omega
        have hk2 : t.fKids[i] = k := by rw [← hki, getElem!_pos t.fKids i hil]
        simp [n55_0, hil, h0, hk2, GTerm.eta, hM k hmem l h0 (by omega)]
        exact hw
      · rw [e2]
        show _ = if 0 ≤ l then _ else _
        rw [if_pos h0]
    · refine ⟨_, advG_stop fun r => ?_, ?_, rfl, fun h => ?_⟩
      · simp [n55_0, hil, h0]
      · show l = if 0 ≤ l then _ else l
        rw [if_neg h0]
      · simp only; omega
theorem s55_eq (M : GTerm → Int → Option E55) (t : GTerm) (hM : ∀ k ∈ t.fKids, ∀ l : Int, 0 ≤ l → l ≤ 1000 → M k l = some (tl k l)) (l : Int) (h1 : -1000000 ≤ l) (h2 : l ≤ 1000) : s55 M t l = some (tl t l) := by
  obtain ⟨q, e1, e2, e3, e4⟩ := loop55 M t hM t.fKids 0 (l - 1) rfl (by simp) (by omega)
  have hw : IntKind.i64.wrap (l - 1) = l - 1 := wrap_id (by omega) (by omega)
  rw [tl_eq, ← e2]
  unfold s55
  rw [hw, GTerm.eta, show ((0 : Nat) : Int) = 0 from rfl] at *
  rw [e1]
  obtain ⟨q1, q5, qb⟩ := q
  subst e3
  dsimp only at *
  by_cases h5 : q5 < (qb.fKids.length : Int)
  · have := e4 h5
    simp [h5, show ¬ (0 ≤ q1) by omega]
  · simp [h5]
theorem m55_eq : ∀ (n : Nat) (t : GTerm) (l : Int), SizeOf.sizeOf t < n → -1000000 ≤ l → l ≤ 1000 → m55 n t l = some (tl t l)
  | 0, _, _, h, _, _ => by omega
  | n + 1, t, l, h, h1, h2 => s55_eq (m55 n) t (fun k hk l h3 h4 => m55_eq n k l (by have := GTerm.kids_lt hk; omega) (by omega) h4) l h1 h2
theorem r55_eq (t : GTerm) (l : Int) (h1 : -1000000 ≤ l) (h2 : l ≤ 1000) : r55 t l = some (tl t l) := lim_eq (SizeOf.sizeOf t + 1) fun n hn => m55_eq n t l (by omega) h1 h2

theorem GStep.then_lt {s k : GStep} (h : k ∈ s.fThen) : SizeOf.sizeOf k < SizeOf.sizeOf s := by
  cases s
  have := List.sizeOf_lt_of_mem h
  simp only [GStep.mk.sizeOf_spec]
  simp only at this
  omega
theorem GStep.else_lt {s k : GStep} (h : k ∈ s.fElse) : SizeOf.sizeOf k < SizeOf.sizeOf s := by
  cases s
  have := List.sizeOf_lt_of_mem h
  simp only [GStep.mk.sizeOf_spec]
  simp only at this
  omega
theorem GStep.eta (s : GStep) : GStep.mk s.fDo s.fCost s.fVar s.fN s.fTerm s.fThen s.fElse s.fBounds = s := by cases s; rfl
/-- the steps, the nodes of their terms and their bounds -/
def nS (s : GStep) : Nat := 1 + nT s.fTerm + s.fBounds.length + (s.fThen.attach.map fun k => nS k.1).sum + (s.fElse.attach.map fun k => nS k.1).sum
termination_by SizeOf.sizeOf s
decreasing_by
  · exact GStep.then_lt k.2
  · exact GStep.else_lt k.2
def nSs (l : List GStep) : Nat := (l.map nS).sum
theorem nS_eq (s : GStep) : nS s = 1 + nT s.fTerm + s.fBounds.length + nSs s.fThen + nSs s.fElse := by
  rw [nS, nSs, nSs]
  congr 2
  · congr 1
    exact List.attach_map_val (f := nS)
  · exact List.attach_map_val (f := nS)
theorem nSs_cons (k : GStep) (ks : List GStep) : nSs (k :: ks) = nS k + nSs ks := by simp [nSs]
def sl (l : List GStep) (left : Int) : Int := if left < 0 then left else if (nSs l : Int) ≤ left then left - nSs l else -1
def stp54 (left : Int) (s : GStep) : Option Int := if left < 0 then none else if tl s.fTerm (left - 1) < s.fBounds.length then none else some (sl s.fElse (sl s.fThen (tl s.fTerm (left - 1) - s.fBounds.length)))
theorem stp54_le {left x : Int} {s : GStep} (h : stp54 left s = some x) : 0 ≤ left ∧ -1 ≤ x ∧ x ≤ left - 1 ∧ x = if (nS s : Int) ≤ left then left - nS s else -1 := by
  unfold stp54 at h
  have e := nS_eq s
  unfold tl sl at h
  grind
theorem stp54_none {left : Int} {s : GStep} (h : stp54 left s = none) (h0 : 0 ≤ left) : left < nS s := by
  unfold stp54 at h
  have e := nS_eq s
  unfold tl at h
  grind
theorem run54 : ∀ (l : List GStep) (left : Int), foldE stp54 (fun v _ => if v < 0 then v else -1) id l left = sl l left
  | [], left => by unfold sl; simp [nSs, foldE]; omega
  | s :: l, left => by
    have e := nSs_cons s l
    unfold foldE
    cases hs : stp54 left s with
    | none =>
      have := stp54_none hs
      unfold sl
      grind
    | some x =>
      obtain ⟨h1, h2, h3, h4⟩ := stp54_le hs
      dsimp only
      rw [run54 l x]
      unfold sl
      grind
theorem s54_eq (M : List GStep → Int → Option E54) (l : List GStep) (hM : ∀ s ∈ l, (∀ x : Int, -1 ≤ x → x ≤ 1000 → M s.fThen x = some (sl s.fThen x)) ∧ (∀ x : Int, -1 ≤ x → x ≤ 1000 → M s.fElse x = some (sl s.fElse x))) (left : Int) (h1 : -1 ≤ left) (h2 : left ≤ 1000) :
    s54 M l left = some (sl l left) := by
  have hstep : ∀ (i : Nat) (b : Int) (hi : i < l.length), b ≤ 1000 - i → -1 ≤ b → n54_0 M ⟨l, b, i⟩ = if b < 0 then some none else if tl l[i].fTerm (b - 1) < l[i].fBounds.length then some none else some (some ⟨l, sl l[i].fElse (sl l[i].fThen (tl l[i].fTerm (b - 1) - l[i].fBounds.length)), ((i + 1 : Nat) : Int)⟩) := fun i b hi hb hb2 => by
    obtain ⟨m1, m2⟩ := hM l[i] (List.getElem_mem hi)
    unfold n54_0
    by_cases h0 : b < 0
    · simp [hi, h0, show ¬ 0 ≤ b by omega]
    · have e1 : IntKind.i64.wrap (b - 1) = b - 1 := wrap_id (by omega) (by omega)
      have e2 := r55_eq l[i].fTerm (b - 1) (by omega) (by omega)
      have e3 := tl_bd l[i].fTerm (b - 1)
      have hT : -2 ≤ tl l[i].fTerm (b - 1) ∧ tl l[i].fTerm (b - 1) ≤ 1000 := by grind
      by_cases h4 : tl l[i].fTerm (b - 1) < l[i].fBounds.length
      · simp [hi, h0, e1, GTerm.eta, e2, h4, show 0 ≤ b by omega]
      · have e5 : IntKind.i64.wrap (tl l[i].fTerm (b - 1) - l[i].fBounds.length) = tl l[i].fTerm (b - 1) - l[i].fBounds.length := wrap_id (by omega) (by omega)
        have e6 := m1 (tl l[i].fTerm (b - 1) - l[i].fBounds.length) (by omega) (by omega)
        have hS : -1 ≤ sl l[i].fThen (tl l[i].fTerm (b - 1) - l[i].fBounds.length) ∧ sl l[i].fThen (tl l[i].fTerm (b - 1) - l[i].fBounds.length) ≤ 1000 := by unfold sl; grind
        have e7 := m2 _ hS.1 hS.2
        have e8 : IntKind.i64.wrap ((i : Int) + 1) = ((i + 1 : Nat) : Int) := by rw [wrap_id (by omega) (by omega)]; omega
        simp [hi, h0, e1, GTerm.eta, e2, h4, e5, e6, e7, show 0 ≤ b by omega]
        exact e8
  obtain ⟨i, v, hi, e1, ⟨e2, e3⟩, e4⟩ := advG_list (rnd := n54_0 M) l (fun i b => ⟨l, b, (i : Int)⟩) stp54 (fun v _ => if v < 0 then v else -1) id (fun i b => b ≤ 1000 - i ∧ -1 ≤ b) (fun i b hi hI b' hs => by
      obtain ⟨q1, q2, q3, q4⟩ := stp54_le hs
      refine ⟨?_, by omega, q2⟩
      rw [hstep i b hi hI.1 hI.2]
      unfold stp54 at hs
      grind) (fun i b hi hI hs r => by
      rw [hstep i b hi hI.1 hI.2]
      unfold stp54 at hs
      grind) (fun b hI r => by simp [n54_0]) (b := left) ⟨by omega, h1⟩
  have e1' : a54_0 M ⟨l, left, 0⟩ = some ⟨l, v, i⟩ := e1
  unfold s54
  rw [e1']
  rw [run54] at e4
  rcases e4 with ⟨h5, e4⟩ | ⟨h5, hn, e4⟩
  · simp [h5, e4]
  · rw [e4]
    by_cases h0 : v < 0
    · simp [h5, h0, show ¬ (0 ≤ v) by omega]
    · have e1 : IntKind.i64.wrap (v - 1) = v - 1 := wrap_id (by omega) (by omega)
      have e2 := r55_eq l[i].fTerm (v - 1) (by omega) (by omega)
      have h4 : tl l[i].fTerm (v - 1) < l[i].fBounds.length := by unfold stp54 at hn; grind
      simp [h5, h0, show 0 ≤ v by omega, e1, GTerm.eta, e2, h4]
theorem sizeOf_then {s : GStep} {l : List GStep} (h : s ∈ l) : SizeOf.sizeOf s.fThen < SizeOf.sizeOf l ∧ SizeOf.sizeOf s.fElse < SizeOf.sizeOf l := by
  have := List.sizeOf_lt_of_mem h
  cases s
  simp only [GStep.mk.sizeOf_spec] at this
  simp only
  omega
theorem m54_eq : ∀ (n : Nat) (l : List GStep) (x : Int), SizeOf.sizeOf l < n → -1 ≤ x → x ≤ 1000 → m54 n l x = some (sl l x)
  | 0, _, _, h, _, _ => by omega
  | n + 1, l, x, h, h1, h2 => s54_eq (m54 n) l (fun s hs => ⟨fun x h3 h4 => m54_eq n _ x (by have := sizeOf_then hs; omega) h3 h4, fun x h3 h4 => m54_eq n _ x (by have := sizeOf_then hs; omega) h3 h4⟩) x h1 h2
theorem r54_eq (l : List GStep) (x : Int) (h1 : -1 ≤ x) (h2 : x ≤ 1000) : r54 l x = some (sl l x) := lim_eq (SizeOf.sizeOf l + 1) fun n hn => m54_eq n l x (by omega) h1 h2

/-- at most so many variables, hatches and nodes -/
def few (f : Flat) (vars nodes : Int) : Bool := decide ((f.fVars.length : Int) ≤ vars ∧ (f.fHatches.length : Int) ≤ vars ∧ (nSs f.fBody + nTs (f.fHatches.map (·.fTerm)) : Int) ≤ nodes)
theorem m16_eq (f : Flat) (vars nodes : Int) (h1 : 0 ≤ vars) (h2 : vars ≤ 1000) (h3 : 0 ≤ nodes) (h4 : nodes ≤ 1000) : m16 f vars nodes = some (few f vars nodes) := by
  unfold m16
  by_cases q1 : vars < f.fVars.length
  · simp [q1, few]; omega
  · by_cases q2 : vars < f.fHatches.length
    · simp [q1, q2, few]; omega
    · rw [r54_eq _ _ (by omega) (by omega)]
      have hb : sl f.fBody nodes ≤ 1000 ∧ -1 ≤ sl f.fBody nodes := by unfold sl; grind
      have hstep : ∀ (i : Nat) (b : Int) (hi : i < f.fHatches.length), b ≤ 1000 → -1 - (i : Int) ≤ b → n16_0 ⟨b, f.fHatches, f.fHatches.length, i⟩ = some (some ⟨tl f.fHatches[i].fTerm b, f.fHatches, f.fHatches.length, ((i + 1 : Nat) : Int)⟩) := fun i b hi hb hb2 => by
        have e2 := r55_eq f.fHatches[i].fTerm b (by omega) (by omega)
        have e8 : IntKind.i64.wrap ((i : Int) + 1) = ((i + 1 : Nat) : Int) := by rw [wrap_id (by omega) (by omega)]; omega
        unfold n16_0
        simp [hi, GTerm.eta, e2]
        exact e8
      obtain ⟨i, v, hi, e1, _, e4⟩ := advG_list (rnd := n16_0) f.fHatches (fun i b => ⟨b, f.fHatches, f.fHatches.length, (i : Int)⟩) (fun b h => some (tl h.fTerm b)) (fun v _ => v) id (fun i b => b ≤ 1000 ∧ -1 - (i : Int) ≤ b) (fun i b hi hI b' hs => by
          cases hs
          refine ⟨hstep i b hi hI.1 hI.2, ?_⟩
          have := tl_bd f.fHatches[i].fTerm b
          grind) (fun i b hi hI hs r => by cases hs) (fun b hI r => by simp [n16_0]) (b := sl f.fBody nodes) ⟨hb.1, by omega⟩
      have e1' : a16_0 ⟨sl f.fBody nodes, f.fHatches, f.fHatches.length, 0⟩ = some ⟨v, f.fHatches, f.fHatches.length, i⟩ := e1
      rcases e4 with ⟨h5, e4⟩ | ⟨_, hn, _⟩
      case inr => cases hn
      have key : ∀ (l : List Hatch) (b : Int), 0 ≤ foldE (ρ := Int) (fun b h => some (tl h.fTerm b)) (fun v _ => v) id l b ↔ (nTs (l.map (·.fTerm)) : Int) ≤ b := fun l => by
        induction l with
        | nil => intro b; simp [foldE, nTs]
        | cons h l ih =>
          intro b
          unfold foldE
          dsimp only
          rw [ih, List.map_cons, nTs_cons]
          have := nT_pos h.fTerm
          unfold tl
          grind
      have k2 := key f.fHatches (sl f.fBody nodes)
      rw [e4] at k2
      have k3 : (0 ≤ v) ↔ (nTs (f.fHatches.map (·.fTerm)) : Int) ≤ sl f.fBody nodes := k2
      simp only [q1, q2, decide_false, cond_false, e1', h5, Int.lt_irrefl, few]
      congr 1
      rw [decide_eq_decide, k3]
      unfold sl
      grind
end Go.Proofs.YtaonipoflmbhgaaGreat
end
section
set_option linter.unusedSectionVars false
set_option linter.unusedVariables false
set_option linter.unusedSimpArgs false
namespace Go.Iv
open Go
variable [U : Uni] [L : UniL]
/-- A loop over a list from index i: each step goes on with a state, or leaves with r. -/
def goE {α β ρ τ : Type} (step : Nat → β → α → β ⊕ ρ) (out : ρ → τ) (fin : β → τ) : List α → Nat → β → τ
  | [], _, b => fin b
  | x :: xs, i, b => match step i b x with
    | .inl b' => goE step out fin xs (i + 1) b'
    | .inr r => out r
theorem goE_inl {α β ρ τ : Type} {step : Nat → β → α → β ⊕ ρ} {out : ρ → τ} {fin : β → τ} {x : α} {xs : List α} {i : Nat} {b b' : β} (h : step i b x = .inl b') : goE step out fin (x :: xs) i b = goE step out fin xs (i + 1) b' := by
  simp only [goE, h]
theorem goE_inr {α β ρ τ : Type} {step : Nat → β → α → β ⊕ ρ} {out : ρ → τ} {fin : β → τ} {x : α} {xs : List α} {i : Nat} {b : β} {r : ρ} (h : step i b x = .inr r) : goE step out fin (x :: xs) i b = out r := by
  simp only [goE, h]
/-- A loop over a list: it stands at mk i b, b what was made of the first i. -/
theorem loopV {γ α β ρ τ : Type} [Inhabited α] {rnd : γ → Option (Option γ)} (l : List α) (mk : Nat → β → γ) (step : Nat → β → α → β ⊕ ρ) (out : ρ → τ) (fin : β → τ) (I : Nat → β → Prop)
    (h1 : ∀ i b, i < l.length → I i b → (∀ b', step i b l[i]! = .inl b' → rnd (mk i b) = some (some (mk (i + 1) b')) ∧ I (i + 1) b') ∧ ∀ r, step i b l[i]! = .inr r → rnd (mk i b) = some none)
    (h2 : ∀ b, I l.length b → rnd (mk l.length b) = some none) {b : β} (hb : I 0 b) :
    ∃ i v, advG rnd (mk 0 b) = some (mk i v) ∧ I i v ∧ ((i = l.length ∧ goE step out fin l 0 b = fin v) ∨ (i < l.length ∧ ∃ r, step i v l[i]! = .inr r ∧ goE step out fin l 0 b = out r)) := by
  have key : ∀ (xs : List α) (i : Nat) (b : β), l.drop i = xs → i ≤ l.length → I i b → ∃ j v, advG rnd (mk i b) = some (mk j v) ∧ I j v ∧ ((j = l.length ∧ goE step out fin xs i b = fin v) ∨ (j < l.length ∧ ∃ r, step j v l[j]! = .inr r ∧ goE step out fin xs i b = out r)) := by
    intro xs
    induction xs with
    | nil =>
      intro i b hd hi hb
      have : i = l.length := by have := congrArg List.length hd; simp at this; omega
      subst this
      exact ⟨_, b, advG_stop (fun r => by rw [h2 b hb]; simp), hb, .inl ⟨rfl, rfl⟩⟩
    | cons x xs ih =>
      intro i b hd hi hb
      have hil : i < l.length := by have := congrArg List.length hd; simp at this; omega
      have hx : l[i]! = x := by
        have := congrArg List.head? hd
        rw [List.head?_drop, List.getElem?_eq_getElem hil] at this
        rw [getElem!_pos l i hil]
        simpa using this
      have hd' : l.drop (i + 1) = xs := by
        have := congrArg List.tail hd
        rw [List.tail_drop] at this
        simpa using this
      obtain ⟨p1, p2⟩ := h1 i b hil hb
      cases hs : step i b x with
      | inl b' =>
        obtain ⟨q1, q2⟩ := p1 b' (by rw [hx]; exact hs)
        obtain ⟨j, v, e2, e3, e4⟩ := ih (i + 1) b' hd' hil q2
        rw [goE_inl hs]
        exact ⟨j, v, by rw [advG_step q1]; exact e2, e3, e4⟩
      | inr r =>
        rw [goE_inr hs]
        exact ⟨i, b, advG_stop (fun r' => by rw [p2 r (by rw [hx]; exact hs)]; simp), hb, .inr ⟨hil, r, by rw [hx]; exact hs, rfl⟩⟩
  exact key l 0 b rfl (Nat.zero_le _) hb
/-- A search: all elements pass. -/
theorem goE_all {α : Type} (p : Nat → α → Bool) : ∀ (l : List α) (i : Nat), goE (fun i (_ : Unit) x => if p i x then .inl () else .inr ()) (fun _ => some false) (fun _ => some true) l i () = some ((l.zipIdx i).all fun x => p x.2 x.1)
  | [], i => by simp [goE]
  | x :: xs, i => by
    by_cases h : p i x
    · rw [goE_inl (b' := ()) (by rw [if_pos h]), goE_all p xs (i + 1)]; simp [h]
    · rw [goE_inr (r := ()) (by rw [if_neg h])]; simp [h]
theorem get_memL {α : Type} [Inhabited α] {l : List α} {i : Nat} (h : i < l.length) : l[i]! ∈ l := by rw [getElem!_pos l i h]; exact List.getElem_mem h
theorem w1L {i n : Nat} (h : i < n) (hn : n ≤ 1000000) : IntKind.i64.wrap ((i : Int) + 1) = ((i + 1 : Nat) : Int) := by rw [wrap_id (by omega) (by omega)]; omega
/-- A loop with an invariant: it runs through, or it is left. -/
theorem loopJ {γ β : Type} {rnd : γ → Option (Option γ)} (n : Nat) (mk : Nat → β → γ) (I S : Nat → β → Prop)
    (h1 : ∀ i b, i < n → I i b → (∃ b', rnd (mk i b) = some (some (mk (i + 1) b')) ∧ I (i + 1) b') ∨ (rnd (mk i b) = some none ∧ S i b))
    (h2 : ∀ b, I n b → rnd (mk n b) = some none) {b : β} (hb : I 0 b) :
    ∃ i v, advG rnd (mk 0 b) = some (mk i v) ∧ I i v ∧ (i = n ∨ (i < n ∧ S i v)) := by
  have key : ∀ (k i : Nat) (b : β), i + k = n → I i b → ∃ j v, advG rnd (mk i b) = some (mk j v) ∧ I j v ∧ (j = n ∨ (j < n ∧ S j v)) := by
    intro k
    induction k with
    | zero =>
      intro i b hi hb
      have : i = n := by omega
      subst this
      exact ⟨_, b, advG_stop (fun r => by rw [h2 b hb]; simp), hb, .inl rfl⟩
    | succ k ih =>
      intro i b hi hb
      rcases h1 i b (by omega) hb with ⟨b', q1, q2⟩ | ⟨q1, q2⟩
      · rw [advG_step q1]
        exact ih (i + 1) b' (by omega) q2
      · exact ⟨i, b, advG_stop (fun r => by rw [q1]; simp), hb, .inr ⟨by omega, q2⟩⟩
  exact key n 0 b (by omega) hb
/-- A loop with an invariant that runs through. -/
theorem loopI {γ β : Type} {rnd : γ → Option (Option γ)} (n : Nat) (mk : Nat → β → γ) (I : Nat → β → Prop)
    (h1 : ∀ i b, i < n → I i b → ∃ b', rnd (mk i b) = some (some (mk (i + 1) b')) ∧ I (i + 1) b')
    (h2 : ∀ b, I n b → rnd (mk n b) = some none) {b : β} (hb : I 0 b) : ∃ v, advG rnd (mk 0 b) = some (mk n v) ∧ I n v := by
  obtain ⟨i, v, e, hi, h⟩ := loopJ n mk I (fun _ _ => False) (fun i b hi hb => .inl (h1 i b hi hb)) h2 hb
  rcases h with rfl | ⟨_, h⟩
  · exact ⟨v, e, hi⟩
  · exact h.elim
/-- The first code that is not 0. -/
def firstC {α : Type} (c : Nat → α → Int) : List α → Nat → Int
  | [], _ => 0
  | x :: xs, i => if c i x = 0 then firstC c xs (i + 1) else c i x
/-- A loop that looks for the first code. -/
theorem loopC {γ α : Type} [Inhabited α] {rnd : γ → Option (Option γ)} (l : List α) (mk : Nat → γ) (c : Nat → α → Int)
    (h1 : ∀ i, i < l.length → (c i l[i]! = 0 → rnd (mk i) = some (some (mk (i + 1)))) ∧ (c i l[i]! ≠ 0 → rnd (mk i) = some none))
    (h2 : rnd (mk l.length) = some none) :
    ∃ i, advG rnd (mk 0) = some (mk i) ∧ ((i = l.length ∧ firstC c l 0 = 0) ∨ (i < l.length ∧ c i l[i]! ≠ 0 ∧ firstC c l 0 = c i l[i]!)) := by
  have key : ∀ (xs : List α) (i : Nat), l.drop i = xs → i ≤ l.length → ∃ j, advG rnd (mk i) = some (mk j) ∧ ((j = l.length ∧ firstC c xs i = 0) ∨ (j < l.length ∧ c j l[j]! ≠ 0 ∧ firstC c xs i = c j l[j]!)) := by
    intro xs
    induction xs with
    | nil =>
      intro i hd hi
      have : i = l.length := by have := congrArg List.length hd; simp at this; omega
      subst this
      exact ⟨_, advG_stop (fun r => by rw [h2]; simp), .inl ⟨rfl, rfl⟩⟩
    | cons x xs ih =>
      intro i hd hi
      have hil : i < l.length := by have := congrArg List.length hd; simp at this; omega
      have hx : l[i]! = x := by
        have := congrArg List.head? hd
        rw [List.head?_drop, List.getElem?_eq_getElem hil] at this
        rw [getElem!_pos l i hil]
        simpa using this
      have hd' : l.drop (i + 1) = xs := by
        have := congrArg List.tail hd
        rw [List.tail_drop] at this
        simpa using this
      obtain ⟨p1, p2⟩ := h1 i hil
      unfold firstC
      rw [hx] at p1 p2
      by_cases hc : c i x = 0
      · rw [if_pos hc, advG_step (p1 hc)]
        exact ih (i + 1) hd' hil
      · rw [if_neg hc]
        exact ⟨i, advG_stop (fun r => by rw [p2 hc]; simp), .inr ⟨hil, by rw [hx]; exact hc, by rw [hx]⟩⟩
  exact key l 0 rfl (Nat.zero_le _)
/-- A loop that looks whether all elements pass. -/
theorem loopB {γ α : Type} [Inhabited α] {rnd : γ → Option (Option γ)} (l : List α) (mk : Nat → γ) (c : Nat → α → Bool)
    (h1 : ∀ i, i < l.length → (c i l[i]! = true → rnd (mk i) = some (some (mk (i + 1)))) ∧ (c i l[i]! = false → rnd (mk i) = some none))
    (h2 : rnd (mk l.length) = some none) :
    ∃ i, advG rnd (mk 0) = some (mk i) ∧ ((i = l.length ∧ ∀ j, j < l.length → c j l[j]! = true) ∨ (i < l.length ∧ c i l[i]! = false)) := by
  obtain ⟨i, v, e, hI, h⟩ := loopJ (β := Unit) (rnd := rnd) l.length (fun i _ => mk i) (fun i _ => ∀ j, j < i → c j l[j]! = true) (fun i _ => c i l[i]! = false) (fun i b hi hI => by
      obtain ⟨p1, p2⟩ := h1 i hi
      cases hc : c i l[i]! with
      | true => exact .inl ⟨(), p1 hc, fun j hj => by
          rcases Nat.lt_succ_iff_lt_or_eq.1 hj with h | h
          · exact hI j h
          · subst h; exact hc⟩
      | false => exact .inr ⟨p2 hc, rfl⟩) (fun b _ => h2) (b := ()) (fun j hj => absurd hj (by omega))
  refine ⟨i, e, ?_⟩
  rcases h with h | h
  · subst h; exact .inl ⟨rfl, hI⟩
  · exact .inr h
theorem all_of {α : Type} [Inhabited α] {l : List α} {p : α → Bool} (h : ∀ j, j < l.length → p l[j]! = true) : l.all p = true := by
  rw [List.all_eq_true]
  intro x hx
  obtain ⟨i, hi, e⟩ := List.getElem_of_mem hx
  have := h i hi
  rw [getElem!_pos l i hi, e] at this
  exact this
theorem not_all {α : Type} [Inhabited α] {l : List α} {p : α → Bool} {i : Nat} (hi : i < l.length) (h : p l[i]! = false) : l.all p = false := by
  cases ha : l.all p with
  | false => rfl
  | true =>
    rw [List.all_eq_true] at ha
    rw [ha _ (get_memL hi)] at h
    exact absurd h (by decide)
theorem not_any {α : Type} [Inhabited α] {l : List α} {p : α → Bool} (h : ∀ j, j < l.length → p l[j]! = false) : l.any p = false := by
  cases ha : l.any p with
  | false => rfl
  | true =>
    obtain ⟨x, hx, e⟩ := List.any_eq_true.1 ha
    obtain ⟨i, hi, e2⟩ := List.getElem_of_mem hx
    have := h i hi
    rw [getElem!_pos l i hi, e2, e] at this
    exact absurd this (by decide)
theorem is_any {α : Type} [Inhabited α] {l : List α} {p : α → Bool} {i : Nat} (hi : i < l.length) (h : p l[i]! = true) : l.any p = true :=
  List.any_eq_true.2 ⟨_, get_memL hi, h⟩
theorem take_succL {α : Type} [Inhabited α] {l : List α} {i : Nat} (h : i < l.length) : l.take (i + 1) = l.take i ++ [l[i]!] := by
  rw [getElem!_pos l i h]
  exact (List.take_append_getElem h).symm
end Go.Iv
end
section
set_option linter.unusedSectionVars false
set_option linter.unusedVariables false
set_option linter.unusedSimpArgs false
namespace Go.Proofs.YtaonipoflmbhgaaGreat
open Go Go.Iv

theorem Z0 : ((0 : Nat) : Int) = (0 : Int) := rfl
/-- a byte that may stand in a name at i -/
def okc (i : Nat) (c : Int) : Bool := decide ((97 ≤ c ∧ c ≤ 122) ∨ (i ≠ 0 ∧ ((48 ≤ c ∧ c ≤ 57) ∨ c = 46 ∨ c = 95)))
def nameB (s : ByteArray) : Bool := decide (1 ≤ s.size) && decide (s.size ≤ 40) && (List.range s.size).all fun i => okc i (byteAt s i)
def boundB (low high : Int) : Bool := decide (low ≤ high ∧ -1048576 ≤ low ∧ high ≤ 1048576)
/-- the code of a variable -/
def varC (vars : List GVar) (i : Nat) (v : GVar) : Int :=
  if nameB v.fName = false then 7
  else if ((vars.take i).any fun w => w.fName.toList == v.fName.toList) = true then 8
  else if v.fKind < 0 ∨ 3 < v.fKind then 1
  else if boundB v.fLow v.fHigh = false then 3
  else if v.fKind = 0 then (if v.fInit < v.fLow ∨ v.fHigh < v.fInit then 3 else 0)
  else if v.fInit = 0 then 0 else 3
/-- the number of vectors of a kind; none: more than 4096 -/
def spc (kind : Int) : List GVar → Int → Option Int
  | [], n => some n
  | v :: vs, n => if v.fKind = kind then (if 4096 < n * (v.fHigh - v.fLow + 1) then none else spc kind vs (n * (v.fHigh - v.fLow + 1))) else spc kind vs n
def spaceB (vars : List GVar) : Bool := (spc 1 vars 1).isSome && (spc 2 vars 1).isSome && (match spc 3 vars 1 with | some n => decide (n ≤ 256) | none => false)
def varsC (vars : List GVar) : Int := if firstC (varC vars) vars 0 ≠ 0 then firstC (varC vars) vars 0 else if spaceB vars = true then 0 else 4
/-- the numbers of kids -/
def kidsN (o : Int) : Int × Int := if o = 0 ∨ o = 24 then (0, 0) else if o = 6 ∨ o = 7 then (1, 1) else if 8 ≤ o ∧ o ≤ 22 then (2, 2) else if o = 23 then (3, 3) else if o = 25 then (2, 33) else (-1, -1)
def form0 (vars : List GVar) (inp : Bool) (t : GTerm) : Bool := decide (0 ≤ (kidsN t.fOp).1 ∧ (kidsN t.fOp).1 ≤ t.fKids.length ∧ (t.fKids.length : Int) ≤ (kidsN t.fOp).2) &&
  (if t.fOp = 0 then true else if t.fOp = 24 then decide (0 ≤ t.fN ∧ t.fN < vars.length) && !(inp && decide (vars[t.fN.toNat]!.fKind = 0)) else decide (t.fN = 0))
def formS (vars : List GVar) (inp : Bool) (t : GTerm) : Bool := form0 vars inp t && t.fKids.attach.all fun k => formS vars inp k.1
termination_by SizeOf.sizeOf t
decreasing_by exact GTerm.kids_lt k.2
theorem formS_eq (vars : List GVar) (inp : Bool) (t : GTerm) : formS vars inp t = (form0 vars inp t && t.fKids.all (formS vars inp)) := by
  rw [formS]
  congr 1
  rw [List.all_eq, List.all_eq]
  simp
/-- the least range of two -/
def hull (a b : Span) : Span := ⟨if b.fLow < a.fLow then b.fLow else a.fLow, if a.fHigh < b.fHigh then b.fHigh else a.fHigh⟩
/-- the range of a node -/
def ruleS (vars : List GVar) (t : GTerm) (k : List Span) : Span :=
  if t.fOp = 0 then ⟨t.fN, t.fN⟩
  else if t.fOp = 24 then ⟨vars[t.fN.toNat]!.fLow, vars[t.fN.toNat]!.fHigh⟩
  else if t.fOp = 6 then ⟨-k[0]!.fHigh, -k[0]!.fLow⟩
  else if t.fOp = 8 then ⟨k[0]!.fLow + k[1]!.fLow, k[0]!.fHigh + k[1]!.fHigh⟩
  else if t.fOp = 9 then ⟨k[0]!.fLow - k[1]!.fHigh, k[0]!.fHigh - k[1]!.fLow⟩
  else if t.fOp = 10 then
    hull (hull (hull ⟨k[0]!.fLow * k[1]!.fLow, k[0]!.fLow * k[1]!.fLow⟩ ⟨k[0]!.fLow * k[1]!.fHigh, k[0]!.fLow * k[1]!.fHigh⟩) ⟨k[0]!.fHigh * k[1]!.fLow, k[0]!.fHigh * k[1]!.fLow⟩) ⟨k[0]!.fHigh * k[1]!.fHigh, k[0]!.fHigh * k[1]!.fHigh⟩
  else if t.fOp = 11 then
    (if (0 : Int) ≤ k[0]!.fLow ∧ (0 : Int) ≤ k[1]!.fLow then ⟨0, if k[0]!.fHigh < -k[0]!.fLow then -k[0]!.fLow else k[0]!.fHigh⟩ else ⟨-(if k[0]!.fHigh < -k[0]!.fLow then -k[0]!.fLow else k[0]!.fHigh), if k[0]!.fHigh < -k[0]!.fLow then -k[0]!.fLow else k[0]!.fHigh⟩)
  else if t.fOp = 12 then ⟨if k[1]!.fLow < 0 then k[1]!.fLow + 1 else 0, if (0 : Int) < k[1]!.fHigh then k[1]!.fHigh - 1 else 0⟩
  else if t.fOp = 21 then ⟨if k[1]!.fLow < k[0]!.fLow then k[1]!.fLow else k[0]!.fLow, if k[1]!.fHigh < k[0]!.fHigh then k[1]!.fHigh else k[0]!.fHigh⟩
  else if t.fOp = 22 then ⟨if k[0]!.fLow < k[1]!.fLow then k[1]!.fLow else k[0]!.fLow, if k[0]!.fHigh < k[1]!.fHigh then k[1]!.fHigh else k[0]!.fHigh⟩
  else if t.fOp = 23 ∨ t.fOp = 25 then (k.drop 2).foldl hull k[1]!
  else ⟨0, 1⟩
def limS (s : Span) : Bool := decide (-1048576 ≤ s.fLow ∧ s.fHigh ≤ 1048576)
/-- the ranges of a list, if all are within the limit -/
def allS : List (Option Span) → Option (List Span)
  | [] => some []
  | none :: _ => none
  | some s :: xs => match allS xs with | some l => some (s :: l) | none => none
def rngS (vars : List GVar) (t : GTerm) : Option Span := match allS (t.fKids.attach.map fun k => rngS vars k.1) with
  | none => none
  | some l => if limS (ruleS vars t l) = true then some (ruleS vars t l) else none
termination_by SizeOf.sizeOf t
decreasing_by exact GTerm.kids_lt k.2
theorem rngS_eq (vars : List GVar) (t : GTerm) : rngS vars t = match allS (t.fKids.map (rngS vars)) with
  | none => none
  | some l => if limS (ruleS vars t l) = true then some (ruleS vars t l) else none := by
  rw [rngS]
  rw [show (t.fKids.attach.map fun k => rngS vars k.1) = t.fKids.map (rngS vars) from List.attach_map_val (f := rngS vars)]
/-- the code of a term -/
def termC (vars : List GVar) (inp : Bool) (t : GTerm) : Int := if formS vars inp t = false then 1 else if (rngS vars t).isSome then 0 else 3
/-- the code of a hatch -/
def hatC (f : Flat) (i : Nat) (h : Hatch) : Int :=
  if nameB h.fName = false then 7
  else if ((f.fHatches.take i).any fun w => w.fName.toList == h.fName.toList) = true then 8
  else if boundB h.fLow h.fHigh = false then 3
  else termC f.fVars true h.fTerm
/-- the depth of a term -/
def dT (t : GTerm) : Int := 1 + (t.fKids.attach.map fun k => dT k.1).foldl max 0
termination_by SizeOf.sizeOf t
decreasing_by exact GTerm.kids_lt k.2
def dTs (l : List GTerm) : Int := (l.map dT).foldl max 0
theorem dT_eq (t : GTerm) : dT t = 1 + dTs t.fKids := by
  rw [dT, dTs]
  rw [show (t.fKids.attach.map fun k => dT k.1) = t.fKids.map dT from List.attach_map_val (f := dT)]
theorem foldl_max_append (l : List Int) (a x : Int) : (l ++ [x]).foldl max a = max (l.foldl max a) x := by simp [List.foldl_append]
theorem dTs_snoc (l : List GTerm) (k : GTerm) : dTs (l ++ [k]) = max (dTs l) (dT k) := by
  unfold dTs
  rw [List.map_append, List.map_cons, List.map_nil, foldl_max_append]
theorem nTs_snoc (l : List GTerm) (k : GTerm) : nTs (l ++ [k]) = nTs l + nT k := by
  simp [nTs]
theorem le_foldl_max : ∀ (l : List Int) (a : Int), a ≤ l.foldl max a
  | [], a => Int.le_refl _
  | x :: l, a => Int.le_trans (Int.le_max_left a x) (le_foldl_max l (max a x))
theorem dTs_pos (l : List GTerm) : 0 ≤ dTs l := le_foldl_max _ _
theorem dT_pos (t : GTerm) : 1 ≤ dT t := by have := dTs_pos t.fKids; rw [dT_eq]; omega
theorem size_tail (s : GStep) (l : List GStep) : SizeOf.sizeOf l < SizeOf.sizeOf (s :: l) := by
  rw [List.cons.sizeOf_spec]
  omega
/-- the depth of steps -/
def dSs : List GStep → Int
  | [] => 0
  | s :: l => max (max (dSs s.fThen + 1) (dSs s.fElse + 1)) (dSs l)
termination_by l => SizeOf.sizeOf l
decreasing_by
  · exact (sizeOf_then (List.mem_cons_self ..)).1
  · exact (sizeOf_then (List.mem_cons_self ..)).2
  · exact size_tail _ _
/-- a term of a step is too deep -/
def tDeep : List GStep → Bool
  | [] => false
  | s :: l => decide (12 < dT s.fTerm) || tDeep s.fThen || tDeep s.fElse || tDeep l
termination_by l => SizeOf.sizeOf l
decreasing_by
  · exact (sizeOf_then (List.mem_cons_self ..)).1
  · exact (sizeOf_then (List.mem_cons_self ..)).2
  · exact size_tail _ _
theorem dSs_pos (l : List GStep) : 0 ≤ dSs l := by
  induction l with
  | nil => rw [dSs]; omega
  | cons s l ih => rw [dSs]; omega
theorem dSs_snoc (l : List GStep) (s : GStep) : dSs (l ++ [s]) = max (dSs l) (max (dSs s.fThen + 1) (dSs s.fElse + 1)) := by
  induction l with
  | nil =>
    have := dSs_pos s.fThen
    rw [List.nil_append, show dSs [] = 0 by rw [dSs], dSs, show dSs [] = 0 by rw [dSs]]
    omega
  | cons a l ih => rw [List.cons_append, dSs, dSs, ih]; omega
theorem tDeep_snoc (l : List GStep) (s : GStep) : tDeep (l ++ [s]) = (tDeep l || (decide (12 < dT s.fTerm) || tDeep s.fThen || tDeep s.fElse)) := by
  induction l with
  | nil => rw [List.nil_append, show tDeep [] = false by rw [tDeep], tDeep, show tDeep [] = false by rw [tDeep]]; simp
  | cons a l ih => rw [List.cons_append, tDeep, tDeep, ih]; simp only [Bool.or_assoc]
theorem nSs_snoc (l : List GStep) (k : GStep) : nSs (l ++ [k]) = nSs l + nS k := by simp [nSs]
def sizesB (f : Flat) : Bool := decide (f.fVars.length ≤ 64) && decide (f.fHatches.length ≤ 8) && f.fHatches.all (fun h => decide (dT h.fTerm ≤ 12)) && decide (dSs f.fBody ≤ 12) && !tDeep f.fBody
/-- strictly rising -/
def riseB : List Int → Bool
  | a :: b :: l => decide (a < b) && riseB (b :: l)
  | _ => true
def zeroT (t : GTerm) : Bool := decide (t.fOp = 0 ∧ t.fN = 0 ∧ t.fKids.length = 0)
def localB (f : Flat) (s : GStep) : Bool := decide (0 ≤ s.fVar ∧ s.fVar < f.fVars.length) && decide (f.fVars[s.fVar.toNat]!.fKind = 0)
/-- a step has the form of its kind -/
def shapeB (f : Flat) (s : GStep) (last : Bool) : Bool :=
  let free := decide (s.fThen.length = 0 ∧ s.fElse.length = 0)
  let nob := decide (s.fBounds.length = 0)
  if s.fDo = 0 then free && localB f s && decide (s.fN = 0) && nob
  else if s.fDo = 1 then free && decide (s.fVar = 0) && decide (s.fN = 0) && nob
  else if s.fDo = 2 then free && decide (s.fVar = 0) && decide (s.fN = 0) && nob && zeroT s.fTerm
  else if s.fDo = 3 then decide (s.fVar = 0) && decide (s.fN = 0) && nob
  else if s.fDo = 4 then decide (s.fVar = 0) && decide (s.fElse.length = 0) && nob
  else if s.fDo = 5 then free && localB f s && decide (0 ≤ s.fN ∧ s.fN < f.fHatches.length) && nob && zeroT s.fTerm
  else if s.fDo = 6 then free && last && decide (s.fVar = 0) && decide (s.fN = 0) && zeroT s.fTerm && (decide (1 ≤ s.fBounds.length ∧ s.fBounds.length ≤ 32) && decide ((0 : Int) ≤ s.fBounds[0]!) && riseB s.fBounds)
  else false
def numB (s : GStep) : Bool := decide (0 ≤ s.fCost ∧ s.fCost ≤ (if s.fDo = 2 then 67108864 else 10000)) && (if s.fDo = 4 then decide (0 ≤ s.fN ∧ s.fN ≤ 4096) else true) && (if s.fDo = 6 then decide (s.fBounds[s.fBounds.length - 1]! ≤ 67108864) else true)
/-- a step's own code -/
def ownC (f : Flat) (last : Bool) (s : GStep) : Int := if shapeB f s last = false then 1 else if numB s = false then 3 else termC f.fVars false s.fTerm
/-- the code of steps -/
def stepC (f : Flat) (top : Bool) : List GStep → Int
  | [] => 0
  | s :: l => if ownC f (top && l.isEmpty) s ≠ 0 then ownC f (top && l.isEmpty) s else if stepC f false s.fThen ≠ 0 then stepC f false s.fThen else if stepC f false s.fElse ≠ 0 then stepC f false s.fElse else stepC f top l
termination_by l => SizeOf.sizeOf l
decreasing_by
  all_goals first | exact (sizeOf_then (List.mem_cons_self ..)).1 | exact (sizeOf_then (List.mem_cons_self ..)).2 | exact size_tail _ _
/-- the code of the step i of n -/
def stC (f : Flat) (top : Bool) (n i : Nat) (s : GStep) : Int := if ownC f (top && decide (i + 1 = n)) s ≠ 0 then ownC f (top && decide (i + 1 = n)) s else if stepC f false s.fThen ≠ 0 then stepC f false s.fThen else stepC f false s.fElse
theorem stepC_first (f : Flat) (top : Bool) (n : Nat) : ∀ (l : List GStep) (i : Nat), i + l.length = n → firstC (stC f top n) l i = stepC f top l
  | [], i, _ => by rw [stepC]; rfl
  | s :: l, i, h => by
    have ih := stepC_first f top n l (i + 1) (by simp at h; omega)
    have he : l.isEmpty = decide (i + 1 = n) := by
      cases l with
      | nil => simp at h; simp [h]
      | cons a l => simp at h; simp; omega
    unfold firstC
    rw [stepC, ih, he]
    unfold stC
    grind
/-- bounds on what steps do -/
def uSs : List GStep → Int × Int × Int
  | [] => (0, 0, 0)
  | s :: l => match uSs s.fThen, uSs s.fElse, uSs l with
    | a, b, c => if s.fDo = 1 then (1 + c.1, 1 + c.2.1, s.fCost + c.2.2)
      else if s.fDo = 3 then (1 + max a.1 b.1 + c.1, max a.2.1 b.2.1 + c.2.1, s.fCost + max a.2.2 b.2.2 + c.2.2)
      else if s.fDo = 4 then (1 + s.fN * (1 + a.1) + c.1, s.fN * a.2.1 + c.2.1, s.fN * (s.fCost + a.2.2) + c.2.2)
      else (1 + c.1, c.2.1, s.fCost + c.2.2)
termination_by l => SizeOf.sizeOf l
decreasing_by
  · exact (sizeOf_then (List.mem_cons_self ..)).1
  · exact (sizeOf_then (List.mem_cons_self ..)).2
  · exact size_tail _ _
def overB (f : Flat) : Bool := decide (4096 < (uSs f.fBody).1 ∨ 8 < (uSs f.fBody).2.1 ∨ 67108864 < (uSs f.fBody).2.2)
/-- the code of a program -/
def chk (f : Flat) : Int := if sizesB f = false then 4 else if varsC f.fVars ≠ 0 then varsC f.fVars else if firstC (hatC f) f.fHatches 0 ≠ 0 then firstC (hatC f) f.fHatches 0 else if stepC f true f.fBody ≠ 0 then stepC f true f.fBody else if overB f = true then 4 else 0
end Go.Proofs.YtaonipoflmbhgaaGreat
end
