/- Plain lemmas for models: numbers, loops. -/
import Derived.Test.YtgdahkddhecloaaIx4
set_option linter.unusedSectionVars false
set_option linter.unusedVariables false
set_option linter.unusedSimpArgs false
namespace Go.Iv
open Go
variable [U : Uni] [L : UniL]
theorem wrap_id {n : Int} (h1 : -9223372036854775808 ≤ n) (h2 : n < 9223372036854775808) : IntKind.i64.wrap n = n := by
  simp [IntKind.wrap, IntKind.bits, IntKind.signed]
  omega
theorem cond_true' {α : Type} (x y : α) : (bif true then x else y) = x := rfl
/-- A loop over a counter: at i it stands at f i; it goes on while g does not hold. -/
theorem advG_count {γ : Type} {rnd : γ → Option (Option γ)} (f : Nat → γ) (n : Nat) (h1 : ∀ i, i < n → rnd (f i) = some (some (f (i + 1))) ∨ ∀ r, rnd (f i) ≠ some (some r)) (h2 : ∀ r, rnd (f n) ≠ some (some r)) : ∀ k i, i + k = n →
    ∃ j, i ≤ j ∧ j ≤ n ∧ advG rnd (f i) = some (f j) ∧ (∀ m, i ≤ m → m < j → rnd (f m) = some (some (f (m + 1)))) ∧ ∀ r, rnd (f j) ≠ some (some r)
  | 0, i, hi => by
    have : i = n := by omega
    subst this
    exact ⟨i, Nat.le_refl _, Nat.le_refl _, advG_stop h2, fun m h3 h4 => by omega, h2⟩
  | k + 1, i, hi => by
    rcases h1 i (by omega) with h | h
    · obtain ⟨j, q1, q2, q3, q4, q5⟩ := advG_count f n h1 h2 k (i + 1) (by omega)
      refine ⟨j, by omega, q2, by rw [advG_step h]; exact q3, fun m h3 h4 => ?_, q5⟩
      by_cases hm : m = i
      · subst hm; exact h
      · exact q4 m (by omega) h4
    · exact ⟨i, Nat.le_refl _, by omega, advG_stop h, fun m h3 h4 => by omega, h⟩
/-- A loop that runs through. -/
theorem advG_all {γ : Type} {rnd : γ → Option (Option γ)} (f : Nat → γ) (n : Nat) (h1 : ∀ i, i < n → rnd (f i) = some (some (f (i + 1)))) (h2 : ∀ r, rnd (f n) ≠ some (some r)) : advG rnd (f 0) = some (f n) := by
  have key : ∀ k i, i + k = n → advG rnd (f i) = some (f n) := by
    intro k
    induction k with
    | zero => intro i hi; have : i = n := by omega
              subst this; exact advG_stop h2
    | succ k ih => intro i hi; rw [advG_step (h1 i (by omega))]; exact ih (i + 1) (by omega)
  exact key n 0 (by omega)
/-- What a loop over a list comes to. -/
def runL {α β : Type} (step : β → α → Option β) : List α → β → β
  | [], b => b
  | x :: xs, b => match step b x with
    | some b' => runL step xs b'
    | none => b
/-- What comes of it: ret where it is left, fin at the end. -/
def foldE {α β ρ : Type} (step : β → α → Option β) (ret : β → α → ρ) (fin : β → ρ) : List α → β → ρ
  | [], b => fin b
  | x :: xs, b => match step b x with
    | some b' => foldE step ret fin xs b'
    | none => ret b x
/-- A loop over a list: it stands at mk i b, b what was made of the first i. -/
theorem advG_list {γ α β ρ : Type} {rnd : γ → Option (Option γ)} (l : List α) (mk : Nat → β → γ) (step : β → α → Option β) (ret : β → α → ρ) (fin : β → ρ) (I : Nat → β → Prop)
    (h1 : ∀ i b (hi : i < l.length), I i b → ∀ b', step b l[i] = some b' → rnd (mk i b) = some (some (mk (i + 1) b')) ∧ I (i + 1) b')
    (h2 : ∀ i b (hi : i < l.length), I i b → step b l[i] = none → ∀ r, rnd (mk i b) ≠ some (some r)) (h3 : ∀ b, I l.length b → ∀ r, rnd (mk l.length b) ≠ some (some r)) {b : β} (hb : I 0 b) :
    ∃ i v, i ≤ l.length ∧ advG rnd (mk 0 b) = some (mk i v) ∧ I i v ∧ ((i = l.length ∧ foldE step ret fin l b = fin v) ∨ ∃ hi : i < l.length, step v l[i] = none ∧ foldE step ret fin l b = ret v l[i]) := by
  have key : ∀ (xs : List α) (i : Nat) (b : β), l.drop i = xs → i ≤ l.length → I i b → ∃ j v, j ≤ l.length ∧ advG rnd (mk i b) = some (mk j v) ∧ I j v ∧ ((j = l.length ∧ foldE step ret fin xs b = fin v) ∨ ∃ hi : j < l.length, step v l[j] = none ∧ foldE step ret fin xs b = ret v l[j]) := by
    intro xs
    induction xs with
    | nil =>
      intro i b hd hi hb
      have : i = l.length := by have := congrArg List.length hd; simp at this; omega
      subst this
      exact ⟨_, b, Nat.le_refl _, advG_stop (h3 b hb), hb, .inl ⟨rfl, rfl⟩⟩
    | cons x xs ih =>
      intro i b hd hi hb
      have hil : i < l.length := by have := congrArg List.length hd; simp at this; omega
      have hx : l[i] = x := by
        have := congrArg List.head? hd
        rw [List.head?_drop, List.getElem?_eq_getElem hil] at this
        simpa using this
      have hd' : l.drop (i + 1) = xs := by
        have := congrArg List.tail hd
        rw [List.tail_drop] at this
        simpa using this
      cases hs : step b x with
      | some b' =>
        obtain ⟨q1, q2⟩ := h1 i b hil hb b' (by rw [hx]; exact hs)
        obtain ⟨j, v, e1, e2, e3, e4⟩ := ih (i + 1) b' hd' hil q2
        have er : foldE step ret fin (x :: xs) b = foldE step ret fin xs b' := by simp only [foldE, hs]
        exact ⟨j, v, e1, by rw [advG_step q1]; exact e2, e3, by rw [er]; exact e4⟩
      | none =>
        have er : foldE step ret fin (x :: xs) b = ret b x := by simp only [foldE, hs]
        exact ⟨i, b, hi, advG_stop (h2 i b hil hb (by rw [hx]; exact hs)), hb, .inr ⟨hil, by rw [hx]; exact hs, by rw [er, hx]⟩⟩
  exact key l 0 b rfl (Nat.zero_le _) hb
end Go.Iv
