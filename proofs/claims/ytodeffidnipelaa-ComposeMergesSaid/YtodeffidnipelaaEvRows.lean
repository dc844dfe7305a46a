/- Rows of integers that a function makes itself, one block a row, and the slice to which they are appended. -/
import Derived.Test.YtodeffidnipelaaEvRep
namespace Go.Ev
open Go Go.RowKit

/-- x is a slice of integers that reads as l; its cells lie in one block of type T between lo and hi. -/
def ORow (T lo hi : Nat) (w : World) (x : Value) (l : List Int) : Prop :=
  ∃ p c, x = .slice p l.length c ∧ l.length ≤ 9223372036854775807 ∧ (l = [] ∨ ∃ g cur, p = some ⟨g, 0, none⟩ ∧ lo ≤ g ∧ g < hi ∧ Blk w g cur T ∧ ∀ i, i < l.length → cur[i]? = some (.int .i64 (l[i]!)))

def OAll (T lo hi : Nat) (w : World) (xs : List Value) (rows : List (List Int)) : Prop := xs.length = rows.length ∧ ∀ i, i < rows.length → ORow T lo hi w (xs[i]?.getD undef) (rows[i]!)

section
variable {T lo hi hi' : Nat} {w w' : World} {x : Value} {l : List Int} {xs : List Value} {rows : List (List Int)}

theorem ORow.mono (h : ORow T lo hi w x l) (hk : ∀ g cur, lo ≤ g → g < hi → Blk w g cur T → Blk w' g cur T) : ORow T lo hi w' x l := by
  obtain ⟨p, c, h1, h2, h3⟩ := h
  refine ⟨p, c, h1, h2, ?_⟩
  rcases h3 with h3 | ⟨g, cur, h4, h5, h6, h7, h8⟩
  · exact .inl h3
  · exact .inr ⟨g, cur, h4, h5, h6, hk g cur h5 h6 h7, h8⟩

theorem ORow.wide (h : ORow T lo hi w x l) (hh : hi ≤ hi') : ORow T lo hi' w x l := by
  obtain ⟨p, c, h1, h2, h3⟩ := h
  refine ⟨p, c, h1, h2, ?_⟩
  rcases h3 with h3 | ⟨g, cur, h4, h5, h6, h7, h8⟩
  · exact .inl h3
  · exact .inr ⟨g, cur, h4, h5, Nat.lt_of_lt_of_le h6 hh, h7, h8⟩

theorem OAll.nil : OAll T lo hi w [] [] := ⟨rfl, fun i h => by cases h⟩
theorem OAll.mono (h : OAll T lo hi w xs rows) (hk : ∀ g cur, lo ≤ g → g < hi → Blk w g cur T → Blk w' g cur T) : OAll T lo hi w' xs rows := ⟨h.1, fun i hi => (h.2 i hi).mono hk⟩
theorem OAll.wide (h : OAll T lo hi w xs rows) (hh : hi ≤ hi') : OAll T lo hi' w xs rows := ⟨h.1, fun i hi => (h.2 i hi).wide hh⟩
theorem OAll.below (h : OAll T lo hi w xs rows) (H : Below w.heap.size w w') : OAll T lo hi w' xs rows := h.mono fun _ _ _ _ hb => hb.below H
theorem OAll.sto {b : Nat} {cs : Array Value} {T' : TypeId} (h : OAll T lo hi w xs rows) (H : Sto w w' b cs T') (hb : hi ≤ b) : OAll T lo hi w' xs rows := h.mono fun g cur _ h2 hB => hB.sto H (by omega)
theorem OAll.stoT {b : Nat} {cs cs0 : Array Value} {T' T0 : TypeId} (h : OAll T lo hi w xs rows) (H : Sto w w' b cs T') (hb : Blk w b cs0 T0) (hT : T0 ≠ T) : OAll T lo hi w' xs rows := h.mono fun g cur _ _ hB => hB.sto H (by
  rintro rfl
  unfold Blk at hB hb
  rw [hB] at hb
  simp at hb
  exact hT hb.2.symm)
theorem OAll.app {lo' : Nat} {e : TypeId} {v v' : Value} {ys ys0 : List Value} (h : OAll T lo hi w xs rows) (ha : App w w' lo' e v v' ys) (h0 : Own w lo' e v ys0) (hT : T ≠ e) : OAll T lo hi w' xs rows := h.mono fun _ _ _ _ hB => hB.app ha h0 hT

theorem OAll.appLo {lo' : Nat} {e : TypeId} {v v' : Value} {ys ys0 : List Value} (h : OAll T lo hi w xs rows) (ha : App w w' lo' e v v' ys) (h0 : Own w lo' e v ys0) (hh : hi ≤ lo') : OAll T lo hi w' xs rows := h.mono fun g cur _ h2 hB =>
  (ha.grown.block g hB.lt (fun hk => by have := h0.ge g hk.symm; omega)).trans hB
theorem ORow.lower (h : ORow T lo hi w x l) {lo' : Nat} (hh : lo' ≤ lo) : ORow T lo' hi w x l := by
  obtain ⟨p, c, h1, h2, h3⟩ := h
  refine ⟨p, c, h1, h2, ?_⟩
  rcases h3 with h3 | ⟨g, cur, h4, h5, h6, h7, h8⟩
  · exact .inl h3
  · exact .inr ⟨g, cur, h4, Nat.le_trans hh h5, h6, h7, h8⟩

theorem OAll.snoc (h : OAll T lo hi w xs rows) (hx : ORow T lo hi' w x l) (hh : hi ≤ hi') : OAll T lo hi' w (xs ++ [x]) (rows ++ [l]) := by
  refine ⟨by simp [h.1], fun i hi => ?_⟩
  simp only [List.length_append, List.length_cons, List.length_nil, Nat.zero_add] at hi
  by_cases hlt : i < rows.length
  · have := (h.2 i hlt).wide hh
    rw [List.getElem?_append_left (by rw [h.1]; exact hlt)]
    rw [getElem!_pos _ i (by simp; omega), List.getElem_append_left hlt, ← getElem!_pos rows i hlt]
    exact this
  · have hi' : i = rows.length := by omega
    subst hi'
    rw [← h.1, List.getElem?_append_right (Nat.le_refl _), Nat.sub_self]
    rw [getElem!_pos _ xs.length (by simp [h.1]), List.getElem_append_right (by rw [h.1]; exact Nat.le_refl _)]
    simpa [h.1] using hx

/-- a row that has been filled -/
theorem ORow.of {g : Nat} {cur : Array Value} {n c : Nat} (hB : Blk w g cur T) (h1 : lo ≤ g) (hl : l.length = n) (hn : n ≤ 9223372036854775807) (hc : ∀ i, i < n → cur[i]? = some (.int .i64 (l[i]!))) : ORow T lo w.heap.size w (.slice (some ⟨g, 0, none⟩) n c) l :=
  ⟨some ⟨g, 0, none⟩, c, by rw [hl], by omega, .inr ⟨g, cur, rfl, h1, hB.lt, hB, fun i hi => hc i (by omega)⟩⟩

/-- a row that has been appended to -/
theorem ORow.ofOwn {v : Value} (h : Own w lo T v (l.map (.int .i64))) : ORow T lo w.heap.size w v l := by
  obtain ⟨h0, h1⟩ := h
  rcases h1 with ⟨rfl, h2⟩ | ⟨g, cap, cur, rfl, hlo, hg, hn, hm, hs, ht⟩
  · have : l = [] := by simpa using h2
    subst this
    exact ⟨none, 0, rfl, by simp, .inl rfl⟩
  · simp only [List.length_map] at *
    refine ⟨some ⟨g, 0, none⟩, cap, rfl, by unfold maxLen at hm; omega, .inr ⟨g, cur, rfl, hlo, (show Blk w g cur T from hg).lt, hg, fun i hi => ?_⟩⟩
    have h3 : (cur.toList.take (l.length * 1))[i]? = (l.map (Value.int .i64))[i]? := by rw [ht]
    rw [List.getElem?_take, if_pos (by omega), List.getElem?_map, List.getElem?_eq_getElem hi] at h3
    rw [getElem!_pos l i hi]
    simpa using h3

theorem ORow.ints (h : ORow T lo hi w x l) : RInts lo hi w x l := by
  obtain ⟨p, c, h1, h2, h3⟩ := h
  refine ⟨p, c, h1, h2, fun i hi => ?_⟩
  rcases h3 with rfl | ⟨g, cur, rfl, h5, h6, h7, h8⟩
  · cases hi
  · exact ⟨g, 0, _, rfl, h5, h6, h7.cell (by rw [Nat.zero_add]; exact h8 i hi), rfl⟩

/-- The slice of rows, all of them made here. -/
theorem RRows.ofOwn {e : TypeId} {v : Value} (h : Own w lo e v xs) (ha : OAll T lo hi w xs rows) (hh : hi ≤ w.heap.size) (hl : rows.length ≤ 9223372036854775807) : RRows lo w.heap.size w v rows := by
  obtain ⟨h0, h1⟩ := h
  rcases h1 with ⟨rfl, h2⟩ | ⟨g, cap, cur, rfl, hlo, hg, hn, hm, hs, ht⟩
  · have : rows = [] := List.eq_nil_of_length_eq_zero (by rw [← ha.1]; exact h2)
    subst this
    exact Sl.nil _ _ _ _
  · have hB : Blk w g cur e := hg
    refine ⟨some ⟨g, 0, none⟩, cap, by rw [ha.1], hl, fun i hi => ?_⟩
    have hi' : i < xs.length := by rw [ha.1]; exact hi
    refine ⟨g, 0, xs[i], rfl, hlo, hB.lt, hB.cell ?_, ?_⟩
    · have h3 : (cur.toList.take (xs.length * 1))[i]? = xs[i]? := by rw [ht]
      rw [List.getElem?_take, if_pos (by omega), List.getElem?_eq_getElem hi'] at h3
      simpa using h3
    · have := (ha.2 i hi).ints
      rw [List.getElem?_eq_getElem hi'] at this
      exact RInts.wide this (Nat.le_refl _) hh
end

theorem Own.form {w : World} {lo : Nat} {e : TypeId} {v : Value} {xs : List Value} (h : Own w lo e v xs) : ∃ p n c, v = .slice p n c := by
  rcases h.2 with ⟨rfl, _⟩ | ⟨g, cap, cur, rfl, _⟩
  · exact ⟨_, _, _, rfl⟩
  · exact ⟨_, _, _, rfl⟩
theorem Own.app {w w' : World} {lo lo' : Nat} {e e' : TypeId} {v u u' : Value} {xs ys ys0 : List Value} (h : Own w lo e v xs) (ha : App w w' lo' e' u u' ys) (h0 : Own w lo' e' u ys0) (hT : e ≠ e') : Own w' lo e v xs := by
  refine World.ownsRow.kept h ha.grown ?_
  rcases h.2 with ⟨rfl, _⟩ | ⟨g, cap, cur, rfl, _, hg, _⟩
  · exact .inl rfl
  · refine .inr fun heq => ?_
    exact h0.ne (b := g) (cs := cur) (T := e) hg hT heq.symm

/-- a row, filled from the left -/
theorem fill_next {cur : Array Value} {j : Nat} {g : Nat → Value} (h : ∀ i, i < j → cur[i]? = some (g i)) (hj : j < cur.size) : ∀ i, i < j + 1 → (cur.setIfInBounds (0 + j) (g j))[i]? = some (g i) := fun i hi => by
  rw [Nat.zero_add]
  by_cases he : i = j
  · subst he; simp [hj]
  · rw [Array.getElem?_setIfInBounds_ne (by omega)]; exact h i (by omega)
theorem size_set {cur : Array Value} {i n : Nat} {v : Value} (h : cur.size = n) : (cur.setIfInBounds i v).size = n := by rw [Array.size_setIfInBounds, h]
theorem get_range_map (f : Nat → Int) (n i : Nat) (h : i < n) : ((List.range n).map f)[i]! = f i := by
  rw [getElem!_pos _ i (by simpa using h)]; simp
theorem range_map_succ {α : Type} (f : Nat → α) (n : Nat) : (List.range (n + 1)).map f = (List.range n).map f ++ [f n] := by rw [List.range_succ, List.map_append]; rfl
end Go.Ev
