/- A matrix of integers that the function made itself and writes into: one block a row, all of them different. -/
import Derived.Test.YtodeffidnipelaaEvRows
namespace Go.Ev
open Go Go.RowKit

/-- rows under way: G i is the block of row i -/
def OPre (T lo hi : Nat) (w : World) (k C : Nat) (xs : List Value) (G : Nat → Nat) (f : Nat → Nat → Int) : Prop :=
  xs.length = k ∧ (∀ i, i < k → lo ≤ G i ∧ G i < hi ∧ xs[i]? = some (.slice (some ⟨G i, 0, none⟩) C C) ∧ ∃ cur, Blk w (G i) cur T ∧ cur.size = C ∧ ∀ j, j < C → cur[j]? = some (.int .i64 (f i j))) ∧ ∀ i j, i < k → j < k → G i = G j → i = j
/-- where the rows lie -/
def OStat (lo hi R C : Nat) (curo : Array Value) (G : Nat → Nat) : Prop :=
  (∀ i, i < R → lo ≤ G i ∧ G i < hi ∧ curo[i]? = some (.slice (some ⟨G i, 0, none⟩) C C)) ∧ ∀ i j, i < R → j < R → G i = G j → i = j
/-- what stands in the rows, but for row ex -/
def OMat (T : Nat) (w : World) (R C : Nat) (G : Nat → Nat) (f : Nat → Nat → Int) (ex : Nat) : Prop :=
  ∀ i, i < R → i ≠ ex → ∃ cur, Blk w (G i) cur T ∧ cur.size = C ∧ ∀ j, j < C → cur[j]? = some (.int .i64 (f i j))

theorem Blk.neT {w : World} {b b' : Nat} {cs cs' : Array Value} {T T' : TypeId} (h : Blk w b cs T) (h' : Blk w b' cs' T') (hT : T ≠ T') : b ≠ b' := by
  rintro rfl
  unfold Blk at h h'
  rw [h] at h'
  simp at h'
  exact hT h'.2

section
variable {T lo hi hi' k R C : Nat} {w w' : World} {xs : List Value} {G : Nat → Nat} {f g : Nat → Nat → Int} {ex : Nat} {curo : Array Value}
theorem OPre.nil : OPre T lo hi w 0 C [] G f := ⟨rfl, fun i h => by omega, fun i j h => by omega⟩
theorem OPre.mono (h : OPre T lo hi w k C xs G f) (hk : ∀ b cur, lo ≤ b → b < hi → Blk w b cur T → Blk w' b cur T) : OPre T lo hi w' k C xs G f := by
  refine ⟨h.1, fun i hi => ?_, h.2.2⟩
  obtain ⟨h1, h2, h3, cur, h4, h5⟩ := h.2.1 i hi
  exact ⟨h1, h2, h3, cur, hk _ _ h1 h2 h4, h5⟩
theorem OPre.wide (h : OPre T lo hi w k C xs G f) (hh : hi ≤ hi') : OPre T lo hi' w k C xs G f := by
  refine ⟨h.1, fun i hi => ?_, h.2.2⟩
  obtain ⟨h1, h2, h3⟩ := h.2.1 i hi
  exact ⟨h1, by omega, h3⟩
theorem OPre.below (h : OPre T lo hi w k C xs G f) (H : Below w.heap.size w w') : OPre T lo hi w' k C xs G f := h.mono fun _ _ _ _ hb => hb.below H
theorem OPre.sto {b : Nat} {cs : Array Value} {T' : TypeId} (h : OPre T lo hi w k C xs G f) (H : Sto w w' b cs T') (hb : hi ≤ b) : OPre T lo hi w' k C xs G f := h.mono fun _ _ _ h2 hB => hB.sto H (by omega)
theorem OPre.stoT {b : Nat} {cs cs0 : Array Value} {T' T0 : TypeId} (h : OPre T lo hi w k C xs G f) (H : Sto w w' b cs T') (hb : Blk w b cs0 T0) (hT : T0 ≠ T) : OPre T lo hi w' k C xs G f := h.mono fun _ _ _ _ hB => hB.sto H (hB.neT hb (Ne.symm hT))
theorem OPre.app {lo' : Nat} {e : TypeId} {v v' : Value} {ys ys0 : List Value} (h : OPre T lo hi w k C xs G f) (ha : App w w' lo' e v v' ys) (h0 : Own w lo' e v ys0) (hT : T ≠ e) : OPre T lo hi w' k C xs G f := h.mono fun _ _ _ _ hB => hB.app ha h0 hT
theorem OPre.snoc {b : Nat} {cur : Array Value} (h : OPre T lo hi w k C xs G f) (hB : Blk w b cur T) (hlo : lo ≤ b) (hhi : hi ≤ b) (hs : cur.size = C) (hc : ∀ j, j < C → cur[j]? = some (.int .i64 (f k j))) :
    OPre T lo w.heap.size w (k + 1) C (xs ++ [.slice (some ⟨b, 0, none⟩) C C]) (fun i => if i = k then b else G i) f := by
  have hlt := hB.lt
  refine ⟨by rw [List.length_append, h.1]; rfl, fun i hi => ?_, fun i j hi hj he => ?_⟩
  · by_cases hik : i = k
    · subst hik
      simp only [if_true]
      refine ⟨hlo, hlt, ?_, cur, hB, hs, hc⟩
      rw [List.getElem?_append_right (by rw [h.1]; exact Nat.le_refl _), h.1, Nat.sub_self]; rfl
    · simp only [if_neg hik]
      obtain ⟨h1, h2, h3, cur', h4⟩ := h.2.1 i (by omega)
      exact ⟨h1, by omega, by rw [List.getElem?_append_left (by rw [h.1]; omega)]; exact h3, cur', h4⟩
  · by_cases hik : i = k
    · by_cases hjk : j = k
      · omega
      · simp only [if_pos hik, if_neg hjk] at he
        have := (h.2.1 j (by omega)).2.1
        omega
    · by_cases hjk : j = k
      · simp only [if_neg hik, if_pos hjk] at he
        have := (h.2.1 i (by omega)).2.1
        omega
      · simp only [if_neg hik, if_neg hjk] at he
        exact h.2.2 i j (by omega) (by omega) he
theorem OPre.fin {lo' : Nat} {e : TypeId} {v : Value} (hown : Own w lo' e v xs) (h : OPre T lo hi w R C xs G f) (hR : 1 ≤ R) :
    ∃ go capo curo, v = .slice (some ⟨go, 0, none⟩) R capo ∧ Blk w go curo e ∧ lo' ≤ go ∧ OStat lo hi R C curo G ∧ OMat T w R C G f R := by
  obtain ⟨h0, h1⟩ := hown
  rcases h1 with ⟨rfl, h2⟩ | ⟨g, cap, cur, rfl, hlo, hg, hn, hm, hs, ht⟩
  · have := h.1; omega
  · have hB : Blk w g cur e := hg
    refine ⟨g, cap, cur, by rw [h.1], hB, hlo, ⟨fun i hi => ?_, h.2.2⟩, fun i hi _ => (h.2.1 i hi).2.2.2⟩
    obtain ⟨h3, h4, h5, _⟩ := h.2.1 i hi
    refine ⟨h3, h4, ?_⟩
    have h6 : (cur.toList.take (xs.length * 1))[i]? = xs[i]? := by rw [ht]
    rw [List.getElem?_take, if_pos (by have := h.1; omega), h5] at h6
    simpa using h6

theorem OMat.below (h : OMat T w R C G f ex) (H : Below w.heap.size w w') : OMat T w' R C G f ex := fun i hi hx => by
  obtain ⟨cur, h1, h2⟩ := h i hi hx
  exact ⟨cur, h1.below H, h2⟩
theorem OMat.stoT {b : Nat} {cs cs0 : Array Value} {T' T0 : TypeId} (h : OMat T w R C G f ex) (H : Sto w w' b cs T') (hb : Blk w b cs0 T0) (hT : T0 ≠ T) : OMat T w' R C G f ex := fun i hi hx => by
  obtain ⟨cur, h1, h2⟩ := h i hi hx
  exact ⟨cur, h1.sto H (h1.neT hb (Ne.symm hT)), h2⟩
theorem OMat.stoX {b : Nat} {cs : Array Value} {T' : TypeId} (h : OMat T w R C G f ex) (H : Sto w w' b cs T') (hst : OStat lo hi R C curo G) (hx : ex < R) (hb : G ex = b) : OMat T w' R C G f ex := fun i hi hne => by
  obtain ⟨cur, h1, h2⟩ := h i hi hne
  exact ⟨cur, h1.sto H (fun he => hne (hst.2 i ex hi hx (by rw [he, hb]))), h2⟩
theorem OMat.congr (h : OMat T w R C G f ex) (hf : ∀ i j, i < R → i ≠ ex → j < C → f i j = g i j) : OMat T w R C G g ex := fun i hi hx => by
  obtain ⟨cur, h1, h2, h3⟩ := h i hi hx
  exact ⟨cur, h1, h2, fun j hj => by rw [h3 j hj, hf i j hi hx hj]⟩
theorem OMat.hole (h : OMat T w R C G f R) : OMat T w R C G f ex := fun i hi _ => h i hi (by omega)
theorem OMat.join {b : Nat} {cur : Array Value} (h : OMat T w R C G f ex) (hb : G ex = b) (hB : Blk w b cur T) (hs : cur.size = C) (hc : ∀ j, j < C → cur[j]? = some (.int .i64 (g ex j))) (hf : ∀ i j, i < R → i ≠ ex → j < C → f i j = g i j) : OMat T w R C G g R := fun i hi _ => by
  by_cases he : i = ex
  · subst he
    exact ⟨cur, by rw [hb]; exact hB, hs, hc⟩
  · exact h.congr hf i hi he
end
end Go.Ev
namespace Go.Ev
theorem OStat.wide {lo hi hi' R C : Nat} {curo : Array Go.Value} {G : Nat → Nat} (h : OStat lo hi R C curo G) (hh : hi ≤ hi') : OStat lo hi' R C curo G :=
  ⟨fun i hi => ⟨(h.1 i hi).1, Nat.lt_of_lt_of_le (h.1 i hi).2.1 hh, (h.1 i hi).2.2⟩, h.2⟩
end Go.Ev
