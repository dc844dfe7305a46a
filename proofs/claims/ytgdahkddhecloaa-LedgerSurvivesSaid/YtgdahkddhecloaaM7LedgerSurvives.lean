/- Merged: Lz, Lza, Lzb0, Ls5, Lzb, Iy1, Opg, Lzc. -/
import Derived.Test.YtgdahkddhecloaaM6LedgerSurvives
import Derived.Test.YtgdahkddhecloaaM3LedgerSurvives
import Derived.Deep.Slices
import Derived.Lib.SmallJoins
section
set_option linter.unusedSectionVars false
set_option linter.unusedVariables false
set_option linter.unusedSimpArgs false
namespace Go.Proofs.Ytgdahkddhecloaa.S
open Go Go.Iv

theorem dec_enc {r : Record} (h : okR r = true) : dec (enc r) = (r, true) := by
  unfold dec
  rw [be_get r h, if_pos ⟨enc_len r, h, rfl⟩]
theorem dec_inv {b : List Int} (h : (dec b).2 = true) : okR (dec b).1 = true ∧ enc (dec b).1 = b := by
  unfold dec at h ⊢
  split at h
  · rename_i c
    rw [if_pos c]
    exact ⟨c.2.1, c.2.2⟩
  · cases h
theorem enc_inj {r s : Record} (h1 : okR r = true) (h2 : okR s = true) (h : enc r = enc s) : r = s := by
  rw [← be_get r h1, ← be_get s h2, h]
def chn : Int → List Record → Prop
  | _, [] => True
  | last, r :: rs => last ≤ r.fEpoch ∧ chn r.fEpoch rs
def lastE (last : Int) (rl : List Record) : Int := rl.foldl (fun _ r => r.fEpoch) last
theorem lastE_append (last : Int) (a b : List Record) : lastE last (a ++ b) = lastE (lastE last a) b := List.foldl_append
theorem chn_append : ∀ (a b : List Record) (last : Int), chn last (a ++ b) ↔ chn last a ∧ chn (lastE last a) b
  | [], b, last => by simp [chn, lastE]
  | r :: a, b, last => by
    have := chn_append a b r.fEpoch
    show _ ∧ chn _ (a ++ b) ↔ (_ ∧ chn _ a) ∧ chn (lastE r.fEpoch a) b
    rw [this, and_assoc]
theorem rcs_eq {L : List (List Int)} (hs : L.length = 12) (n : Int) : ∀ (rl : List Record) (p : Nat) (last : Int), 1 ≤ p → p + rl.length ≤ 12 →
    (∀ k, k < rl.length → L[p + k]! = enc rl[k]! ∧ okR rl[k]! = true ∧ rl[k]!.fSeq = (p : Int) - 1 + k ∧ rl[k]!.fEpoch ≤ n) → chn last rl →
    (p + rl.length ≤ 11 → ∀ r, okR r = true → L[p + rl.length]! = enc r → r.fSeq = (p : Int) - 1 + rl.length → ¬ (lastE last rl ≤ r.fEpoch ∧ r.fEpoch ≤ n)) → rcs n (L.drop p) ((p : Int) - 1) last = rl := by
  intro rl
  induction rl with
  | nil =>
    intro p last h1 h2 h3 h4 h5
    by_cases hp : p = 12
    · subst hp
      rw [List.drop_of_length_le (by omega), rcs]
    · have hp' : p < L.length := by simp at h2; omega
      rw [List.drop_eq_getElem_cons hp', rcs, if_neg]
      rintro ⟨q1, q2, q3, q4⟩
      obtain ⟨e1, e2⟩ := dec_inv q1
      exact h5 (by simp; omega) _ e1 (by simp only [List.length_nil, Nat.add_zero]; rw [getElem!_pos L p hp', e2]) (by rw [q2]; simp) ⟨q3, q4⟩
  | cons r rl ih =>
    intro p last h1 h2 h3 h4 h5
    have hp' : p < L.length := by simp at h2; omega
    obtain ⟨e1, e2, e3, e4⟩ := h3 0 (by simp)
    have e1 : L[p] = enc r := by rw [← getElem!_pos L p hp']; exact e1
    have e2 : okR r = true := e2
    have e3 : r.fSeq = (p : Int) - 1 := by have : r.fSeq = (p : Int) - 1 + (0 : Nat) := e3; omega
    have e4 : r.fEpoch ≤ n := e4
    have := ih (p + 1) r.fEpoch (by omega) (by simp at h2; omega) (fun k hk => by
      obtain ⟨q1, q2, q3, q4⟩ := h3 (k + 1) (by simp; omega)
      rw [show p + (k + 1) = p + 1 + k from by omega] at q1
      exact ⟨q1, q2, by have : rl[k]!.fSeq = (p : Int) - 1 + (k + 1 : Nat) := q3; rw [this]; omega, q4⟩) h4.2 (fun hle s hs1 hs2 hs3 => h5 (by simp; omega) s hs1 (by rw [← hs2]; congr 1; simp; omega) (by rw [hs3]; simp; omega))
    rw [List.drop_eq_getElem_cons hp', e1, rcs, dec_enc e2, if_pos ⟨rfl, e3, h4.1, e4⟩]
    rw [show (((p + 1 : Nat) : Int) - 1) = (p : Int) - 1 + 1 from by omega] at this
    rw [this]
/-- what the sectors hold: the records rl, of epochs up to n, and nothing that goes on with them -/
structure Core (L : List (List Int)) (n : Int) (rl : List Record) : Prop where
  le : rl.length ≤ 11
  el : ∀ k, k < rl.length → L[k + 1]! = enc rl[k]! ∧ okR rl[k]! = true ∧ rl[k]!.fSeq = k ∧ rl[k]!.fEpoch ≤ n
  ch : chn 1 rl
  st : rl.length ≤ 10 → ∀ r, okR r = true → L[rl.length + 1]! = enc r → r.fSeq = rl.length → r.fEpoch < lastE 1 rl
/-- nothing behind them is of epoch n or later -/
def Aft (L : List (List Int)) (n : Int) (m : Nat) : Prop := ∀ p, m < p → p ≤ 11 → ∀ r, okR r = true → L[p]! = enc r → r.fSeq = (p : Int) - 1 → r.fEpoch < n
theorem Core.recs {L : List (List Int)} {n : Int} {rl : List Record} (hs : Sec L) (h : Core L n rl) : recsF L n = rl := by
  have hle := h.le
  exact rcs_eq hs.len n rl 1 1 (by omega) (by omega) (fun k hk => by
    obtain ⟨q1, q2, q3, q4⟩ := h.el k hk
    exact ⟨by rw [Nat.add_comm]; exact q1, q2, by rw [q3]; omega, q4⟩) h.ch (fun hl r h1 h2 h3 h4 => by
    have := h.st (by omega) r h1 (by rw [Nat.add_comm]; exact h2) (by rw [h3]; omega)
    omega)
/-- sectors after writes of records -/
structure Wr (L L2 : List (List Int)) (n : Int) (next : Nat) (rs : List Record) (m x : Nat) : Prop where
  xm : x ≤ m
  ml : m ≤ rs.length
  ei : ∀ p, L2[p]! = L[p]! ∨ ∃ i, i < m ∧ p = next + 1 + i ∧ L2[p]! = enc (stamp n ((next + i : Nat) : Int) rs[i]!)
  wr : ∀ i, i < x → L2[next + 1 + i]! = enc (stamp n ((next + i : Nat) : Int) rs[i]!)
  sto : L2[next + 1 + x]! = L[next + 1 + x]!
def stamps (n : Int) (next : Nat) (rs : List Record) (x : Nat) : List Record := (List.range x).map fun i : Nat => stamp n ((next + i : Nat) : Int) rs[i]!
theorem stamps_len (n : Int) (next : Nat) (rs : List Record) (x : Nat) : (stamps n next rs x).length = x := by simp [stamps]
theorem stamps_succ (n : Int) (next : Nat) (rs : List Record) (x : Nat) : stamps n next rs (x + 1) = stamps n next rs x ++ [stamp n ((next + x : Nat) : Int) rs[x]!] := by
  unfold stamps
  rw [List.range_succ, List.map_append]
  rfl
theorem stamps_get (n : Int) (next : Nat) (rs : List Record) (x i : Nat) (h : i < x) : (stamps n next rs x)[i]! = stamp n ((next + i : Nat) : Int) rs[i]! := by
  rw [getElem!_pos _ i (by rw [stamps_len]; exact h)]
  simp [stamps]
theorem lastE_stamps (n : Int) (next : Nat) (rs : List Record) (last : Int) : ∀ x, 0 < x → lastE last (stamps n next rs x) = n
  | 0, h => by omega
  | x + 1, _ => by rw [stamps_succ, lastE_append]; rfl
theorem chn_stamps (n : Int) (next : Nat) (rs : List Record) (last : Int) (h : last ≤ n) : ∀ x, chn last (stamps n next rs x)
  | 0 => trivial
  | x + 1 => by
    rw [stamps_succ, chn_append]
    refine ⟨chn_stamps n next rs last h x, ?_, trivial⟩
    by_cases hx : 0 < x
    · rw [lastE_stamps _ _ _ _ _ hx]; exact Int.le_refl _
    · have : x = 0 := by omega
      subst this
      exact h
theorem lastE_le {n : Int} : ∀ (rl : List Record) (last : Int), last ≤ n → (∀ k, k < rl.length → rl[k]!.fEpoch ≤ n) → lastE last rl ≤ n
  | [], last, h, _ => h
  | r :: rl, last, h, hr => lastE_le rl r.fEpoch (hr 0 (by simp)) fun k hk => hr (k + 1) (by simp; omega)
theorem get_app1 {α : Type} [Inhabited α] (a b : List α) {k : Nat} (h : k < a.length) : (a ++ b)[k]! = a[k]! := by
  rw [getElem!_pos _ k (by rw [List.length_append]; omega), getElem!_pos a k h, List.getElem_append_left h]
theorem get_app2 {α : Type} [Inhabited α] (a b : List α) {k : Nat} (h : k < b.length) : (a ++ b)[a.length + k]! = b[k]! := by
  rw [getElem!_pos _ _ (by rw [List.length_append]; omega), getElem!_pos b k h, List.getElem_append_right (by omega)]
  congr 1
  omega
theorem Core.wr {L L2 : List (List Int)} {n : Int} {rl rs : List Record} {m x : Nat} (h : Core L n rl) (ha : Aft L n rl.length) (n1 : 1 ≤ n) (n2 : n ≤ 2147483647) (hv : ∀ r ∈ rs, okT r) (hm : rl.length + m ≤ 11) (hw : Wr L L2 n rl.length rs m x) :
    Core L2 n (rl ++ stamps n rl.length rs x) ∧ Aft L2 (n + 1) (rl.length + x) ∧ (x = m → Aft L2 n (rl.length + x)) := by
  have hx := hw.xm
  have hml := hw.ml
  have hok : ∀ i, i < m → okR (stamp n ((rl.length + i : Nat) : Int) rs[i]!) = true := fun i hi => (hv _ (get_mem (by omega))).stamp (by omega) n2 (by omega) (by omega)
  have hold : ∀ p, p ≤ rl.length → L2[p]! = L[p]! := fun p hp => by
    rcases hw.ei p with e | ⟨i, _, e, _⟩
    · exact e
    · omega
  have hll : lastE 1 rl ≤ n := lastE_le rl 1 n1 fun k hk => (h.el k hk).2.2.2
  have hlen : (rl ++ stamps n rl.length rs x).length = rl.length + x := by rw [List.length_append, stamps_len]
  refine ⟨⟨by omega, fun k hk => ?_, ?_, fun hl r h1 h2 h3 => ?_⟩, fun p hp hp2 r h1 h2 h3 => ?_, fun hxm p hp hp2 r h1 h2 h3 => ?_⟩
  · by_cases hk1 : k < rl.length
    · rw [get_app1 _ _ hk1, hold (k + 1) (by omega)]
      exact h.el k hk1
    · obtain ⟨i, rfl⟩ : ∃ i, k = rl.length + i := ⟨k - rl.length, by omega⟩
      have hi : i < x := by omega
      rw [get_app2 _ _ (by rw [stamps_len]; exact hi), stamps_get _ _ _ _ _ hi, show rl.length + i + 1 = rl.length + 1 + i from by omega, hw.wr i hi]
      exact ⟨rfl, hok i (by omega), rfl, Int.le_refl _⟩
  · rw [chn_append]
    exact ⟨h.ch, chn_stamps _ _ _ _ hll _⟩
  · rw [hlen] at hl h2 h3
    rw [show rl.length + x + 1 = rl.length + 1 + x from by omega, hw.sto] at h2
    rw [lastE_append]
    by_cases hx0 : 0 < x
    · rw [lastE_stamps _ _ _ _ _ hx0]
      exact ha (rl.length + 1 + x) (by omega) (by omega) r h1 h2 (by rw [h3]; omega)
    · have : x = 0 := by omega
      subst this
      exact h.st (by omega) r h1 h2 (by rw [h3]; simp)
  · rcases hw.ei p with e | ⟨i, hi, e1, e2⟩
    · rw [e] at h2
      have := ha p (by omega) hp2 r h1 h2 h3
      omega
    · rw [e2] at h2
      have := enc_inj (hok i hi) h1 h2
      rw [← this]
      show n < n + 1
      omega
  · rcases hw.ei p with e | ⟨i, hi, e1, e2⟩
    · rw [e] at h2
      exact ha p (by omega) hp2 r h1 h2 h3
    · omega
end Go.Proofs.Ytgdahkddhecloaa.S
end
section
set_option linter.unusedSectionVars false
set_option linter.unusedVariables false
set_option linter.unusedSimpArgs false
namespace Go.Proofs.Ytgdahkddhecloaa.S
open Go Go.Iv

theorem set_get (L : List (List Int)) (i p : Nat) (b : List Int) (h : i < L.length) : (L.set i b)[p]! = if p = i then b else L[p]! := by
  rw [List.getElem!_eq_getElem?_getD, List.getElem!_eq_getElem?_getD]
  by_cases e : p = i
  · subst e
    rw [if_pos rfl, List.getElem?_set_self h]
    rfl
  · rw [if_neg e, List.getElem?_set_ne (by omega)]
theorem wS_get (n : Int) (next : Nat) (rs : List Record) (m i : Nat) (h : i < m) : (wS n next rs m)[i]! = ⟨((1 + next + i : Nat) : Int), enc (stamp n ((next + i : Nat) : Int) rs[i]!)⟩ := by
  rw [getElem!_pos _ i (by rw [wS_len]; exact h)]
  simp [wS]
theorem app_wS {L : List (List Int)} (hs : L.length = 12) (n : Int) (next : Nat) (rs : List Record) : ∀ i, next + i ≤ 11 → ∀ p, (∃ j, j < i ∧ p = next + 1 + j ∧ (app L (wS n next rs i))[p]! = enc (stamp n ((next + j : Nat) : Int) rs[j]!)) ∨ ((∀ j, j < i → p ≠ next + 1 + j) ∧ (app L (wS n next rs i))[p]! = L[p]!)
  | 0, _, p => .inr ⟨fun j hj => by omega, rfl⟩
  | i + 1, hi, p => by
    have e : app L (wS n next rs (i + 1)) = (app L (wS n next rs i)).set (1 + next + i) (enc (stamp n ((next + i : Nat) : Int) rs[i]!)) := by
      rw [wS_succ, app, List.foldl_append]
      rfl
    rw [e, set_get _ _ _ _ (by rw [app_len, hs]; omega)]
    by_cases hp : p = 1 + next + i
    · rw [if_pos hp]
      exact .inl ⟨i, by omega, by omega, rfl⟩
    · rw [if_neg hp]
      rcases app_wS hs n next rs i (by omega) p with ⟨j, h1, h2, h3⟩ | ⟨h1, h2⟩
      · exact .inl ⟨j, by omega, h2, h3⟩
      · refine .inr ⟨fun j hj => ?_, h2⟩
        by_cases hj' : j = i
        · omega
        · exact h1 j (by omega)
theorem crN_wS {L : List (List Int)} (hs : L.length = 12) (n : Int) (next : Nat) (rs : List Record) (keep : List Bool) (m : Nat) (hm : next + m ≤ 11) : ∀ i, i ≤ m → ∀ p, (∃ j, j < i ∧ p = next + 1 + j ∧ (crN L (wS n next rs m) keep i)[p]! = enc (stamp n ((next + j : Nat) : Int) rs[j]!)) ∨ (crN L (wS n next rs m) keep i)[p]! = L[p]!
  | 0, _, p => .inr rfl
  | i + 1, hi, p => by
    have ih := crN_wS hs n next rs keep m hm i (by omega) p
    have ih' : (∃ j, j < i + 1 ∧ p = next + 1 + j ∧ (crN L (wS n next rs m) keep i)[p]! = enc (stamp n ((next + j : Nat) : Int) rs[j]!)) ∨ (crN L (wS n next rs m) keep i)[p]! = L[p]! := by
      rcases ih with ⟨j, h1, h2⟩ | h
      · exact .inl ⟨j, by omega, h2⟩
      · exact .inr h
    rw [crN]
    split
    · rw [wS_get _ _ _ _ _ (by omega)]
      show (∃ j, j < i + 1 ∧ p = next + 1 + j ∧ ((crN L (wS n next rs m) keep i).set (1 + next + i) (enc (stamp n ((next + i : Nat) : Int) rs[i]!)))[p]! = _) ∨ ((crN L (wS n next rs m) keep i).set (1 + next + i) (enc (stamp n ((next + i : Nat) : Int) rs[i]!)))[p]! = _
      rw [set_get _ _ _ _ (by rw [crN_len, hs]; omega)]
      by_cases hp : p = 1 + next + i
      · rw [if_pos hp]
        exact .inl ⟨i, by omega, by omega, rfl⟩
      · rw [if_neg hp]
        exact ih'
    · exact ih'
theorem first_not (q : Nat → Prop) : ∀ m, ∃ x, x ≤ m ∧ (∀ i, i < x → q i) ∧ (x = m ∨ ¬ q x)
  | 0 => ⟨0, Nat.le_refl _, fun i hi => by omega, .inl rfl⟩
  | m + 1 => by
    obtain ⟨x, h1, h2, h3⟩ := first_not q m
    rcases h3 with h3 | h3
    · subst h3
      by_cases hq : q x
      · exact ⟨x + 1, Nat.le_refl _, fun i hi => by
          by_cases e : i = x
          · subst e; exact hq
          · exact h2 i (by omega), .inl rfl⟩
      · exact ⟨x, by omega, h2, .inr hq⟩
    · exact ⟨x, by omega, h2, .inr h3⟩
theorem wr_none (L : List (List Int)) (n : Int) (next : Nat) (rs : List Record) : Wr L L n next rs 0 0 := ⟨Nat.le_refl _, Nat.zero_le _, fun p => .inl rfl, fun i hi => by omega, rfl⟩
theorem wr_all {L : List (List Int)} (hs : L.length = 12) (n : Int) (next : Nat) (rs : List Record) (h : next + rs.length ≤ 11) : Wr L (app L (wS n next rs rs.length)) n next rs rs.length rs.length := by
  have key := app_wS hs n next rs rs.length h
  refine ⟨Nat.le_refl _, Nat.le_refl _, fun p => ?_, fun i hi => ?_, ?_⟩
  · rcases key p with ⟨j, h1⟩ | ⟨_, h2⟩
    · exact .inr ⟨j, h1⟩
    · exact .inl h2
  · rcases key (next + 1 + i) with ⟨j, h1, h2, h3⟩ | ⟨h1, _⟩
    · have : j = i := by omega
      subst this
      exact h3
    · exact absurd rfl (h1 i hi)
  · rcases key (next + 1 + rs.length) with ⟨j, h1, h2, h3⟩ | ⟨_, h2⟩
    · omega
    · exact h2
theorem wr_some {L : List (List Int)} (hs : L.length = 12) (n : Int) (next : Nat) (rs : List Record) (keep : List Bool) (m : Nat) (hm : next + m ≤ 11) (hr : m ≤ rs.length) : ∃ x, Wr L (crN L (wS n next rs m) keep m) n next rs m x := by
  have key := crN_wS hs n next rs keep m hm m (Nat.le_refl _)
  obtain ⟨x, h1, h2, h3⟩ := first_not (fun i => (crN L (wS n next rs m) keep m)[next + 1 + i]! = enc (stamp n ((next + i : Nat) : Int) rs[i]!)) m
  refine ⟨x, h1, hr, fun p => ?_, h2, ?_⟩
  · rcases key p with h | h
    · exact .inr h
    · exact .inl h
  · rcases key (next + 1 + x) with ⟨j, q1, q2, q3⟩ | h
    · have : j = x := by omega
      subst this
      rcases h3 with h3 | h3
      · omega
      · exact absurd q3 h3
    · exact h
theorem get_set0 (L : List (List Int)) (b : List Int) (p : Nat) (hp : p ≠ 0) : (L.set 0 b)[p]! = L[p]! := by
  rw [List.getElem!_eq_getElem?_getD, List.getElem!_eq_getElem?_getD, List.getElem?_set_ne (by omega)]
theorem Core.set0 {L : List (List Int)} {n m : Int} {rl : List Record} (h : Core L n rl) (b : List Int) (hnm : n ≤ m) : Core (L.set 0 b) m rl :=
  ⟨h.le, fun k hk => by
    rw [get_set0 L b (k + 1) (by omega)]
    obtain ⟨q1, q2, q3, q4⟩ := h.el k hk
    exact ⟨q1, q2, q3, by omega⟩, h.ch, fun hl r h1 h2 h3 => by
    rw [get_set0 L b _ (by omega)] at h2
    exact h.st hl r h1 h2 h3⟩
theorem Aft.set0 {L : List (List Int)} {n : Int} {m : Nat} (h : Aft L n m) (b : List Int) : Aft (L.set 0 b) n m := fun p h1 h2 r h3 h4 h5 => by
  rw [get_set0 L b p (by omega)] at h4
  exact h p h1 h2 r h3 h4 h5
/-- alike -/
structure Lk (rl S : List Record) : Prop where
  len : rl.length = S.length
  at' : ∀ k, k < S.length → m23 rl[k]! S[k]! = true
theorem m23_stamp (n k : Int) (r : Record) : m23 (stamp n k r) r = true := by simp [m23, stamp]
theorem Lk.append {a b c d : List Record} (h1 : Lk a b) (h2 : Lk c d) : Lk (a ++ c) (b ++ d) := ⟨by rw [List.length_append, List.length_append, h1.len, h2.len], fun k hk => by
  by_cases hk1 : k < b.length
  · rw [get_app1 _ _ hk1, get_app1 _ _ (by rw [h1.len]; exact hk1)]
    exact h1.at' k hk1
  · obtain ⟨i, rfl⟩ : ∃ i, k = b.length + i := ⟨k - b.length, by omega⟩
    have hi : i < d.length := by rw [List.length_append] at hk; omega
    rw [get_app2 _ _ hi, ← h1.len, get_app2 _ _ (by rw [h2.len]; exact hi)]
    exact h2.at' i hi⟩
theorem Lk.stamps (n : Int) (next : Nat) (rs : List Record) (x : Nat) (h : x ≤ rs.length) : Lk (stamps n next rs x) (rs.take x) := ⟨by rw [stamps_len, List.length_take]; omega, fun k hk => by
  have hk' : k < x := by rw [List.length_take] at hk; omega
  rw [stamps_get _ _ _ _ _ hk', getElem!_pos (rs.take x) k hk, List.getElem_take, getElem!_pos rs k (by omega)]
  exact m23_stamp _ _ _⟩
theorem chn_ge : ∀ (rl : List Record) (last : Int), chn last rl → ∀ k, k < rl.length → last ≤ rl[k]!.fEpoch
  | r :: rl, last, h, 0, _ => h.1
  | r :: rl, last, h, k + 1, hk => by
    have h1 := h.1
    have h2 := chn_ge rl r.fEpoch h.2 k (by simpa using hk)
    have : last ≤ rl[k]!.fEpoch := by omega
    exact this
structure Sv (s : Pl) (rl S : List Record) : Prop where
  core : Core s.L s.n rl
  aft : Aft s.L s.n rl.length
  nx : rl.length = s.next
  lk : Lk rl S
/-- what a round shows -/
def GS (e : GEvent) (o : Outcome) (S S' : List Record) : Prop :=
  if o.fOpened = true then ∃ x, x ≤ e.fRecords.length ∧ (0 < x → o.fCode = 17) ∧ S' = (if o.fCode = 0 then S ++ e.fRecords else S) ++ e.fRecords.take x ∧ o.fList.length = S'.length ∧ ∀ k, k < S'.length → m23 o.fList[k]! S'[k]! = true ∧ o.fList[k]!.fSeq = k ∧ 1 ≤ o.fList[k]!.fEpoch ∧ o.fList[k]!.fEpoch < o.fEpoch
  else S' = if o.fCode = 0 then S ++ e.fRecords else S
theorem ne16 : ¬ (16 : Int) = 0 := by decide
theorem ne17 : ¬ (17 : Int) = 0 := by decide
theorem crN_nil (L : List (List Int)) (keep : List Bool) : crN L [] keep ([] : List Write).length = L := rfl
section
variable {s : Pl} {k : Nat} (hi : Inv s k) (hk : k ≤ 100) {e : GEvent} (he : okE e) {rl S : List Record} (hv : Sv s rl S)
include hi hk he hv
/-- after an opening -/
theorem opened {L2 : List (List Int)} (hs : Sec L2) {m x : Nat} (hw : Wr s.L L2 s.n rl.length e.fRecords m x) (hm : rl.length + m ≤ 11) :
    recsF L2 s.n = rl ++ stamps s.n rl.length e.fRecords x ∧ Sv ⟨L2.set 0 (encH h0 (s.n + 1)), s.n + 1, (recsF L2 s.n).length⟩ (rl ++ stamps s.n rl.length e.fRecords x) (S ++ e.fRecords.take x)
    ∧ ∀ j, j < (S ++ e.fRecords.take x).length → m23 (recsF L2 s.n)[j]! (S ++ e.fRecords.take x)[j]! = true ∧ (recsF L2 s.n)[j]!.fSeq = j ∧ 1 ≤ (recsF L2 s.n)[j]!.fEpoch ∧ (recsF L2 s.n)[j]!.fEpoch < s.n + 1 := by
  have hn2 : s.n ≤ 2147483647 := by have := hi.nk; omega
  obtain ⟨c1, c2, _⟩ := hv.core.wr hv.aft hi.n1 hn2 he.rv hm hw
  have hr := c1.recs hs
  have hlk := hv.lk.append (Lk.stamps s.n rl.length e.fRecords x (Nat.le_trans hw.xm hw.ml))
  have hl : (rl ++ stamps s.n rl.length e.fRecords x).length = rl.length + x := by rw [List.length_append, stamps_len]
  refine ⟨hr, ⟨c1.set0 _ (show s.n ≤ s.n + 1 by omega), by rw [hl]; exact c2.set0 _, by rw [hr], hlk⟩, fun j hj => ?_⟩
  rw [hr]
  have hj' : j < (rl ++ stamps s.n rl.length e.fRecords x).length := by rw [hlk.len]; exact hj
  obtain ⟨_, _, q3, q4⟩ := c1.el j hj'
  exact ⟨hlk.at' j hj, q3, chn_ge _ 1 c1.ch j hj', by omega⟩
theorem round : ∃ rl' S', Sv (stepF s e).2 rl' S' ∧ GS e (stepF s e).1 S S' := by
  have hn2 : s.n ≤ 2147483647 := by have := hi.nk; omega
  have hnx := hv.nx
  obtain ⟨a1, a2, a3, _⟩ := ap_ok hi hk he
  have tk : ∀ l : List Record, l ++ e.fRecords.take 0 = l := fun l => by simp
  unfold stepF
  dsimp only
  unfold apF at a1 a2 a3 ⊢
  by_cases c1 : e.fRecords.length = 0
  · have hnil := List.eq_nil_of_length_eq_zero c1
    rw [if_pos c1] at a1 a2 a3 ⊢
    dsimp only at a1 a2 a3 ⊢
    by_cases hc : e.fCrash = true
    · rw [if_pos (.inl hc)]
      obtain ⟨q1, q2, q3⟩ := opened hi hk he hv hi.sec (wr_none s.L s.n rl.length e.fRecords) (by have := hv.core.le; omega)
      refine ⟨_, _, q2, ?_⟩
      unfold GS
      rw [if_pos rfl]
      exact ⟨0, by omega, fun h => by omega, by rw [if_pos rfl, hnil]; simp, by rw [crN_nil, q1, q2.lk.len], q3⟩
    · rw [if_neg (by rintro (h | h); exact hc h; cases h)]
      refine ⟨rl, S, ⟨hv.core, hv.aft, by rw [if_pos rfl, c1]; exact hnx, hv.lk⟩, ?_⟩
      unfold GS
      rw [if_neg (fun h => by cases h), if_pos rfl, hnil, List.append_nil]
  · rw [if_neg c1] at a1 a2 a3 ⊢
    by_cases c2 : 12 ≤ s.next + e.fRecords.length
    · rw [if_pos c2] at a1 a2 a3 ⊢
      dsimp only at a1 a2 a3 ⊢
      by_cases hc : e.fCrash = true
      · rw [if_pos (.inl hc)]
        obtain ⟨q1, q2, q3⟩ := opened hi hk he hv hi.sec (wr_none s.L s.n rl.length e.fRecords) (by have := hv.core.le; omega)
        refine ⟨_, _, q2, ?_⟩
        unfold GS
        rw [if_pos rfl]
        exact ⟨0, by omega, fun h => by omega, by rw [if_neg ne16], by rw [crN_nil, q1, q2.lk.len], q3⟩
      · rw [if_neg (by rintro (h | h); exact hc h; cases h)]
        refine ⟨rl, S, ⟨hv.core, hv.aft, by rw [if_neg ne16]; exact hnx, hv.lk⟩, ?_⟩
        unfold GS
        rw [if_neg (fun h => by cases h), if_neg ne16]
    · rw [if_neg c2] at a1 a2 a3 ⊢
      by_cases c3 : lft e < 0 ∨ (e.fRecords.length : Int) < lft e
      · rw [if_pos c3] at a1 a2 a3 ⊢
        dsimp only at a1 a2 a3 ⊢
        rw [← hnx] at a1 ⊢
        have hw := wr_all hi.sec.len s.n rl.length e.fRecords (by omega)
        by_cases hc : e.fCrash = true
        · rw [if_pos (.inl hc)]
          obtain ⟨q1, q2, q3⟩ := opened hi hk he hv a1 hw (by omega)
          rw [List.take_length] at q2 q3
          refine ⟨_, _, q2, ?_⟩
          unfold GS
          rw [if_pos rfl]
          exact ⟨0, by omega, fun h => by omega, by rw [if_pos rfl, tk], by rw [crN_nil, q1, q2.lk.len], q3⟩
        · rw [if_neg (by rintro (h | h); exact hc h; cases h)]
          obtain ⟨r1, r2, r3⟩ := hv.core.wr hv.aft hi.n1 hn2 he.rv (by omega) hw
          have hlk := hv.lk.append (Lk.stamps s.n rl.length e.fRecords e.fRecords.length (Nat.le_refl _))
          have hl : (rl ++ stamps s.n rl.length e.fRecords e.fRecords.length).length = rl.length + e.fRecords.length := by rw [List.length_append, stamps_len]
          rw [List.take_length] at hlk
          refine ⟨_, _, ⟨r1, by rw [hl]; exact r3 rfl, by rw [hl, if_pos rfl], hlk⟩, ?_⟩
          unfold GS
          rw [if_neg (fun h => by cases h), if_pos rfl]
      · rw [if_neg c3] at a1 a2 a3 ⊢
        dsimp only at a1 a2 a3 ⊢
        rw [← hnx] at a3 ⊢
        rw [if_pos (.inr rfl)]
        dsimp only
        rw [wS_len]
        have hj : (lft e).toNat ≤ e.fRecords.length := by omega
        obtain ⟨x, hw⟩ := wr_some hi.sec.len s.n rl.length e.fRecords e.fKeep (lft e).toNat (by omega) hj
        obtain ⟨q1, q2, q3⟩ := opened hi hk he hv (crN_sec hi.sec wS_mem e.fKeep _ (by rw [wS_len]; omega)).1 hw (by omega)
        refine ⟨_, _, q2, ?_⟩
        unfold GS
        rw [if_pos rfl]
        exact ⟨x, Nat.le_trans hw.xm hj, fun _ => rfl, by rw [if_neg ne17], by rw [q1, q2.lk.len], q3⟩
end
theorem sv0 : Sv s0 [] [] := by
  have hz : ∀ p, p ≠ 0 → p ≤ 11 → s0.L[p]! = zs := fun p h1 h2 => by
    exact (get_set0 (zd.set 0 (encH h0 0)) (encH h0 1) p h1).trans ((get_set0 zd (encH h0 0) p h1).trans (by rw [getElem!_pos zd p (by rw [List.length_replicate]; omega), List.getElem_replicate]))
  have hne : ∀ r, ¬ zs = enc r := fun r h => by
    have := congrArg List.head? h
    simp [enc, pad, List.replicate] at this
  exact ⟨⟨by simp, fun k hk => by simp at hk, trivial, fun _ r _ h2 => by rw [hz _ (by simp) (by simp)] at h2; exact absurd h2 (hne r)⟩, fun p h1 h2 r _ h3 => by rw [hz p (by simp at h1; omega) h2] at h3; exact absurd h3 (hne r), rfl, ⟨rfl, fun k hk => by simp at hk⟩⟩
/-- a history shows what it must -/
def Good : List GEvent → List Outcome → List Record → Prop
  | [], [], _ => True
  | e :: es, o :: os, S => ∃ S', S'.length ≤ 11 ∧ GS e o S S' ∧ Good es os S'
  | _, _, _ => False
theorem good_run : ∀ (es : List GEvent) (k : Nat) (s : Pl) (rl S : List Record), k + es.length ≤ 100 → (∀ e ∈ es, okE e) → Inv s k → Sv s rl S → Good es (runF s es) S
  | [], _, _, _, _, _, _, _, _ => trivial
  | e :: es, k, s, rl, S, hk, hv, hi, hs => by
    have he := hv e (List.mem_cons_self ..)
    have hk' : k ≤ 100 := by simp at hk; omega
    obtain ⟨rl', S', h1, h2⟩ := round hi hk' he hs
    exact ⟨S', by rw [← h1.lk.len]; exact h1.core.le, h2, good_run es (k + 1) _ rl' S' (by simp at hk; omega) (fun e h => hv e (List.mem_cons_of_mem _ h)) (stepF_inv hi hk' he) h1⟩
theorem run_len : ∀ (es : List GEvent) (s : Pl), (runF s es).length = es.length
  | [], _ => rfl
  | e :: es, s => by simp [runF, run_len es]
end Go.Proofs.Ytgdahkddhecloaa.S
end
section
set_option linter.unusedSectionVars false
set_option linter.unusedVariables false
set_option linter.unusedSimpArgs false
namespace Go.Proofs.Ytgdahkddhecloaa.S
open Go Go.Iv

def okRb (r : Record) : Bool := okR (stamp 0 0 r)
def okEb (e : GEvent) : Bool := decide (e.fRecords.length ≤ 5) && decide (e.fKeep.length ≤ 20) && e.fRecords.all okRb
theorem m9_st (r : Record) : m9 (Record.mk 0 0 r.fSecret r.fClient r.fNumber r.fProgram r.fPublic r.fAnswer r.fCharge) = some (okRb r) := m9_eq _
theorem n21_1_at (l : List GEvent) (m t : Int) (rs : List Record) (hr : rs.length ≤ 100) (i : Nat) (hi : i < rs.length) : n21_1 ⟨l, m, t, rs, rs.length, i⟩ = if okRb rs[i]! = true then some (some ⟨l, m, t, rs, rs.length, ((i + 1 : Nat) : Int)⟩) else some none := by
  unfold n21_1
  dsimp only
  rw [decide_eq_true (by omega), cond_true, if_pos (by omega), Int.toNat_natCast, m9_st, w1 hi (by omega)]
  dsimp only
  cases okRb rs[i]! <;> rfl
theorem a21_1_eq (l : List GEvent) (m t : Int) (rs : List Record) (hr : rs.length ≤ 100) : ∃ j : Nat, a21_1 ⟨l, m, t, rs, rs.length, 0⟩ = some ⟨l, m, t, rs, rs.length, j⟩ ∧ ((j = rs.length ∧ rs.all okRb = true) ∨ (j < rs.length ∧ okRb rs[j]! = false ∧ rs.all okRb = false)) := by
  obtain ⟨j, q1, q2, q3, q4, q5⟩ := advG_count (rnd := n21_1) (fun i => ⟨l, m, t, rs, rs.length, (i : Nat)⟩) rs.length (fun i hi => by
      rw [n21_1_at l m t rs hr i hi]
      by_cases e : okRb rs[i]! = true
      · rw [if_pos e]; exact .inl rfl
      · rw [if_neg e]; exact .inr fun r => by simp) (fun r => by
      unfold n21_1
      dsimp only
      rw [decide_eq_false (by omega)]
      simp) rs.length 0 (by omega)
  refine ⟨j, q3, ?_⟩
  have hlt : ∀ i, i < j → okRb rs[i]! = true := fun i hi => by
    have h1 := q4 i (by omega) hi
    rw [n21_1_at l m t rs hr i (by omega)] at h1
    by_cases e : okRb rs[i]! = true
    · exact e
    · rw [if_neg e] at h1; simp at h1
  by_cases hj : j = rs.length
  · refine .inl ⟨hj, List.all_eq_true.2 fun r hr => ?_⟩
    obtain ⟨i, hi, rfl⟩ := List.getElem_of_mem hr
    rw [← getElem!_pos rs i hi]
    exact hlt i (by omega)
  · have hj' : j < rs.length := by omega
    have hb : okRb rs[j]! = false := by
      cases e : okRb rs[j]!
      · rfl
      · have h1 := q5 ⟨l, m, t, rs, rs.length, ((j + 1 : Nat) : Int)⟩
        rw [n21_1_at l m t rs hr j hj', if_pos e] at h1
        exact absurd rfl h1
    exact .inr ⟨hj', hb, List.all_eq_false.2 ⟨rs[j]!, get_mem hj', by rw [hb]; decide⟩⟩
theorem n21_0_at (l : List GEvent) (hl : l.length ≤ 100) (i : Nat) (hi : i < l.length) : n21_0 ⟨l, l.length, i⟩ = if okEb l[i]! = true then some (some ⟨l, l.length, ((i + 1 : Nat) : Int)⟩) else some none := by
  unfold n21_0
  dsimp only
  rw [decide_eq_true (by omega), cond_true, if_pos (by omega), Int.toNat_natCast]
  unfold okEb
  by_cases c1 : l[i]!.fRecords.length ≤ 5
  · rw [decide_eq_false (show ¬ (5 : Int) < (l[i]!.fRecords.length : Int) by omega), cond_false, decide_eq_true c1]
    by_cases c2 : l[i]!.fKeep.length ≤ 20
    · rw [decide_eq_false (show ¬ (20 : Int) < (l[i]!.fKeep.length : Int) by omega), decide_eq_true c2]
      dsimp only
      rw [cond_false]
      obtain ⟨j, h1, h2⟩ := a21_1_eq l l.length i l[i]!.fRecords (by omega)
      rw [h1]
      dsimp only
      rcases h2 with ⟨h2, h3⟩ | ⟨h2, h3, h4⟩
      · rw [decide_eq_false (by omega), cond_false, h3, w1 hi (by omega)]
        rfl
      · rw [decide_eq_true (by omega), cond_true, if_pos (by omega), Int.toNat_natCast, m9_st, h3, h4]
        rfl
    · rw [decide_eq_true (show (20 : Int) < (l[i]!.fKeep.length : Int) by omega), decide_eq_false c2]
      rfl
  · rw [decide_eq_true (show (5 : Int) < (l[i]!.fRecords.length : Int) by omega), decide_eq_false c1]
    rfl
theorem m21_eq (l : List GEvent) : m21 l = some (decide (l.length ≤ 12) && l.all okEb) := by
  unfold m21
  by_cases c : l.length ≤ 12
  · rw [decide_eq_false (show ¬ (12 : Int) < (l.length : Int) by omega), cond_false, decide_eq_true c, Bool.true_and]
    obtain ⟨j, q1, q2, q3, q4, q5⟩ := advG_count (rnd := n21_0) (fun i => ⟨l, l.length, (i : Nat)⟩) l.length (fun i hi => by
        rw [n21_0_at l (by omega) i hi]
        by_cases e : okEb l[i]! = true
        · rw [if_pos e]; exact .inl rfl
        · rw [if_neg e]; exact .inr fun r => by simp) (fun r => by
        unfold n21_0
        dsimp only
        rw [decide_eq_false (by omega)]
        simp) l.length 0 (by omega)
    have q3' : a21_0 ⟨l, l.length, 0⟩ = some ⟨l, l.length, j⟩ := q3
    rw [q3']
    dsimp only
    have hlt : ∀ i, i < j → okEb l[i]! = true := fun i hi => by
      have h1 := q4 i (by omega) hi
      rw [n21_0_at l (by omega) i (by omega)] at h1
      by_cases e : okEb l[i]! = true
      · exact e
      · rw [if_neg e] at h1; simp at h1
    by_cases hj : j = l.length
    · have : l.all okEb = true := List.all_eq_true.2 fun r hr => by
        obtain ⟨i, hi, rfl⟩ := List.getElem_of_mem hr
        rw [← getElem!_pos l i hi]
        exact hlt i (by omega)
      rw [decide_eq_false (by omega), cond_false, this]
    · have hj' : j < l.length := by omega
      have hb : okEb l[j]! = false := by
        cases e : okEb l[j]!
        · rfl
        · have h1 := q5 ⟨l, l.length, ((j + 1 : Nat) : Int)⟩
          rw [n21_0_at l (by omega) j hj', if_pos e] at h1
          exact absurd rfl h1
      have hall : l.all okEb = false := List.all_eq_false.2 ⟨l[j]!, get_mem hj', by rw [hb]; decide⟩
      rw [decide_eq_true (by omega), cond_true, if_pos (by omega), Int.toNat_natCast, hall]
      unfold okEb at hb
      by_cases c1 : l[j]!.fRecords.length ≤ 5
      · rw [decide_eq_false (show ¬ (5 : Int) < (l[j]!.fRecords.length : Int) by omega), cond_false]
        rw [decide_eq_true c1] at hb
        by_cases c2 : l[j]!.fKeep.length ≤ 20
        · rw [decide_eq_true c2] at hb
          rw [decide_eq_false (show ¬ (20 : Int) < (l[j]!.fKeep.length : Int) by omega)]
          dsimp only
          rw [cond_false]
          obtain ⟨t, h1, h2⟩ := a21_1_eq l l.length j l[j]!.fRecords (by omega)
          rw [h1]
          dsimp only
          rcases h2 with ⟨h2, h3⟩ | ⟨h2, h3, h4⟩
          · rw [h3] at hb; cases hb
          · rw [decide_eq_true (by omega), cond_true, if_pos (by omega), Int.toNat_natCast, m9_st, h3]
            rfl
        · rw [decide_eq_true (show (20 : Int) < (l[j]!.fKeep.length : Int) by omega)]
          rfl
      · rw [decide_eq_true (show (5 : Int) < (l[j]!.fRecords.length : Int) by omega)]
        rfl
  · rw [decide_eq_true (show (12 : Int) < (l.length : Int) by omega), cond_true, decide_eq_false c]
    rfl
theorem okE_of {e : GEvent} (h : okEb e = true) (hl : e.fLeft ≤ 9223372036854775807) : okE e := by
  unfold okEb at h
  simp only [Bool.and_eq_true, decide_eq_true_eq] at h
  exact ⟨h.1.1, h.1.2, fun r hr => List.all_eq_true.1 h.2 r hr, hl⟩
end Go.Proofs.Ytgdahkddhecloaa.S
end
section
set_option linter.unusedSectionVars false
set_option linter.unusedVariables false
set_option linter.unusedSimpArgs false
set_option maxRecDepth 100000
namespace Go.Proofs.Ytgdahkddhecloaa.S
open Go Go.Iv
/-! ### 5: keyhole/keyholelaw50.LedgerSurvives -/
noncomputable def F5 : Orc := (e23 (e22 (e21 (e7 or0))))
theorem F5_ok : OrcG Try.prog F5 := (e23_ok (e22_ok (e21_ok (e7_okv gv7 or0_g))))
structure L5_1 where
  t0 : List GEvent
  t5 : List Record
  t30 : List Outcome
  t31 : Int
  t32 : Int
  t89 : Int
  t90 : Int
  b1 : Outcome
abbrev P5_1 : Type := ((List GEvent) × Unit × Unit × Unit × Int × Int × Int × Int × Unit) × ((List Record) × Outcome × (List Outcome) × Unit)
noncomputable def rb5_1 : St → Option P5_1 := stR 3 (slC 0 (asL 57) (slC 5 (asO 0) (slC 7 (asP 1 0) (slC 30 (asO 2) (slC 31 (asI .i64) (slC 32 (asI .i64) (slC 89 (asI .i64) (slC 90 (asI .i64) slN)))))))) (rsR 0 23 (rsN2 1 54 (asCs 54) (rsR 2 54 rsN)))
noncomputable def pb5_1 : P5_1 → St := stP 3 (fun z => [(0, .sl 57 z.1), (5, .own 0), (7, .ptr 1 0), (30, .own 2), (31, .n .i64 z.2.2.2.2.1), (32, .n .i64 z.2.2.2.2.2.1), (89, .n .i64 z.2.2.2.2.2.2.1), (90, .n .i64 z.2.2.2.2.2.2.2.1)]) (fun z => [(0, .row 23 z.1), (1, .box 54 (uni.cells 54 z.2.1)), (2, .row 54 z.2.2.1)])
noncomputable def mk5_1 (z : P5_1) : L5_1 := ⟨z.1.1, z.2.1, z.2.2.2.1, z.1.2.2.2.2.1, z.1.2.2.2.2.2.1, z.1.2.2.2.2.2.2.1, z.1.2.2.2.2.2.2.2.1, z.2.2.1⟩
noncomputable def pt5_1 (x : L5_1) : St := pb5_1 ((x.t0, (), (), (), x.t31, x.t32, x.t89, x.t90, ()), (x.t5, x.b1, x.t30, ()))
noncomputable def rd5_1 : St → Option L5_1 := rdC 0 [] [0, 5, 7, 30, 31, 32, 89, 90] (rdM mk5_1 rb5_1)
theorem rb5_1_ok (n : Nat) : RdOk 0 n rb5_1 pb5_1 := stR_ok (.cons (.l 57) (.cons (.o 0) (.cons (.p 1 0) (.cons (.o 2) (.cons (.i .i64) (.cons (.i .i64) (.cons (.i .i64) (.cons (.i .i64) .nil)))))))) (.row (.boxN (PkN.parse 54) (.row .nil)))
theorem rd5_1_ok (n : Nat) : RdOk 0 n rd5_1 pt5_1 := rdC_ok ((rb5_1_ok n).m mk5_1 (pat' := pt5_1) fun _ => rfl)
noncomputable def n5_1 (p : L5_1) : Option (Option L5_1) :=
  bif decide (p.t90 < p.t89) then
    if (0 : Int) ≤ p.t90 ∧ p.t90 < (↑p.b1.fList.length : Int) then
      if (0 : Int) ≤ p.t90 ∧ p.t90 < (↑p.t5.length : Int) then
        if 23 = 23 ∧ p.t90.toNat < p.t5.length then
          bif bif m23 p.b1.fList[p.t90.toNat]! p.t5[p.t90.toNat]! then false else true then
            some (none)
          else
            if (0 : Int) ≤ p.t90 ∧ p.t90 < (↑p.b1.fList.length : Int) then
              bif bif decide (p.b1.fList[p.t90.toNat]!.fSeq = p.t90) then false else true then
                some (none)
              else
                if (0 : Int) ≤ p.t90 ∧ p.t90 < (↑p.b1.fList.length : Int) then
                  bif decide (p.b1.fList[p.t90.toNat]!.fEpoch < 1) then
                    some (none)
                  else
                    if (0 : Int) ≤ p.t90 ∧ p.t90 < (↑p.b1.fList.length : Int) then
                      bif decide (p.b1.fEpoch ≤ p.b1.fList[p.t90.toNat]!.fEpoch) then
                        some (none)
                      else
                        some (some (L5_1.mk p.t0 p.t5 p.t30 p.t31 p.t32 p.t89 (IntKind.i64.wrap (p.t90 + 1)) p.b1))
                    else
                      none
                else
                  none
            else
              none
        else
          none
      else
        none
    else
      none
  else
    some (none)
theorem q5_1 (p : L5_1) : execA Try.prog (F5) Try.f5.ntmps 300 (loopAt Try.f5 1) .no (Option L5_1) (pt5_1 p) (kOn rd5_1) = n5_1 p := by kernel_rfl
noncomputable def a5_1 : L5_1 → Option L5_1 := advG (n5_1)
structure L5_0 where
  t0 : List GEvent
  t5 : List Record
  t30 : List Outcome
  t31 : Int
  t32 : Int
abbrev P5_0 : Type := ((List GEvent) × Unit × Unit × Int × Int × Unit) × ((List Record) × (List Outcome) × Unit)
noncomputable def rb5_0 : St → Option P5_0 := stR 2 (slC 0 (asL 57) (slC 5 (asO 0) (slC 30 (asO 1) (slC 31 (asI .i64) (slC 32 (asI .i64) slN))))) (rsR 0 23 (rsR 1 54 rsN))
noncomputable def pb5_0 : P5_0 → St := stP 2 (fun z => [(0, .sl 57 z.1), (5, .own 0), (30, .own 1), (31, .n .i64 z.2.2.2.1), (32, .n .i64 z.2.2.2.2.1)]) (fun z => [(0, .row 23 z.1), (1, .row 54 z.2.1)])
noncomputable def mk5_0 (z : P5_0) : L5_0 := ⟨z.1.1, z.2.1, z.2.2.1, z.1.2.2.2.1, z.1.2.2.2.2.1⟩
noncomputable def pt5_0 (x : L5_0) : St := pb5_0 ((x.t0, (), (), x.t31, x.t32, ()), (x.t5, x.t30, ()))
noncomputable def rd5_0 : St → Option L5_0 := rdC 0 [] [0, 5, 30, 31, 32] (rdM mk5_0 rb5_0)
theorem rb5_0_ok (n : Nat) : RdOk 0 n rb5_0 pb5_0 := stR_ok (.cons (.l 57) (.cons (.o 0) (.cons (.o 1) (.cons (.i .i64) (.cons (.i .i64) .nil))))) (.row (.row .nil))
theorem rd5_0_ok (n : Nat) : RdOk 0 n rd5_0 pt5_0 := rdC_ok ((rb5_0_ok n).m mk5_0 (pat' := pt5_0) fun _ => rfl)
noncomputable def n5_0 (p : L5_0) : Option (Option L5_0) :=
  bif decide (p.t32 < p.t31) then
    if (0 : Int) ≤ p.t32 ∧ p.t32 < (↑p.t30.length : Int) then
      if 54 = 54 ∧ p.t32.toNat < p.t30.length then
        bif decide (p.t30[p.t32.toNat]!.fCode = 0) then
          if (0 : Int) ≤ p.t32 ∧ p.t32 < (↑p.t0.length : Int) then
            if (p.t5 ++ p.t0[p.t32.toNat]!.fRecords).length ≤ 1073741824 then
              bif bif p.t30[p.t32.toNat]!.fOpened then false else true then
                some (some (L5_0.mk p.t0 (p.t5 ++ p.t0[p.t32.toNat]!.fRecords) p.t30 p.t31 (IntKind.i64.wrap (p.t32 + 1))))
              else
                match bif decide (IntKind.i64.wrap ((↑p.t30[p.t32.toNat]!.fList.length : Int) - (↑(p.t5 ++ p.t0[p.t32.toNat]!.fRecords).length : Int)) < 0) then
                  some (true)
                else
                  bif decide (0 < IntKind.i64.wrap ((↑p.t30[p.t32.toNat]!.fList.length : Int) - (↑(p.t5 ++ p.t0[p.t32.toNat]!.fRecords).length : Int))) then
                    bif bif decide (p.t30[p.t32.toNat]!.fCode = 17) then false else true then
                      some (true)
                    else
                      if (0 : Int) ≤ p.t32 ∧ p.t32 < (↑p.t0.length : Int) then
                        some (decide ((↑p.t0[p.t32.toNat]!.fRecords.length : Int) < IntKind.i64.wrap ((↑p.t30[p.t32.toNat]!.fList.length : Int) - (↑(p.t5 ++ p.t0[p.t32.toNat]!.fRecords).length : Int))))
                      else
                        none
                  else
                    some (false) with
                | none =>
                  none
                | some r1 =>
                  bif r1 then
                    some (none)
                  else
                    bif decide (0 < IntKind.i64.wrap ((↑p.t30[p.t32.toNat]!.fList.length : Int) - (↑(p.t5 ++ p.t0[p.t32.toNat]!.fRecords).length : Int))) then
                      if (0 : Int) ≤ p.t32 ∧ p.t32 < (↑p.t0.length : Int) then
                        if (0 : Int) ≤ IntKind.i64.wrap ((↑p.t30[p.t32.toNat]!.fList.length : Int) - (↑(p.t5 ++ p.t0[p.t32.toNat]!.fRecords).length : Int)) ∧ IntKind.i64.wrap ((↑p.t30[p.t32.toNat]!.fList.length : Int) - (↑(p.t5 ++ p.t0[p.t32.toNat]!.fRecords).length : Int)) ≤ (↑p.t0[p.t32.toNat]!.fRecords.length : Int) then
                          if (p.t5 ++ p.t0[p.t32.toNat]!.fRecords ++ List.take (IntKind.i64.wrap ((↑p.t30[p.t32.toNat]!.fList.length : Int) - (↑(p.t5 ++ p.t0[p.t32.toNat]!.fRecords).length : Int))).toNat p.t0[p.t32.toNat]!.fRecords).length ≤ 1073741824 then
                            match a5_1 (L5_1.mk p.t0 (p.t5 ++ p.t0[p.t32.toNat]!.fRecords ++ List.take (IntKind.i64.wrap ((↑p.t30[p.t32.toNat]!.fList.length : Int) - (↑(p.t5 ++ p.t0[p.t32.toNat]!.fRecords).length : Int))).toNat p.t0[p.t32.toNat]!.fRecords) p.t30 p.t31 p.t32 (↑(p.t5 ++ p.t0[p.t32.toNat]!.fRecords ++ List.take (IntKind.i64.wrap ((↑p.t30[p.t32.toNat]!.fList.length : Int) - (↑(p.t5 ++ p.t0[p.t32.toNat]!.fRecords).length : Int))).toNat p.t0[p.t32.toNat]!.fRecords).length : Int) (0) p.t30[p.t32.toNat]!) with
                            | none =>
                              none
                            | some r2 =>
                              bif decide (r2.t90 < r2.t89) then
                                if (0 : Int) ≤ r2.t90 ∧ r2.t90 < (↑r2.b1.fList.length : Int) then
                                  if (0 : Int) ≤ r2.t90 ∧ r2.t90 < (↑r2.t5.length : Int) then
                                    if 23 = 23 ∧ r2.t90.toNat < r2.t5.length then
                                      bif bif m23 r2.b1.fList[r2.t90.toNat]! r2.t5[r2.t90.toNat]! then false else true then
                                        some (none)
                                      else
                                        if (0 : Int) ≤ r2.t90 ∧ r2.t90 < (↑r2.b1.fList.length : Int) then
                                          bif bif decide (r2.b1.fList[r2.t90.toNat]!.fSeq = r2.t90) then false else true then
                                            some (none)
                                          else
                                            if (0 : Int) ≤ r2.t90 ∧ r2.t90 < (↑r2.b1.fList.length : Int) then
                                              bif decide (r2.b1.fList[r2.t90.toNat]!.fEpoch < 1) then
                                                some (none)
                                              else
                                                if (0 : Int) ≤ r2.t90 ∧ r2.t90 < (↑r2.b1.fList.length : Int) then
                                                  bif decide (r2.b1.fEpoch ≤ r2.b1.fList[r2.t90.toNat]!.fEpoch) then
                                                    some (none)
                                                  else
                                                    none
                                                else
                                                  none
                                            else
                                              none
                                        else
                                          none
                                    else
                                      none
                                  else
                                    none
                                else
                                  none
                              else
                                some (some (L5_0.mk r2.t0 r2.t5 r2.t30 r2.t31 (IntKind.i64.wrap (r2.t32 + 1))))
                          else
                            none
                        else
                          none
                      else
                        none
                    else
                      match a5_1 (L5_1.mk p.t0 (p.t5 ++ p.t0[p.t32.toNat]!.fRecords) p.t30 p.t31 p.t32 (↑(p.t5 ++ p.t0[p.t32.toNat]!.fRecords).length : Int) (0) p.t30[p.t32.toNat]!) with
                      | none =>
                        none
                      | some r3 =>
                        bif decide (r3.t90 < r3.t89) then
                          if (0 : Int) ≤ r3.t90 ∧ r3.t90 < (↑r3.b1.fList.length : Int) then
                            if (0 : Int) ≤ r3.t90 ∧ r3.t90 < (↑r3.t5.length : Int) then
                              if 23 = 23 ∧ r3.t90.toNat < r3.t5.length then
                                bif bif m23 r3.b1.fList[r3.t90.toNat]! r3.t5[r3.t90.toNat]! then false else true then
                                  some (none)
                                else
                                  if (0 : Int) ≤ r3.t90 ∧ r3.t90 < (↑r3.b1.fList.length : Int) then
                                    bif bif decide (r3.b1.fList[r3.t90.toNat]!.fSeq = r3.t90) then false else true then
                                      some (none)
                                    else
                                      if (0 : Int) ≤ r3.t90 ∧ r3.t90 < (↑r3.b1.fList.length : Int) then
                                        bif decide (r3.b1.fList[r3.t90.toNat]!.fEpoch < 1) then
                                          some (none)
                                        else
                                          if (0 : Int) ≤ r3.t90 ∧ r3.t90 < (↑r3.b1.fList.length : Int) then
                                            bif decide (r3.b1.fEpoch ≤ r3.b1.fList[r3.t90.toNat]!.fEpoch) then
                                              some (none)
                                            else
                                              none
                                          else
                                            none
                                      else
                                        none
                                  else
                                    none
                              else
                                none
                            else
                              none
                          else
                            none
                        else
                          some (some (L5_0.mk r3.t0 r3.t5 r3.t30 r3.t31 (IntKind.i64.wrap (r3.t32 + 1))))
            else
              none
          else
            none
        else
          bif bif p.t30[p.t32.toNat]!.fOpened then false else true then
            some (some (L5_0.mk p.t0 p.t5 p.t30 p.t31 (IntKind.i64.wrap (p.t32 + 1))))
          else
            match bif decide (IntKind.i64.wrap ((↑p.t30[p.t32.toNat]!.fList.length : Int) - (↑p.t5.length : Int)) < 0) then
              some (true)
            else
              bif decide (0 < IntKind.i64.wrap ((↑p.t30[p.t32.toNat]!.fList.length : Int) - (↑p.t5.length : Int))) then
                bif bif decide (p.t30[p.t32.toNat]!.fCode = 17) then false else true then
                  some (true)
                else
                  if (0 : Int) ≤ p.t32 ∧ p.t32 < (↑p.t0.length : Int) then
                    some (decide ((↑p.t0[p.t32.toNat]!.fRecords.length : Int) < IntKind.i64.wrap ((↑p.t30[p.t32.toNat]!.fList.length : Int) - (↑p.t5.length : Int))))
                  else
                    none
              else
                some (false) with
            | none =>
              none
            | some r4 =>
              bif r4 then
                some (none)
              else
                bif decide (0 < IntKind.i64.wrap ((↑p.t30[p.t32.toNat]!.fList.length : Int) - (↑p.t5.length : Int))) then
                  if (0 : Int) ≤ p.t32 ∧ p.t32 < (↑p.t0.length : Int) then
                    if (0 : Int) ≤ IntKind.i64.wrap ((↑p.t30[p.t32.toNat]!.fList.length : Int) - (↑p.t5.length : Int)) ∧ IntKind.i64.wrap ((↑p.t30[p.t32.toNat]!.fList.length : Int) - (↑p.t5.length : Int)) ≤ (↑p.t0[p.t32.toNat]!.fRecords.length : Int) then
                      if (p.t5 ++ List.take (IntKind.i64.wrap ((↑p.t30[p.t32.toNat]!.fList.length : Int) - (↑p.t5.length : Int))).toNat p.t0[p.t32.toNat]!.fRecords).length ≤ 1073741824 then
                        match a5_1 (L5_1.mk p.t0 (p.t5 ++ List.take (IntKind.i64.wrap ((↑p.t30[p.t32.toNat]!.fList.length : Int) - (↑p.t5.length : Int))).toNat p.t0[p.t32.toNat]!.fRecords) p.t30 p.t31 p.t32 (↑(p.t5 ++ List.take (IntKind.i64.wrap ((↑p.t30[p.t32.toNat]!.fList.length : Int) - (↑p.t5.length : Int))).toNat p.t0[p.t32.toNat]!.fRecords).length : Int) (0) p.t30[p.t32.toNat]!) with
                        | none =>
                          none
                        | some r5 =>
                          bif decide (r5.t90 < r5.t89) then
                            if (0 : Int) ≤ r5.t90 ∧ r5.t90 < (↑r5.b1.fList.length : Int) then
                              if (0 : Int) ≤ r5.t90 ∧ r5.t90 < (↑r5.t5.length : Int) then
                                if 23 = 23 ∧ r5.t90.toNat < r5.t5.length then
                                  bif bif m23 r5.b1.fList[r5.t90.toNat]! r5.t5[r5.t90.toNat]! then false else true then
                                    some (none)
                                  else
                                    if (0 : Int) ≤ r5.t90 ∧ r5.t90 < (↑r5.b1.fList.length : Int) then
                                      bif bif decide (r5.b1.fList[r5.t90.toNat]!.fSeq = r5.t90) then false else true then
                                        some (none)
                                      else
                                        if (0 : Int) ≤ r5.t90 ∧ r5.t90 < (↑r5.b1.fList.length : Int) then
                                          bif decide (r5.b1.fList[r5.t90.toNat]!.fEpoch < 1) then
                                            some (none)
                                          else
                                            if (0 : Int) ≤ r5.t90 ∧ r5.t90 < (↑r5.b1.fList.length : Int) then
                                              bif decide (r5.b1.fEpoch ≤ r5.b1.fList[r5.t90.toNat]!.fEpoch) then
                                                some (none)
                                              else
                                                none
                                            else
                                              none
                                        else
                                          none
                                    else
                                      none
                                else
                                  none
                              else
                                none
                            else
                              none
                          else
                            some (some (L5_0.mk r5.t0 r5.t5 r5.t30 r5.t31 (IntKind.i64.wrap (r5.t32 + 1))))
                      else
                        none
                    else
                      none
                  else
                    none
                else
                  match a5_1 (L5_1.mk p.t0 p.t5 p.t30 p.t31 p.t32 (↑p.t5.length : Int) (0) p.t30[p.t32.toNat]!) with
                  | none =>
                    none
                  | some r6 =>
                    bif decide (r6.t90 < r6.t89) then
                      if (0 : Int) ≤ r6.t90 ∧ r6.t90 < (↑r6.b1.fList.length : Int) then
                        if (0 : Int) ≤ r6.t90 ∧ r6.t90 < (↑r6.t5.length : Int) then
                          if 23 = 23 ∧ r6.t90.toNat < r6.t5.length then
                            bif bif m23 r6.b1.fList[r6.t90.toNat]! r6.t5[r6.t90.toNat]! then false else true then
                              some (none)
                            else
                              if (0 : Int) ≤ r6.t90 ∧ r6.t90 < (↑r6.b1.fList.length : Int) then
                                bif bif decide (r6.b1.fList[r6.t90.toNat]!.fSeq = r6.t90) then false else true then
                                  some (none)
                                else
                                  if (0 : Int) ≤ r6.t90 ∧ r6.t90 < (↑r6.b1.fList.length : Int) then
                                    bif decide (r6.b1.fList[r6.t90.toNat]!.fEpoch < 1) then
                                      some (none)
                                    else
                                      if (0 : Int) ≤ r6.t90 ∧ r6.t90 < (↑r6.b1.fList.length : Int) then
                                        bif decide (r6.b1.fEpoch ≤ r6.b1.fList[r6.t90.toNat]!.fEpoch) then
                                          some (none)
                                        else
                                          none
                                      else
                                        none
                                  else
                                    none
                              else
                                none
                          else
                            none
                        else
                          none
                      else
                        none
                    else
                      some (some (L5_0.mk r6.t0 r6.t5 r6.t30 r6.t31 (IntKind.i64.wrap (r6.t32 + 1))))
      else
        none
    else
      none
  else
    some (none)
theorem q5_0 (p : L5_0) : execA Try.prog (F5) Try.f5.ntmps 300 (loopAt Try.f5 0) (.two .no (.two .no (.two (.two .no (.two .no (.two .no (.two .no (.two (.two (.rb [] 76) .no) (.two .no (.two .no (.lp L5_1 rd5_1 pt5_1 a5_1 .no)))))))) .no))) (Option L5_0) (pt5_0 p) (kOn rd5_0) = n5_0 p := by kernel_rfl
noncomputable def a5_0 : L5_0 → Option L5_0 := advG (n5_0)
abbrev E5 : Type := Bool
abbrev P5_e : Type := (Bool × Unit) × (Unit)
noncomputable def rb5_e : St → Option P5_e := stR 0 (slC 2 asB slN) rsN
noncomputable def pb5_e : P5_e → St := stP 0 (fun z => [(2, .b z.1)]) (fun z => [])
noncomputable def mk5_e (z : P5_e) : E5 := z.1.1
noncomputable def pt5_e (x : E5) : St := pb5_e ((x, ()), (()))
noncomputable def rd5_e : St → Option E5 := rdC 0 [] [2] (rdM mk5_e rb5_e)
theorem rb5_e_ok (n : Nat) : RdOk 0 n rb5_e pb5_e := stR_ok (.cons .b .nil) .nil
theorem rd5_e_ok (n : Nat) : RdOk 0 n rd5_e pt5_e := rdC_ok ((rb5_e_ok n).m mk5_e (pat' := pt5_e) fun _ => rfl)
noncomputable def an5 : An := (.two .no (.two .no (.two .no (.two .no (.two (.two (.rb [] 28) .no) (.two .no (.two (.two .no (.lp L5_0 rd5_0 pt5_0 a5_0 (.two .no (.two .no (.two (.two .no (.two .no (.two .no (.two .no (.two (.two (.rb [] 76) .no) (.two .no (.two .no (.lp L5_1 rd5_1 pt5_1 a5_1 .no)))))))) .no))))) .no)))))))
theorem pu5  : ∀ f ∈ ([] : List Nat), PureF (F5) f := fun f hf => by
  cases hf
theorem fa5 : FnAn Try.prog (F5) 0 300 5 (an5) := fnAn_of (l := [(.skip, (.rb [] 28)), (loopAt Try.f5 0, (.lp L5_0 rd5_0 pt5_0 a5_0 (.two .no (.two .no (.two (.two .no (.two .no (.two .no (.two .no (.two (.two (.rb [] 76) .no) (.two .no (.two .no (.lp L5_1 rd5_1 pt5_1 a5_1 .no)))))))) .no))))), (.skip, (.rb [] 76)), (loopAt Try.f5 1, (.lp L5_1 rd5_1 pt5_1 a5_1 .no))]) Try.func5 (bodyOf_eq (by kernel_rfl)) (by kernel_rfl) fun p hp => by
  simp only [List.mem_cons, List.not_mem_nil, or_false] at hp
  rcases hp with rfl | rfl | rfl | rfl
  · exact pu5
  · exact ⟨rd5_0_ok _, advG_ok (q5_0)⟩
  · exact pu5
  · exact ⟨rd5_1_ok _, advG_ok (q5_1)⟩
noncomputable def m5 (a0 : List GEvent) : Option E5 :=
  bif bif m7 then false else true then
    some (false)
  else
    match m21 a0 with
    | none =>
      none
    | some r7 =>
      bif bif r7 then false else true then
        some (true)
      else
        match m22 a0 with
        | none =>
          none
        | some r8 =>
          match bif bif r8.snd then false else true then
            some (true)
          else
            some (bif decide ((↑r8.fst.length : Int) = (↑a0.length : Int)) then false else true) with
          | none =>
            none
          | some r9 =>
            bif r9 then
              some (false)
            else
              match a5_0 (L5_0.mk a0 [] r8.fst (↑r8.fst.length : Int) (0)) with
              | none =>
                none
              | some r10 =>
                bif decide (r10.t32 < r10.t31) then
                  if (0 : Int) ≤ r10.t32 ∧ r10.t32 < (↑r10.t30.length : Int) then
                    if 54 = 54 ∧ r10.t32.toNat < r10.t30.length then
                      bif decide (r10.t30[r10.t32.toNat]!.fCode = 0) then
                        if (0 : Int) ≤ r10.t32 ∧ r10.t32 < (↑r10.t0.length : Int) then
                          if (r10.t5 ++ r10.t0[r10.t32.toNat]!.fRecords).length ≤ 1073741824 then
                            bif bif r10.t30[r10.t32.toNat]!.fOpened then false else true then
                              none
                            else
                              match bif decide (IntKind.i64.wrap ((↑r10.t30[r10.t32.toNat]!.fList.length : Int) - (↑(r10.t5 ++ r10.t0[r10.t32.toNat]!.fRecords).length : Int)) < 0) then
                                some (true)
                              else
                                bif decide (0 < IntKind.i64.wrap ((↑r10.t30[r10.t32.toNat]!.fList.length : Int) - (↑(r10.t5 ++ r10.t0[r10.t32.toNat]!.fRecords).length : Int))) then
                                  bif bif decide (r10.t30[r10.t32.toNat]!.fCode = 17) then false else true then
                                    some (true)
                                  else
                                    if (0 : Int) ≤ r10.t32 ∧ r10.t32 < (↑r10.t0.length : Int) then
                                      some (decide ((↑r10.t0[r10.t32.toNat]!.fRecords.length : Int) < IntKind.i64.wrap ((↑r10.t30[r10.t32.toNat]!.fList.length : Int) - (↑(r10.t5 ++ r10.t0[r10.t32.toNat]!.fRecords).length : Int))))
                                    else
                                      none
                                else
                                  some (false) with
                              | none =>
                                none
                              | some r11 =>
                                bif r11 then
                                  some (false)
                                else
                                  bif decide (0 < IntKind.i64.wrap ((↑r10.t30[r10.t32.toNat]!.fList.length : Int) - (↑(r10.t5 ++ r10.t0[r10.t32.toNat]!.fRecords).length : Int))) then
                                    if (0 : Int) ≤ r10.t32 ∧ r10.t32 < (↑r10.t0.length : Int) then
                                      if (0 : Int) ≤ IntKind.i64.wrap ((↑r10.t30[r10.t32.toNat]!.fList.length : Int) - (↑(r10.t5 ++ r10.t0[r10.t32.toNat]!.fRecords).length : Int)) ∧ IntKind.i64.wrap ((↑r10.t30[r10.t32.toNat]!.fList.length : Int) - (↑(r10.t5 ++ r10.t0[r10.t32.toNat]!.fRecords).length : Int)) ≤ (↑r10.t0[r10.t32.toNat]!.fRecords.length : Int) then
                                        if (r10.t5 ++ r10.t0[r10.t32.toNat]!.fRecords ++ List.take (IntKind.i64.wrap ((↑r10.t30[r10.t32.toNat]!.fList.length : Int) - (↑(r10.t5 ++ r10.t0[r10.t32.toNat]!.fRecords).length : Int))).toNat r10.t0[r10.t32.toNat]!.fRecords).length ≤ 1073741824 then
                                          match a5_1 (L5_1.mk r10.t0 (r10.t5 ++ r10.t0[r10.t32.toNat]!.fRecords ++ List.take (IntKind.i64.wrap ((↑r10.t30[r10.t32.toNat]!.fList.length : Int) - (↑(r10.t5 ++ r10.t0[r10.t32.toNat]!.fRecords).length : Int))).toNat r10.t0[r10.t32.toNat]!.fRecords) r10.t30 r10.t31 r10.t32 (↑(r10.t5 ++ r10.t0[r10.t32.toNat]!.fRecords ++ List.take (IntKind.i64.wrap ((↑r10.t30[r10.t32.toNat]!.fList.length : Int) - (↑(r10.t5 ++ r10.t0[r10.t32.toNat]!.fRecords).length : Int))).toNat r10.t0[r10.t32.toNat]!.fRecords).length : Int) (0) r10.t30[r10.t32.toNat]!) with
                                          | none =>
                                            none
                                          | some r12 =>
                                            bif decide (r12.t90 < r12.t89) then
                                              if (0 : Int) ≤ r12.t90 ∧ r12.t90 < (↑r12.b1.fList.length : Int) then
                                                if (0 : Int) ≤ r12.t90 ∧ r12.t90 < (↑r12.t5.length : Int) then
                                                  if 23 = 23 ∧ r12.t90.toNat < r12.t5.length then
                                                    bif bif m23 r12.b1.fList[r12.t90.toNat]! r12.t5[r12.t90.toNat]! then false else true then
                                                      some (false)
                                                    else
                                                      if (0 : Int) ≤ r12.t90 ∧ r12.t90 < (↑r12.b1.fList.length : Int) then
                                                        bif bif decide (r12.b1.fList[r12.t90.toNat]!.fSeq = r12.t90) then false else true then
                                                          some (false)
                                                        else
                                                          if (0 : Int) ≤ r12.t90 ∧ r12.t90 < (↑r12.b1.fList.length : Int) then
                                                            bif decide (r12.b1.fList[r12.t90.toNat]!.fEpoch < 1) then
                                                              some (false)
                                                            else
                                                              if (0 : Int) ≤ r12.t90 ∧ r12.t90 < (↑r12.b1.fList.length : Int) then
                                                                bif decide (r12.b1.fEpoch ≤ r12.b1.fList[r12.t90.toNat]!.fEpoch) then
                                                                  some (false)
                                                                else
                                                                  none
                                                              else
                                                                none
                                                          else
                                                            none
                                                      else
                                                        none
                                                  else
                                                    none
                                                else
                                                  none
                                              else
                                                none
                                            else
                                              none
                                        else
                                          none
                                      else
                                        none
                                    else
                                      none
                                  else
                                    match a5_1 (L5_1.mk r10.t0 (r10.t5 ++ r10.t0[r10.t32.toNat]!.fRecords) r10.t30 r10.t31 r10.t32 (↑(r10.t5 ++ r10.t0[r10.t32.toNat]!.fRecords).length : Int) (0) r10.t30[r10.t32.toNat]!) with
                                    | none =>
                                      none
                                    | some r13 =>
                                      bif decide (r13.t90 < r13.t89) then
                                        if (0 : Int) ≤ r13.t90 ∧ r13.t90 < (↑r13.b1.fList.length : Int) then
                                          if (0 : Int) ≤ r13.t90 ∧ r13.t90 < (↑r13.t5.length : Int) then
                                            if 23 = 23 ∧ r13.t90.toNat < r13.t5.length then
                                              bif bif m23 r13.b1.fList[r13.t90.toNat]! r13.t5[r13.t90.toNat]! then false else true then
                                                some (false)
                                              else
                                                if (0 : Int) ≤ r13.t90 ∧ r13.t90 < (↑r13.b1.fList.length : Int) then
                                                  bif bif decide (r13.b1.fList[r13.t90.toNat]!.fSeq = r13.t90) then false else true then
                                                    some (false)
                                                  else
                                                    if (0 : Int) ≤ r13.t90 ∧ r13.t90 < (↑r13.b1.fList.length : Int) then
                                                      bif decide (r13.b1.fList[r13.t90.toNat]!.fEpoch < 1) then
                                                        some (false)
                                                      else
                                                        if (0 : Int) ≤ r13.t90 ∧ r13.t90 < (↑r13.b1.fList.length : Int) then
                                                          bif decide (r13.b1.fEpoch ≤ r13.b1.fList[r13.t90.toNat]!.fEpoch) then
                                                            some (false)
                                                          else
                                                            none
                                                        else
                                                          none
                                                    else
                                                      none
                                                else
                                                  none
                                            else
                                              none
                                          else
                                            none
                                        else
                                          none
                                      else
                                        none
                          else
                            none
                        else
                          none
                      else
                        bif bif r10.t30[r10.t32.toNat]!.fOpened then false else true then
                          none
                        else
                          match bif decide (IntKind.i64.wrap ((↑r10.t30[r10.t32.toNat]!.fList.length : Int) - (↑r10.t5.length : Int)) < 0) then
                            some (true)
                          else
                            bif decide (0 < IntKind.i64.wrap ((↑r10.t30[r10.t32.toNat]!.fList.length : Int) - (↑r10.t5.length : Int))) then
                              bif bif decide (r10.t30[r10.t32.toNat]!.fCode = 17) then false else true then
                                some (true)
                              else
                                if (0 : Int) ≤ r10.t32 ∧ r10.t32 < (↑r10.t0.length : Int) then
                                  some (decide ((↑r10.t0[r10.t32.toNat]!.fRecords.length : Int) < IntKind.i64.wrap ((↑r10.t30[r10.t32.toNat]!.fList.length : Int) - (↑r10.t5.length : Int))))
                                else
                                  none
                            else
                              some (false) with
                          | none =>
                            none
                          | some r14 =>
                            bif r14 then
                              some (false)
                            else
                              bif decide (0 < IntKind.i64.wrap ((↑r10.t30[r10.t32.toNat]!.fList.length : Int) - (↑r10.t5.length : Int))) then
                                if (0 : Int) ≤ r10.t32 ∧ r10.t32 < (↑r10.t0.length : Int) then
                                  if (0 : Int) ≤ IntKind.i64.wrap ((↑r10.t30[r10.t32.toNat]!.fList.length : Int) - (↑r10.t5.length : Int)) ∧ IntKind.i64.wrap ((↑r10.t30[r10.t32.toNat]!.fList.length : Int) - (↑r10.t5.length : Int)) ≤ (↑r10.t0[r10.t32.toNat]!.fRecords.length : Int) then
                                    if (r10.t5 ++ List.take (IntKind.i64.wrap ((↑r10.t30[r10.t32.toNat]!.fList.length : Int) - (↑r10.t5.length : Int))).toNat r10.t0[r10.t32.toNat]!.fRecords).length ≤ 1073741824 then
                                      match a5_1 (L5_1.mk r10.t0 (r10.t5 ++ List.take (IntKind.i64.wrap ((↑r10.t30[r10.t32.toNat]!.fList.length : Int) - (↑r10.t5.length : Int))).toNat r10.t0[r10.t32.toNat]!.fRecords) r10.t30 r10.t31 r10.t32 (↑(r10.t5 ++ List.take (IntKind.i64.wrap ((↑r10.t30[r10.t32.toNat]!.fList.length : Int) - (↑r10.t5.length : Int))).toNat r10.t0[r10.t32.toNat]!.fRecords).length : Int) (0) r10.t30[r10.t32.toNat]!) with
                                      | none =>
                                        none
                                      | some r15 =>
                                        bif decide (r15.t90 < r15.t89) then
                                          if (0 : Int) ≤ r15.t90 ∧ r15.t90 < (↑r15.b1.fList.length : Int) then
                                            if (0 : Int) ≤ r15.t90 ∧ r15.t90 < (↑r15.t5.length : Int) then
                                              if 23 = 23 ∧ r15.t90.toNat < r15.t5.length then
                                                bif bif m23 r15.b1.fList[r15.t90.toNat]! r15.t5[r15.t90.toNat]! then false else true then
                                                  some (false)
                                                else
                                                  if (0 : Int) ≤ r15.t90 ∧ r15.t90 < (↑r15.b1.fList.length : Int) then
                                                    bif bif decide (r15.b1.fList[r15.t90.toNat]!.fSeq = r15.t90) then false else true then
                                                      some (false)
                                                    else
                                                      if (0 : Int) ≤ r15.t90 ∧ r15.t90 < (↑r15.b1.fList.length : Int) then
                                                        bif decide (r15.b1.fList[r15.t90.toNat]!.fEpoch < 1) then
                                                          some (false)
                                                        else
                                                          if (0 : Int) ≤ r15.t90 ∧ r15.t90 < (↑r15.b1.fList.length : Int) then
                                                            bif decide (r15.b1.fEpoch ≤ r15.b1.fList[r15.t90.toNat]!.fEpoch) then
                                                              some (false)
                                                            else
                                                              none
                                                          else
                                                            none
                                                      else
                                                        none
                                                  else
                                                    none
                                              else
                                                none
                                            else
                                              none
                                          else
                                            none
                                        else
                                          none
                                    else
                                      none
                                  else
                                    none
                                else
                                  none
                              else
                                match a5_1 (L5_1.mk r10.t0 r10.t5 r10.t30 r10.t31 r10.t32 (↑r10.t5.length : Int) (0) r10.t30[r10.t32.toNat]!) with
                                | none =>
                                  none
                                | some r16 =>
                                  bif decide (r16.t90 < r16.t89) then
                                    if (0 : Int) ≤ r16.t90 ∧ r16.t90 < (↑r16.b1.fList.length : Int) then
                                      if (0 : Int) ≤ r16.t90 ∧ r16.t90 < (↑r16.t5.length : Int) then
                                        if 23 = 23 ∧ r16.t90.toNat < r16.t5.length then
                                          bif bif m23 r16.b1.fList[r16.t90.toNat]! r16.t5[r16.t90.toNat]! then false else true then
                                            some (false)
                                          else
                                            if (0 : Int) ≤ r16.t90 ∧ r16.t90 < (↑r16.b1.fList.length : Int) then
                                              bif bif decide (r16.b1.fList[r16.t90.toNat]!.fSeq = r16.t90) then false else true then
                                                some (false)
                                              else
                                                if (0 : Int) ≤ r16.t90 ∧ r16.t90 < (↑r16.b1.fList.length : Int) then
                                                  bif decide (r16.b1.fList[r16.t90.toNat]!.fEpoch < 1) then
                                                    some (false)
                                                  else
                                                    if (0 : Int) ≤ r16.t90 ∧ r16.t90 < (↑r16.b1.fList.length : Int) then
                                                      bif decide (r16.b1.fEpoch ≤ r16.b1.fList[r16.t90.toNat]!.fEpoch) then
                                                        some (false)
                                                      else
                                                        none
                                                    else
                                                      none
                                                else
                                                  none
                                            else
                                              none
                                        else
                                          none
                                      else
                                        none
                                    else
                                      none
                                  else
                                    none
                    else
                      none
                  else
                    none
                else
                  some (true)
theorem c5 (a0 : List GEvent) : callR Try.prog (F5) 300 (an5) 5 [.sl 57 a0] [] 0 rd5_e = m5 a0 := by kernel_rfl
noncomputable def o5 (x : E5) : Out := match (match outOf Try.prog 5 (pt5_e x) with
    | some ds => some (Out.mk (resA ds) (keepR (pt5_e x).R 0 (resA ds)) (pt5_e x).nx)
    | none => none) with
  | some o => o
  | none => ⟨.tup [], [], 0⟩
theorem fn5 (a0 : List GEvent) (r : E5) (h : m5 a0 = some r) : fnOk Try.prog 5 ∧ FnY Try.prog 5 [.sl 57 a0] [] 0 (o5 r) :=
  fnY_of (p := r) F5_ok (fa5) rd5_e_ok (fun p => by kernel_rfl) (ltd_of (by kernel_rfl)) (rltd_of (by kernel_rfl)) ((c5 a0).trans h)
theorem fnok5 : fnOk Try.prog 5 := ⟨_, Try.func5, by kernel_rfl, by kernel_rfl⟩
noncomputable def e5 (F : Orc) : Orc := orL 5 false (pkC (asL 57) pkN) (fun g => m5 g.1 : ((List GEvent) × Unit) → Option E5) o5 F
theorem e5_ok {F : Orc} (h : OrcG Try.prog F) : OrcG Try.prog (e5 F) := orL_g (sc := scU) h scU_ok fnok5 (ca := fun g => [.sl 57 g.1]) ((.cons (.l 57) .nil) : PkN (pkC (asL 57) pkN) _) (fun b => by kernel_rfl) (fun b => by kernel_rfl) (fun g b hb => (fn5 g.1 b hb).2)
theorem e5_pure {F : Orc} {f : Nat} (h : PureF F f) : PureF (e5 F) f := orL_pure h (fun b => by kernel_rfl)
end Go.Proofs.Ytgdahkddhecloaa.S
end
section
set_option linter.unusedSectionVars false
set_option linter.unusedVariables false
set_option linter.unusedSimpArgs false
namespace Go.Proofs.Ytgdahkddhecloaa.S
open Go Go.Iv

/-- the inner loop of the law -/
theorem a5_1_eq (l : List GEvent) (S : List Record) (outs : List Outcome) (m t : Int) (o : Outcome) (hS : S.length ≤ 1000) (hlen : o.fList.length = S.length)
    (h : ∀ k, k < S.length → m23 o.fList[k]! S[k]! = true ∧ o.fList[k]!.fSeq = k ∧ 1 ≤ o.fList[k]!.fEpoch ∧ o.fList[k]!.fEpoch < o.fEpoch) : a5_1 ⟨l, S, outs, m, t, S.length, 0, o⟩ = some ⟨l, S, outs, m, t, S.length, S.length, o⟩ := by
  have := advG_all (rnd := n5_1) (fun i => ⟨l, S, outs, m, t, S.length, (i : Nat), o⟩) S.length (fun i hi => by
    obtain ⟨q1, q2, q3, q4⟩ := h i hi
    unfold n5_1
    dsimp only
    rw [decide_eq_true (by omega), cond_true, if_pos (by omega), if_pos (by omega), Int.toNat_natCast, if_pos ⟨rfl, hi⟩, q1]
    simp only [cond_true, cond_false]
    rw [if_pos (by omega), decide_eq_true q2]
    simp only [cond_true, cond_false]
    rw [if_pos (by omega), decide_eq_false (by omega), cond_false, if_pos (by omega), decide_eq_false (by omega), cond_false, w1 hi (by omega)]) (fun r => by
    unfold n5_1
    dsimp only
    rw [decide_eq_false (by omega)]
    simp)
  exact this
theorem n5_0_eq (l : List GEvent) (outs : List Outcome) (S S' : List Record) (i : Nat) (hl : l.length ≤ 100) (hil : i < l.length) (ho : outs.length = l.length) (hS : S.length ≤ 11) (hS' : S'.length ≤ 11) (hr : l[i]!.fRecords.length ≤ 5) (hg : GS l[i]! outs[i]! S S') :
    n5_0 ⟨l, S, outs, outs.length, i⟩ = some (some ⟨l, S', outs, outs.length, ((i + 1 : Nat) : Int)⟩) := by
  unfold n5_0
  dsimp only
  rw [decide_eq_true (by omega), cond_true, if_pos (by omega), Int.toNat_natCast, if_pos ⟨rfl, by omega⟩]
  generalize hoo : outs[i]! = o at *
  generalize hee : l[i]! = e at *
  unfold GS at hg
  by_cases c0 : o.fCode = 0
  · rw [decide_eq_true c0, cond_true, if_pos (by omega), if_pos (by rw [List.length_append]; omega)]
    by_cases c1 : o.fOpened = true
    · rw [if_pos c1] at hg
      obtain ⟨x, h1, h2, h3, h4, h5⟩ := hg
      have hx : x = 0 := by
        by_cases hx : 0 < x
        · have := h2 hx; omega
        · omega
      subst hx
      rw [if_pos c0, List.take_zero, List.append_nil] at h3
      subst h3
      have ew : IntKind.i64.wrap ((o.fList.length : Int) - ((S ++ e.fRecords).length : Int)) = 0 := by rw [h4, Int.sub_self]; rfl
      rw [c1]
      simp only [cond_true, cond_false]
      rw [ew, decide_eq_false (by omega), cond_false, decide_eq_false (by omega), cond_false]
      dsimp only
      rw [cond_false, cond_false, a5_1_eq l _ outs _ _ o (by omega) h4 h5]
      dsimp only
      rw [decide_eq_false (by omega), cond_false, w1 hil (by omega)]
    · rw [if_neg c1, if_pos c0] at hg
      subst hg
      rw [show o.fOpened = false from by simpa using c1]
      simp only [cond_true, cond_false]
      rw [w1 hil (by omega)]
  · rw [decide_eq_false c0, cond_false]
    by_cases c1 : o.fOpened = true
    · rw [if_pos c1] at hg
      obtain ⟨x, h1, h2, h3, h4, h5⟩ := hg
      rw [if_neg c0] at h3
      have hx : o.fList.length = S.length + x := by rw [h4, h3, List.length_append, List.length_take]; omega
      have ew : IntKind.i64.wrap ((o.fList.length : Int) - (S.length : Int)) = (x : Int) := by rw [hx, wrap_id (by omega) (by omega)]; omega
      rw [c1]
      simp only [cond_true, cond_false]
      rw [ew, decide_eq_false (show ¬ (x : Int) < 0 by omega), cond_false]
      by_cases hx0 : 0 < x
      · rw [decide_eq_true (show (0 : Int) < (x : Int) by omega), cond_true, decide_eq_true (h2 hx0)]
        simp only [cond_true, cond_false]
        rw [if_pos (by omega), decide_eq_false (show ¬ (e.fRecords.length : Int) < (x : Int) by omega)]
        dsimp only
        rw [cond_false, if_pos (by omega), if_pos (by omega), Int.toNat_natCast, ← h3, if_pos (by omega), a5_1_eq l _ outs _ _ o (by omega) h4 h5]
        dsimp only
        rw [decide_eq_false (by omega), cond_false, w1 hil (by omega)]
      · have : x = 0 := by omega
        subst this
        rw [List.take_zero, List.append_nil] at h3
        subst h3
        rw [decide_eq_false (show ¬ (0 : Int) < ((0 : Nat) : Int) by omega), cond_false]
        dsimp only
        rw [cond_false, cond_false, a5_1_eq l _ outs _ _ o (by omega) h4 h5]
        dsimp only
        rw [decide_eq_false (by omega), cond_false, w1 hil (by omega)]
    · rw [if_neg c1, if_neg c0] at hg
      subst hg
      rw [show o.fOpened = false from by simpa using c1]
      simp only [cond_true, cond_false]
      rw [w1 hil (by omega)]
theorem a5_0_eq (l : List GEvent) (outs : List Outcome) (hl : l.length ≤ 12) (ho : outs.length = l.length) (hv : ∀ e ∈ l, okE e) : ∀ (es : List GEvent) (os : List Outcome) (i : Nat) (S : List Record), l.drop i = es → outs.drop i = os → i ≤ l.length → S.length ≤ 11 → Good es os S →
    ∃ S', a5_0 ⟨l, S, outs, outs.length, i⟩ = some ⟨l, S', outs, outs.length, outs.length⟩ := by
  intro es
  induction es with
  | nil =>
    intro os i S hd ho2 hi hS hg
    have : i = outs.length := by have := congrArg List.length hd; simp at this; omega
    subst this
    exact ⟨S, advG_stop fun r => by
      unfold n5_0
      dsimp only
      rw [decide_eq_false (by omega)]
      simp⟩
  | cons e es ih =>
    intro os i S hd ho2 hi hS hg
    have hil : i < l.length := by have := congrArg List.length hd; simp at this; omega
    have hio : i < outs.length := by omega
    rw [List.drop_eq_getElem_cons hil] at hd
    rw [List.drop_eq_getElem_cons hio] at ho2
    subst ho2
    injection hd with hd1 hd2
    have he : l[i]! = e := by rw [getElem!_pos l i hil]; exact hd1
    have hoo : outs[i]! = outs[i] := getElem!_pos outs i hio
    obtain ⟨S', h1, h2, h3⟩ := hg
    have hn := n5_0_eq l outs S S' i (by omega) hil ho hS h1 (by rw [he]; exact (hv e (by rw [← he]; exact get_mem hil)).r5) (by rw [he, hoo]; exact h2)
    obtain ⟨S2, h4⟩ := ih _ (i + 1) S' hd2 rfl (by omega) h1 h3
    exact ⟨S2, by rw [← h4]; exact advG_step hn⟩
theorem m5_eq (l : List GEvent) (hl : ∀ e ∈ l, e.fLeft ≤ 9223372036854775807) : m5 l = some true := by
  unfold m5
  rw [show m7 = true from rfl]
  simp only [cond_true, cond_false]
  rw [m21_eq]
  dsimp only
  cases c : decide (l.length ≤ 12) && l.all okEb
  · rfl
  · simp only [cond_true, cond_false]
    rw [Bool.and_eq_true, decide_eq_true_eq] at c
    have hv : ∀ e ∈ l, okE e := fun e he => okE_of (List.all_eq_true.1 c.2 e he) (hl e he)
    rw [m22_eq l c.1 hv]
    simp only [cond_true, cond_false]
    have hlen := run_len l s0
    rw [decide_eq_true (show ((runF s0 l).length : Int) = (l.length : Int) by omega)]
    simp only [cond_true, cond_false]
    obtain ⟨S', h⟩ := a5_0_eq l (runF s0 l) c.1 hlen hv l (runF s0 l) 0 [] rfl rfl (by omega) (by simp) (good_run l 0 s0 [] [] (by omega) hv inv0 sv0)
    have h' : a5_0 ⟨l, [], runF s0 l, (runF s0 l).length, 0⟩ = some ⟨l, S', runF s0 l, (runF s0 l).length, (runF s0 l).length⟩ := h
    rw [h']
    dsimp only
    rw [decide_eq_false (by omega), cond_false]
theorem o5_eq : o5 true = ⟨.b true, [], 0⟩ := by kernel_rfl
end Go.Proofs.Ytgdahkddhecloaa.S
end
section
set_option linter.unusedSectionVars false
set_option linter.unusedVariables false
set_option linter.unusedSimpArgs false
namespace Go.Iv
variable [U : Uni]
open Go Go.RowKit Go.Deep Go.ChangeShapes Go.WideShapes Go.Joins
theorem fn_law {P : Program} {f : FuncId} {args : List AV} (h : Iv.Fn P f args [] (fun a s => a = .b true ∧ s = [])) {A : Nat → Prop} {w : World} {vs : List Value} (hr : RelL A w args vs) :
    Calls P f vs.toArray w fun e w' => ∃ v, e = .returned v ∧ v = .bool true ∧ Below w.heap.size w w' :=
  (h w A vs hr ⟨fun r hr => by simp at hr, fun b hb => by simp [blks] at hb⟩ (by simp [blks])).mono fun e w' ⟨v, av, σ', h1, ⟨h2, h3⟩, h4, h5⟩ => by
    subst h2
    exact ⟨v, h1, h5.litEq, h4.kp.below⟩

abbrev anyB : Nat → Prop := fun _ => True

/-- Data of Go type t read as0 values of α, whose cells are c. -/
def Opn {α : Type} {H : Type} (enc : TypeId × Value → H) (P : Program) (w : World) (t : TypeId) (c : α → List AV) (ok : α → Prop) : Prop :=
  ∀ (base : Nat) (fuel : Nat) (cs : List Value) (x : DataW H × List MemPlace), DataW.trod enc P w base (fun _ => true) true fuel t cs = some x → ∃ a, ok a ∧ RelL anyB w (c a) cs

section
variable {α : Type} {H : Type} {enc : TypeId × Value → H} {P : Program} {w : World} {t e : TypeId}

theorem Opn.int {k : IntKind} (ht : P.underlying t = some (.int k)) : Opn enc P w t (cN k) (fun n => (Lit.int k n).wf = true) := fun base fuel cs x h => by
  obtain ⟨n, rfl, _, hw⟩ := DataW.trod_int ht h
  exact ⟨n, hw, RelL.cons (.lit _) RelL.nil⟩
theorem Opn.bool (ht : P.underlying t = some .bool) : Opn enc P w t cB (fun _ => True) := fun base fuel cs x h => by
  obtain ⟨b, rfl, _⟩ := DataW.trod_bool ht h
  exact ⟨b, trivial, RelL.cons (.lit _) RelL.nil⟩
theorem Opn.slice {ok : U.Dat e → Prop} {sz : Nat} (ht : P.underlying t = some (.slice e)) (hc : P.cellsOf e = sz + 1) (hs : U.sz e = sz + 1) (he : Opn enc P w e (U.cells e) ok) :
    Opn enc P w t (fun l : List (U.Dat e) => [.sl e l]) (fun l => l.length ≤ 9223372036854775807 ∧ ∀ a ∈ l, ok a) := fun base fuel cs x h => by
  rcases open_slice ht h with ⟨rfl, _⟩ | ⟨a, len, cp, m, n, D, Pl, hcs, hb, hl, hm, hmm, _, hx⟩
  · refine ⟨[], ⟨by simp, by simp⟩, RelL.cons ?_ RelL.nil⟩
    exact .sl e ([] : List (U.Dat e)) none 0 (fun _ _ => default) (by simp) (by simp) (fun i hi => by simp at hi) (fun i hi => by simp at hi) (fun i j a hi => by simp at hi)
  · subst hcs
    have hmm : m = cp := by rw [hmm]; rfl
    rw [hc] at hx
    have hmx : cp ≤ 9223372036854775807 := by unfold maxLen at hm; omega
    obtain ⟨CS, hCS⟩ := choose_lt (α := List Value × U.Dat e) (p := fun i y => w.cells? base (a.add (i * (sz + 1))) (sz + 1) = some y.1 ∧ ok y.2 ∧ RelL anyB w (U.cells e y.2) y.1) (n := len) (fun i hi => by
      obtain ⟨cs', h1, h2⟩ := hx i (by omega)
      obtain ⟨y, h3, h4⟩ := he _ _ _ _ h2
      exact ⟨(cs', y), h1, h3, h4⟩)
    obtain ⟨l, hld⟩ : ∃ l : List (U.Dat e), l = (List.range len).map fun i => (CS i).2 := ⟨_, rfl⟩
    have hln : l.length = len := by rw [hld]; simp
    have hget : ∀ i, i < len → l[i]! = (CS i).2 := fun i hi => by
      rw [getElem!_pos l i (by omega)]; simp [hld]
    refine ⟨l, ⟨by omega, fun y hy => ?_⟩, RelL.cons ?_ RelL.nil⟩
    · rw [hld, List.mem_map] at hy
      obtain ⟨i, hi, rfl⟩ := hy
      exact (hCS i (by simpa using hi)).2.1
    · rw [← hln]
      refine .sl e l (some a) cp (fun i j => (CS i).1[j]!) (by omega) (by omega) (fun i hi => ?_) (fun i hi => ?_) (fun i j av hi hj => ?_)
      · rw [hln] at hi
        obtain ⟨h1, _, h3⟩ := hCS i hi
        obtain ⟨_, h5, _⟩ := World.cells?_some h1
        rw [hget i hi, ← h3.1, h5, hs]
      · rw [hln] at hi
        obtain ⟨h1, _, h3⟩ := hCS i hi
        obtain ⟨_, h5, h6⟩ := World.cells?_some h1
        have hj : ∀ j, j < sz + 1 → w.cell? ((a.add (i * (sz + 1))).add j) = some (CS i).1[j]! := fun j hj => by
          rw [h6 j hj, getElem!_pos _ j (by omega), List.getElem?_eq_getElem (by omega)]
        obtain ⟨b, off, spot⟩ := a
        have hs : spot = none := by
          obtain ⟨g1, _, _⟩ := hCS 0 (by omega)
          obtain ⟨_, g5, g6⟩ := World.cells?_some g1
          have := World.cell?_spot (v := (CS 0).1[0]!) (w := w) (a := ((⟨b, off, spot⟩ : Addr).add (0 * (sz + 1))).add 0) (by rw [g6 0 (by omega), getElem!_pos _ 0 (by omega), List.getElem?_eq_getElem (by omega)])
          simpa [Addr.add] using this
        subst hs
        have hj' : ∀ j, j < sz + 1 → w.cell? ⟨b, off + i * (sz + 1) + j, none⟩ = some (CS i).1[j]! := fun j hlt => by
          have := hj j hlt
          have ap : ∀ o i : Nat, (⟨b, o, none⟩ : Addr).add i = ⟨b, o + i, none⟩ := fun o i => by
            unfold Addr.add
            split
            · rename_i h0; simp only [h0, Nat.add_zero]
            · rfl
          rw [ap, ap] at this
          exact this
        exact ⟨b, off, rfl, World.block_lt_of_cell? w _ (hj' 0 (by omega)), trivial, by rw [hs]; exact hj'⟩
      · rw [hln] at hi
        rw [hget i hi] at hj
        obtain ⟨h1, _, h3⟩ := hCS i hi
        obtain ⟨v, q1, q2⟩ := h3.get hj
        show Rel anyB w av (CS i).1[j]!
        obtain ⟨q3, q4⟩ := List.getElem?_eq_some_iff.1 q1
        rw [getElem!_pos _ j q3, q4]
        exact q2
/-- an argument that is one cell -/
theorem Opn.one {c : α → AV} {ok : α → Prop} {v : Value} {d : DataW H} {p : List MemPlace} (he : Opn enc P w t (fun a => [c a]) ok) (hv : v.cells = #[v]) (h : DataW.Trod enc P w 0 (fun _ => true) true t v d p) : ∃ a, ok a ∧ Rel anyB w (c a) v := by
  obtain ⟨fuel, hf⟩ := h
  rw [hv] at hf
  obtain ⟨a, h1, h2⟩ := he _ _ _ _ hf
  exact ⟨a, h1, h2.2 0 _ _ rfl rfl⟩
/-- an argument that is a struct -/
theorem Opn.agg {c : α → List AV} {ok : α → Prop} {v : Value} {cs : Array Value} {d : DataW H} {p : List MemPlace} (he : Opn enc P w t c ok) (hv : v = .agg cs) (h : DataW.Trod enc P w 0 (fun _ => true) true t v d p) : ∃ a, ok a ∧ Rel anyB w (.agg (c a)) v := by
  obtain ⟨fuel, hf⟩ := h
  subst hv
  obtain ⟨l⟩ := cs
  obtain ⟨a, h1, h2⟩ := he _ _ _ _ hf
  exact ⟨a, h1, Rel.aggL h2⟩
end
theorem FnY.law [L : UniL] {P : Program} {f : FuncId} {args : List AV} {x : Out} (h : FnY P f args [] 0 x) (hx : x = ⟨.b true, [], 0⟩) (ha : args.all (cloB 2) = true) : Iv.Fn P f args [] (fun a s => a = .b true ∧ s = []) := by
  subst hx
  have h1 := h ⟨fun _ => undef, fun _ => 0⟩
  have : args.map (AVq.sub ⟨fun _ => undef, fun _ => 0⟩) = args.map id := List.map_congr_left fun c hcm => cloB_sub 2 (List.all_eq_true.1 ha c hcm)
  rw [this, List.map_id] at h1
  exact h1.mono fun a s ⟨ρ', _, e1, e2⟩ => ⟨by rw [e1]; exact cloB_sub 2 rfl, List.Perm.eq_nil e2⟩
end Go.Iv
end
section
set_option linter.unusedSectionVars false
set_option linter.unusedVariables false
set_option linter.unusedSimpArgs false
set_option maxRecDepth 100000
namespace Go.Proofs.Ytgdahkddhecloaa
open Go Go.Iv Go.RowKit Go.Deep Go.ChangeShapes Go.WideShapes Go.Joins
theorem relSplit [U : Uni] {A : Nat → Prop} {w : World} {xs bs : List AV} {us : List Value} {n : Nat} (h : RelL A w xs (us.take n)) (h' : RelL A w bs (us.drop n)) : RelL A w (xs ++ bs) us := by
  have := h.app h'
  rwa [List.take_append_drop] at this
section
variable {H : Type} {enc : TypeId × Value → H} {w : World}
def ok3 (n : Int) : Prop := (Lit.int .i64 n).wf = true
theorem og3 : Opn enc Try.prog w 3 (cN .i64) ok3 := Opn.int Try.underlying3
def ok23 (x : Record) : Prop := ok3 x.fEpoch ∧ ok3 x.fSeq ∧ ok3 x.fSecret ∧ ok3 x.fClient ∧ ok3 x.fNumber ∧ ok3 x.fProgram ∧ ok3 x.fPublic ∧ ok3 x.fAnswer ∧ ok3 x.fCharge ∧ True
theorem og23 : Opn enc Try.prog w 23 (uni.cells 23) ok23 := fun base fuel cs x h => by
  obtain ⟨xs, n, _, rfl, hl, hlen, hf⟩ := DataW.trod_struct Try.underlying23 h
  rw [show Try.prog.cellsOf 23 = 9 from by kernel_rfl] at hl
  have hlen : xs.length = 9 := hlen
  have f0 : DataW.trod enc Try.prog w base (fun _ => true) true n 3 ((cs.drop 0).take (Try.prog.cellsOf 3)) = xs[0]? := hf 0 _ rfl
  rw [show Try.prog.cellsOf 3 = 1 from by kernel_rfl, List.getElem?_eq_getElem (show 0 < xs.length by omega)] at f0
  obtain ⟨a0, k0, r0⟩ := og3 _ _ _ _ f0
  have f1 : DataW.trod enc Try.prog w base (fun _ => true) true n 3 ((cs.drop 1).take (Try.prog.cellsOf 3)) = xs[1]? := hf 1 _ rfl
  rw [show Try.prog.cellsOf 3 = 1 from by kernel_rfl, List.getElem?_eq_getElem (show 1 < xs.length by omega)] at f1
  obtain ⟨a1, k1, r1⟩ := og3 _ _ _ _ f1
  have f2 : DataW.trod enc Try.prog w base (fun _ => true) true n 3 ((cs.drop 2).take (Try.prog.cellsOf 3)) = xs[2]? := hf 2 _ rfl
  rw [show Try.prog.cellsOf 3 = 1 from by kernel_rfl, List.getElem?_eq_getElem (show 2 < xs.length by omega)] at f2
  obtain ⟨a2, k2, r2⟩ := og3 _ _ _ _ f2
  have f3 : DataW.trod enc Try.prog w base (fun _ => true) true n 3 ((cs.drop 3).take (Try.prog.cellsOf 3)) = xs[3]? := hf 3 _ rfl
  rw [show Try.prog.cellsOf 3 = 1 from by kernel_rfl, List.getElem?_eq_getElem (show 3 < xs.length by omega)] at f3
  obtain ⟨a3, k3, r3⟩ := og3 _ _ _ _ f3
  have f4 : DataW.trod enc Try.prog w base (fun _ => true) true n 3 ((cs.drop 4).take (Try.prog.cellsOf 3)) = xs[4]? := hf 4 _ rfl
  rw [show Try.prog.cellsOf 3 = 1 from by kernel_rfl, List.getElem?_eq_getElem (show 4 < xs.length by omega)] at f4
  obtain ⟨a4, k4, r4⟩ := og3 _ _ _ _ f4
  have f5 : DataW.trod enc Try.prog w base (fun _ => true) true n 3 ((cs.drop 5).take (Try.prog.cellsOf 3)) = xs[5]? := hf 5 _ rfl
  rw [show Try.prog.cellsOf 3 = 1 from by kernel_rfl, List.getElem?_eq_getElem (show 5 < xs.length by omega)] at f5
  obtain ⟨a5, k5, r5⟩ := og3 _ _ _ _ f5
  have f6 : DataW.trod enc Try.prog w base (fun _ => true) true n 3 ((cs.drop 6).take (Try.prog.cellsOf 3)) = xs[6]? := hf 6 _ rfl
  rw [show Try.prog.cellsOf 3 = 1 from by kernel_rfl, List.getElem?_eq_getElem (show 6 < xs.length by omega)] at f6
  obtain ⟨a6, k6, r6⟩ := og3 _ _ _ _ f6
  have f7 : DataW.trod enc Try.prog w base (fun _ => true) true n 3 ((cs.drop 7).take (Try.prog.cellsOf 3)) = xs[7]? := hf 7 _ rfl
  rw [show Try.prog.cellsOf 3 = 1 from by kernel_rfl, List.getElem?_eq_getElem (show 7 < xs.length by omega)] at f7
  obtain ⟨a7, k7, r7⟩ := og3 _ _ _ _ f7
  have f8 : DataW.trod enc Try.prog w base (fun _ => true) true n 3 ((cs.drop 8).take (Try.prog.cellsOf 3)) = xs[8]? := hf 8 _ rfl
  rw [show Try.prog.cellsOf 3 = 1 from by kernel_rfl, List.getElem?_eq_getElem (show 8 < xs.length by omega)] at f8
  obtain ⟨a8, k8, r8⟩ := og3 _ _ _ _ f8
  have e : RelL anyB w [] (cs.drop 9) := by rw [List.drop_of_length_le (by omega)]; exact RelL.nil
  have s8 := relSplit (us := cs.drop 8) r8 (by rw [List.drop_drop]; exact e)
  have s7 := relSplit (us := cs.drop 7) r7 (by rw [List.drop_drop]; exact s8)
  have s6 := relSplit (us := cs.drop 6) r6 (by rw [List.drop_drop]; exact s7)
  have s5 := relSplit (us := cs.drop 5) r5 (by rw [List.drop_drop]; exact s6)
  have s4 := relSplit (us := cs.drop 4) r4 (by rw [List.drop_drop]; exact s5)
  have s3 := relSplit (us := cs.drop 3) r3 (by rw [List.drop_drop]; exact s4)
  have s2 := relSplit (us := cs.drop 2) r2 (by rw [List.drop_drop]; exact s3)
  have s1 := relSplit (us := cs.drop 1) r1 (by rw [List.drop_drop]; exact s2)
  have s0 := relSplit (us := cs.drop 0) r0 (by rw [List.drop_drop]; exact s1)
  exact ⟨⟨a0, a1, a2, a3, a4, a5, a6, a7, a8⟩, ⟨k0, k1, k2, k3, k4, k5, k6, k7, k8, trivial⟩, s0⟩
def ok52 (l : List Record) : Prop := l.length ≤ 9223372036854775807 ∧ ∀ a ∈ l, ok23 a
theorem og52 : Opn enc Try.prog w 52 (fun l : List (uni.Dat 23) => [.sl 23 l]) ok52 := Opn.slice (e := 23) (sz := 8) Try.underlying52 (by kernel_rfl) rfl og23
def ok4 (_ : Bool) : Prop := True
theorem og4 : Opn enc Try.prog w 4 cB ok4 := Opn.bool Try.underlying4
def ok55 (l : List Bool) : Prop := l.length ≤ 9223372036854775807 ∧ ∀ a ∈ l, ok4 a
theorem og55 : Opn enc Try.prog w 55 (fun l : List (uni.Dat 4) => [.sl 4 l]) ok55 := Opn.slice (e := 4) (sz := 0) Try.underlying55 (by kernel_rfl) rfl og4
def ok57 (x : GEvent) : Prop := ok52 x.fRecords ∧ ok3 x.fLeft ∧ ok4 x.fCrash ∧ ok55 x.fKeep ∧ True
theorem og57 : Opn enc Try.prog w 57 (uni.cells 57) ok57 := fun base fuel cs x h => by
  obtain ⟨xs, n, _, rfl, hl, hlen, hf⟩ := DataW.trod_struct Try.underlying57 h
  rw [show Try.prog.cellsOf 57 = 4 from by kernel_rfl] at hl
  have hlen : xs.length = 4 := hlen
  have f0 : DataW.trod enc Try.prog w base (fun _ => true) true n 52 ((cs.drop 0).take (Try.prog.cellsOf 52)) = xs[0]? := hf 0 _ rfl
  rw [show Try.prog.cellsOf 52 = 1 from by kernel_rfl, List.getElem?_eq_getElem (show 0 < xs.length by omega)] at f0
  obtain ⟨a0, k0, r0⟩ := og52 _ _ _ _ f0
  have f1 : DataW.trod enc Try.prog w base (fun _ => true) true n 3 ((cs.drop 1).take (Try.prog.cellsOf 3)) = xs[1]? := hf 1 _ rfl
  rw [show Try.prog.cellsOf 3 = 1 from by kernel_rfl, List.getElem?_eq_getElem (show 1 < xs.length by omega)] at f1
  obtain ⟨a1, k1, r1⟩ := og3 _ _ _ _ f1
  have f2 : DataW.trod enc Try.prog w base (fun _ => true) true n 4 ((cs.drop 2).take (Try.prog.cellsOf 4)) = xs[2]? := hf 2 _ rfl
  rw [show Try.prog.cellsOf 4 = 1 from by kernel_rfl, List.getElem?_eq_getElem (show 2 < xs.length by omega)] at f2
  obtain ⟨a2, k2, r2⟩ := og4 _ _ _ _ f2
  have f3 : DataW.trod enc Try.prog w base (fun _ => true) true n 55 ((cs.drop 3).take (Try.prog.cellsOf 55)) = xs[3]? := hf 3 _ rfl
  rw [show Try.prog.cellsOf 55 = 1 from by kernel_rfl, List.getElem?_eq_getElem (show 3 < xs.length by omega)] at f3
  obtain ⟨a3, k3, r3⟩ := og55 _ _ _ _ f3
  have e : RelL anyB w [] (cs.drop 4) := by rw [List.drop_of_length_le (by omega)]; exact RelL.nil
  have s3 := relSplit (us := cs.drop 3) r3 (by rw [List.drop_drop]; exact e)
  have s2 := relSplit (us := cs.drop 2) r2 (by rw [List.drop_drop]; exact s3)
  have s1 := relSplit (us := cs.drop 1) r1 (by rw [List.drop_drop]; exact s2)
  have s0 := relSplit (us := cs.drop 0) r0 (by rw [List.drop_drop]; exact s1)
  exact ⟨⟨a0, a1, a2, a3⟩, ⟨k0, k1, k2, k3, trivial⟩, s0⟩
def ok47 (l : List GEvent) : Prop := l.length ≤ 9223372036854775807 ∧ ∀ a ∈ l, ok57 a
theorem og47 : Opn enc Try.prog w 47 (fun l : List (uni.Dat 57) => [.sl 57 l]) ok47 := Opn.slice (e := 57) (sz := 3) Try.underlying47 (by kernel_rfl) rfl og57
def ok36 (l : List Int) : Prop := l.length ≤ 9223372036854775807 ∧ ∀ a ∈ l, ok3 a
theorem og36 : Opn enc Try.prog w 36 (fun l : List (uni.Dat 3) => [.sl 3 l]) ok36 := Opn.slice (e := 3) (sz := 0) Try.underlying36 (by kernel_rfl) rfl og3
end
end Go.Proofs.Ytgdahkddhecloaa
end
section
set_option linter.unusedSectionVars false
set_option linter.unusedVariables false
set_option linter.unusedSimpArgs false
namespace Go.Proofs.Ytgdahkddhecloaa.S
open Go Go.Iv
theorem i64_le {n : Int} (h : ok3 n) : -9223372036854775808 ≤ n ∧ n ≤ 9223372036854775807 := by
  unfold ok3 at h
  simp only [Lit.wf, Bool.and_eq_true, decide_eq_true_eq] at h
  have e1 : IntKind.i64.min = -9223372036854775808 := rfl
  have e2 : IntKind.i64.max = 9223372036854775807 := rfl
  omega
theorem law5 (l : List GEvent) (h : ok47 l) : Iv.Fn Try.prog 5 [.sl 57 l] [] (fun a s => a = .b true ∧ s = []) :=
  (fn5 l true (m5_eq l fun e he => (i64_le (h.2 e he).2.1).2)).2.law o5_eq (by kernel_rfl)
end Go.Proofs.Ytgdahkddhecloaa.S
end
