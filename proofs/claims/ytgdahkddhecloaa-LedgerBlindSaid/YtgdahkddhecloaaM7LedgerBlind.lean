/- Merged: Lz, Lza, Lzb0, Lba, Ls6, Iy1, Opg, Lbb. -/
import Derived.Test.YtgdahkddhecloaaM6LedgerBlind
import Derived.Test.YtgdahkddhecloaaM3LedgerBlind
import Derived.Deep.Slices
import Derived.Lib.SmallJoins
section
set_option linter.unusedSectionVars false
set_option linter.unusedVariables false
set_option linter.unusedSimpArgs false
namespace Go.Proofs.Ytgdahkddhecloaa.S
open Go Go.Iv

theorem dec_enc {r : Record} (h : okR r = true) : dec (enc r) = (r, true) := by
  unfold dec
  rw [be_get r h, if_pos ⟨enc_len r, h, rfl⟩]
theorem dec_inv {b : List Int} (h : (dec b).2 = true) : okR (dec b).1 = true ∧ enc (dec b).1 = b := by
  unfold dec at h ⊢
  split at h
  · rename_i c
    rw [if_pos c]
    exact ⟨c.2.1, c.2.2⟩
  · cases h
theorem enc_inj {r s : Record} (h1 : okR r = true) (h2 : okR s = true) (h : enc r = enc s) : r = s := by
  rw [← be_get r h1, ← be_get s h2, h]
def chn : Int → List Record → Prop
  | _, [] => True
  | last, r :: rs => last ≤ r.fEpoch ∧ chn r.fEpoch rs
def lastE (last : Int) (rl : List Record) : Int := rl.foldl (fun _ r => r.fEpoch) last
theorem lastE_append (last : Int) (a b : List Record) : lastE last (a ++ b) = lastE (lastE last a) b := List.foldl_append
theorem chn_append : ∀ (a b : List Record) (last : Int), chn last (a ++ b) ↔ chn last a ∧ chn (lastE last a) b
  | [], b, last => by simp [chn, lastE]
  | r :: a, b, last => by
    have := chn_append a b r.fEpoch
    show _ ∧ chn _ (a ++ b) ↔ (_ ∧ chn _ a) ∧ chn (lastE r.fEpoch a) b
    rw [this, and_assoc]
theorem rcs_eq {L : List (List Int)} (hs : L.length = 12) (n : Int) : ∀ (rl : List Record) (p : Nat) (last : Int), 1 ≤ p → p + rl.length ≤ 12 →
    (∀ k, k < rl.length → L[p + k]! = enc rl[k]! ∧ okR rl[k]! = true ∧ rl[k]!.fSeq = (p : Int) - 1 + k ∧ rl[k]!.fEpoch ≤ n) → chn last rl →
    (p + rl.length ≤ 11 → ∀ r, okR r = true → L[p + rl.length]! = enc r → r.fSeq = (p : Int) - 1 + rl.length → ¬ (lastE last rl ≤ r.fEpoch ∧ r.fEpoch ≤ n)) → rcs n (L.drop p) ((p : Int) - 1) last = rl := by
  intro rl
  induction rl with
  | nil =>
    intro p last h1 h2 h3 h4 h5
    by_cases hp : p = 12
    · subst hp
      rw [List.drop_of_length_le (by omega), rcs]
    · have hp' : p < L.length := by simp at h2; omega
      rw [List.drop_eq_getElem_cons hp', rcs, if_neg]
      rintro ⟨q1, q2, q3, q4⟩
      obtain ⟨e1, e2⟩ := dec_inv q1
      exact h5 (by simp; omega) _ e1 (by simp only [List.length_nil, Nat.add_zero]; rw [getElem!_pos L p hp', e2]) (by rw [q2]; simp) ⟨q3, q4⟩
  | cons r rl ih =>
    intro p last h1 h2 h3 h4 h5
    have hp' : p < L.length := by simp at h2; omega
    obtain ⟨e1, e2, e3, e4⟩ := h3 0 (by simp)
    have e1 : L[p] = enc r := by rw [← getElem!_pos L p hp']; exact e1
    have e2 : okR r = true := e2
    have e3 : r.fSeq = (p : Int) - 1 := by have : r.fSeq = (p : Int) - 1 + (0 : Nat) := e3; omega
    have e4 : r.fEpoch ≤ n := e4
    have := ih (p + 1) r.fEpoch (by omega) (by simp at h2; omega) (fun k hk => by
      obtain ⟨q1, q2, q3, q4⟩ := h3 (k + 1) (by simp; omega)
      rw [show p + (k + 1) = p + 1 + k from by omega] at q1
      exact ⟨q1, q2, by have : rl[k]!.fSeq = (p : Int) - 1 + (k + 1 : Nat) := q3; rw [this]; omega, q4⟩) h4.2 (fun hle s hs1 hs2 hs3 => h5 (by simp; omega) s hs1 (by rw [← hs2]; congr 1; simp; omega) (by rw [hs3]; simp; omega))
    rw [List.drop_eq_getElem_cons hp', e1, rcs, dec_enc e2, if_pos ⟨rfl, e3, h4.1, e4⟩]
    rw [show (((p + 1 : Nat) : Int) - 1) = (p : Int) - 1 + 1 from by omega] at this
    rw [this]
/-- what the sectors hold: the records rl, of epochs up to n, and nothing that goes on with them -/
structure Core (L : List (List Int)) (n : Int) (rl : List Record) : Prop where
  le : rl.length ≤ 11
  el : ∀ k, k < rl.length → L[k + 1]! = enc rl[k]! ∧ okR rl[k]! = true ∧ rl[k]!.fSeq = k ∧ rl[k]!.fEpoch ≤ n
  ch : chn 1 rl
  st : rl.length ≤ 10 → ∀ r, okR r = true → L[rl.length + 1]! = enc r → r.fSeq = rl.length → r.fEpoch < lastE 1 rl
/-- nothing behind them is of epoch n or later -/
def Aft (L : List (List Int)) (n : Int) (m : Nat) : Prop := ∀ p, m < p → p ≤ 11 → ∀ r, okR r = true → L[p]! = enc r → r.fSeq = (p : Int) - 1 → r.fEpoch < n
theorem Core.recs {L : List (List Int)} {n : Int} {rl : List Record} (hs : Sec L) (h : Core L n rl) : recsF L n = rl := by
  have hle := h.le
  exact rcs_eq hs.len n rl 1 1 (by omega) (by omega) (fun k hk => by
    obtain ⟨q1, q2, q3, q4⟩ := h.el k hk
    exact ⟨by rw [Nat.add_comm]; exact q1, q2, by rw [q3]; omega, q4⟩) h.ch (fun hl r h1 h2 h3 h4 => by
    have := h.st (by omega) r h1 (by rw [Nat.add_comm]; exact h2) (by rw [h3]; omega)
    omega)
/-- sectors after writes of records -/
structure Wr (L L2 : List (List Int)) (n : Int) (next : Nat) (rs : List Record) (m x : Nat) : Prop where
  xm : x ≤ m
  ml : m ≤ rs.length
  ei : ∀ p, L2[p]! = L[p]! ∨ ∃ i, i < m ∧ p = next + 1 + i ∧ L2[p]! = enc (stamp n ((next + i : Nat) : Int) rs[i]!)
  wr : ∀ i, i < x → L2[next + 1 + i]! = enc (stamp n ((next + i : Nat) : Int) rs[i]!)
  sto : L2[next + 1 + x]! = L[next + 1 + x]!
def stamps (n : Int) (next : Nat) (rs : List Record) (x : Nat) : List Record := (List.range x).map fun i : Nat => stamp n ((next + i : Nat) : Int) rs[i]!
theorem stamps_len (n : Int) (next : Nat) (rs : List Record) (x : Nat) : (stamps n next rs x).length = x := by simp [stamps]
theorem stamps_succ (n : Int) (next : Nat) (rs : List Record) (x : Nat) : stamps n next rs (x + 1) = stamps n next rs x ++ [stamp n ((next + x : Nat) : Int) rs[x]!] := by
  unfold stamps
  rw [List.range_succ, List.map_append]
  rfl
theorem stamps_get (n : Int) (next : Nat) (rs : List Record) (x i : Nat) (h : i < x) : (stamps n next rs x)[i]! = stamp n ((next + i : Nat) : Int) rs[i]! := by
  rw [getElem!_pos _ i (by rw [stamps_len]; exact h)]
  simp [stamps]
theorem lastE_stamps (n : Int) (next : Nat) (rs : List Record) (last : Int) : ∀ x, 0 < x → lastE last (stamps n next rs x) = n
  | 0, h => by omega
  | x + 1, _ => by rw [stamps_succ, lastE_append]; rfl
theorem chn_stamps (n : Int) (next : Nat) (rs : List Record) (last : Int) (h : last ≤ n) : ∀ x, chn last (stamps n next rs x)
  | 0 => trivial
  | x + 1 => by
    rw [stamps_succ, chn_append]
    refine ⟨chn_stamps n next rs last h x, ?_, trivial⟩
    by_cases hx : 0 < x
    · rw [lastE_stamps _ _ _ _ _ hx]; exact Int.le_refl _
    · have : x = 0 := by omega
      subst this
      exact h
theorem lastE_le {n : Int} : ∀ (rl : List Record) (last : Int), last ≤ n → (∀ k, k < rl.length → rl[k]!.fEpoch ≤ n) → lastE last rl ≤ n
  | [], last, h, _ => h
  | r :: rl, last, h, hr => lastE_le rl r.fEpoch (hr 0 (by simp)) fun k hk => hr (k + 1) (by simp; omega)
theorem get_app1 {α : Type} [Inhabited α] (a b : List α) {k : Nat} (h : k < a.length) : (a ++ b)[k]! = a[k]! := by
  rw [getElem!_pos _ k (by rw [List.length_append]; omega), getElem!_pos a k h, List.getElem_append_left h]
theorem get_app2 {α : Type} [Inhabited α] (a b : List α) {k : Nat} (h : k < b.length) : (a ++ b)[a.length + k]! = b[k]! := by
  rw [getElem!_pos _ _ (by rw [List.length_append]; omega), getElem!_pos b k h, List.getElem_append_right (by omega)]
  congr 1
  omega
theorem Core.wr {L L2 : List (List Int)} {n : Int} {rl rs : List Record} {m x : Nat} (h : Core L n rl) (ha : Aft L n rl.length) (n1 : 1 ≤ n) (n2 : n ≤ 2147483647) (hv : ∀ r ∈ rs, okT r) (hm : rl.length + m ≤ 11) (hw : Wr L L2 n rl.length rs m x) :
    Core L2 n (rl ++ stamps n rl.length rs x) ∧ Aft L2 (n + 1) (rl.length + x) ∧ (x = m → Aft L2 n (rl.length + x)) := by
  have hx := hw.xm
  have hml := hw.ml
  have hok : ∀ i, i < m → okR (stamp n ((rl.length + i : Nat) : Int) rs[i]!) = true := fun i hi => (hv _ (get_mem (by omega))).stamp (by omega) n2 (by omega) (by omega)
  have hold : ∀ p, p ≤ rl.length → L2[p]! = L[p]! := fun p hp => by
    rcases hw.ei p with e | ⟨i, _, e, _⟩
    · exact e
    · omega
  have hll : lastE 1 rl ≤ n := lastE_le rl 1 n1 fun k hk => (h.el k hk).2.2.2
  have hlen : (rl ++ stamps n rl.length rs x).length = rl.length + x := by rw [List.length_append, stamps_len]
  refine ⟨⟨by omega, fun k hk => ?_, ?_, fun hl r h1 h2 h3 => ?_⟩, fun p hp hp2 r h1 h2 h3 => ?_, fun hxm p hp hp2 r h1 h2 h3 => ?_⟩
  · by_cases hk1 : k < rl.length
    · rw [get_app1 _ _ hk1, hold (k + 1) (by omega)]
      exact h.el k hk1
    · obtain ⟨i, rfl⟩ : ∃ i, k = rl.length + i := ⟨k - rl.length, by omega⟩
      have hi : i < x := by omega
      rw [get_app2 _ _ (by rw [stamps_len]; exact hi), stamps_get _ _ _ _ _ hi, show rl.length + i + 1 = rl.length + 1 + i from by omega, hw.wr i hi]
      exact ⟨rfl, hok i (by omega), rfl, Int.le_refl _⟩
  · rw [chn_append]
    exact ⟨h.ch, chn_stamps _ _ _ _ hll _⟩
  · rw [hlen] at hl h2 h3
    rw [show rl.length + x + 1 = rl.length + 1 + x from by omega, hw.sto] at h2
    rw [lastE_append]
    by_cases hx0 : 0 < x
    · rw [lastE_stamps _ _ _ _ _ hx0]
      exact ha (rl.length + 1 + x) (by omega) (by omega) r h1 h2 (by rw [h3]; omega)
    · have : x = 0 := by omega
      subst this
      exact h.st (by omega) r h1 h2 (by rw [h3]; simp)
  · rcases hw.ei p with e | ⟨i, hi, e1, e2⟩
    · rw [e] at h2
      have := ha p (by omega) hp2 r h1 h2 h3
      omega
    · rw [e2] at h2
      have := enc_inj (hok i hi) h1 h2
      rw [← this]
      show n < n + 1
      omega
  · rcases hw.ei p with e | ⟨i, hi, e1, e2⟩
    · rw [e] at h2
      exact ha p (by omega) hp2 r h1 h2 h3
    · omega
end Go.Proofs.Ytgdahkddhecloaa.S
end
section
set_option linter.unusedSectionVars false
set_option linter.unusedVariables false
set_option linter.unusedSimpArgs false
namespace Go.Proofs.Ytgdahkddhecloaa.S
open Go Go.Iv

theorem set_get (L : List (List Int)) (i p : Nat) (b : List Int) (h : i < L.length) : (L.set i b)[p]! = if p = i then b else L[p]! := by
  rw [List.getElem!_eq_getElem?_getD, List.getElem!_eq_getElem?_getD]
  by_cases e : p = i
  · subst e
    rw [if_pos rfl, List.getElem?_set_self h]
    rfl
  · rw [if_neg e, List.getElem?_set_ne (by omega)]
theorem wS_get (n : Int) (next : Nat) (rs : List Record) (m i : Nat) (h : i < m) : (wS n next rs m)[i]! = ⟨((1 + next + i : Nat) : Int), enc (stamp n ((next + i : Nat) : Int) rs[i]!)⟩ := by
  rw [getElem!_pos _ i (by rw [wS_len]; exact h)]
  simp [wS]
theorem app_wS {L : List (List Int)} (hs : L.length = 12) (n : Int) (next : Nat) (rs : List Record) : ∀ i, next + i ≤ 11 → ∀ p, (∃ j, j < i ∧ p = next + 1 + j ∧ (app L (wS n next rs i))[p]! = enc (stamp n ((next + j : Nat) : Int) rs[j]!)) ∨ ((∀ j, j < i → p ≠ next + 1 + j) ∧ (app L (wS n next rs i))[p]! = L[p]!)
  | 0, _, p => .inr ⟨fun j hj => by omega, rfl⟩
  | i + 1, hi, p => by
    have e : app L (wS n next rs (i + 1)) = (app L (wS n next rs i)).set (1 + next + i) (enc (stamp n ((next + i : Nat) : Int) rs[i]!)) := by
      rw [wS_succ, app, List.foldl_append]
      rfl
    rw [e, set_get _ _ _ _ (by rw [app_len, hs]; omega)]
    by_cases hp : p = 1 + next + i
    · rw [if_pos hp]
      exact .inl ⟨i, by omega, by omega, rfl⟩
    · rw [if_neg hp]
      rcases app_wS hs n next rs i (by omega) p with ⟨j, h1, h2, h3⟩ | ⟨h1, h2⟩
      · exact .inl ⟨j, by omega, h2, h3⟩
      · refine .inr ⟨fun j hj => ?_, h2⟩
        by_cases hj' : j = i
        · omega
        · exact h1 j (by omega)
theorem crN_wS {L : List (List Int)} (hs : L.length = 12) (n : Int) (next : Nat) (rs : List Record) (keep : List Bool) (m : Nat) (hm : next + m ≤ 11) : ∀ i, i ≤ m → ∀ p, (∃ j, j < i ∧ p = next + 1 + j ∧ (crN L (wS n next rs m) keep i)[p]! = enc (stamp n ((next + j : Nat) : Int) rs[j]!)) ∨ (crN L (wS n next rs m) keep i)[p]! = L[p]!
  | 0, _, p => .inr rfl
  | i + 1, hi, p => by
    have ih := crN_wS hs n next rs keep m hm i (by omega) p
    have ih' : (∃ j, j < i + 1 ∧ p = next + 1 + j ∧ (crN L (wS n next rs m) keep i)[p]! = enc (stamp n ((next + j : Nat) : Int) rs[j]!)) ∨ (crN L (wS n next rs m) keep i)[p]! = L[p]! := by
      rcases ih with ⟨j, h1, h2⟩ | h
      · exact .inl ⟨j, by omega, h2⟩
      · exact .inr h
    rw [crN]
    split
    · rw [wS_get _ _ _ _ _ (by omega)]
      show (∃ j, j < i + 1 ∧ p = next + 1 + j ∧ ((crN L (wS n next rs m) keep i).set (1 + next + i) (enc (stamp n ((next + i : Nat) : Int) rs[i]!)))[p]! = _) ∨ ((crN L (wS n next rs m) keep i).set (1 + next + i) (enc (stamp n ((next + i : Nat) : Int) rs[i]!)))[p]! = _
      rw [set_get _ _ _ _ (by rw [crN_len, hs]; omega)]
      by_cases hp : p = 1 + next + i
      · rw [if_pos hp]
        exact .inl ⟨i, by omega, by omega, rfl⟩
      · rw [if_neg hp]
        exact ih'
    · exact ih'
theorem first_not (q : Nat → Prop) : ∀ m, ∃ x, x ≤ m ∧ (∀ i, i < x → q i) ∧ (x = m ∨ ¬ q x)
  | 0 => ⟨0, Nat.le_refl _, fun i hi => by omega, .inl rfl⟩
  | m + 1 => by
    obtain ⟨x, h1, h2, h3⟩ := first_not q m
    rcases h3 with h3 | h3
    · subst h3
      by_cases hq : q x
      · exact ⟨x + 1, Nat.le_refl _, fun i hi => by
          by_cases e : i = x
          · subst e; exact hq
          · exact h2 i (by omega), .inl rfl⟩
      · exact ⟨x, by omega, h2, .inr hq⟩
    · exact ⟨x, by omega, h2, .inr h3⟩
theorem wr_none (L : List (List Int)) (n : Int) (next : Nat) (rs : List Record) : Wr L L n next rs 0 0 := ⟨Nat.le_refl _, Nat.zero_le _, fun p => .inl rfl, fun i hi => by omega, rfl⟩
theorem wr_all {L : List (List Int)} (hs : L.length = 12) (n : Int) (next : Nat) (rs : List Record) (h : next + rs.length ≤ 11) : Wr L (app L (wS n next rs rs.length)) n next rs rs.length rs.length := by
  have key := app_wS hs n next rs rs.length h
  refine ⟨Nat.le_refl _, Nat.le_refl _, fun p => ?_, fun i hi => ?_, ?_⟩
  · rcases key p with ⟨j, h1⟩ | ⟨_, h2⟩
    · exact .inr ⟨j, h1⟩
    · exact .inl h2
  · rcases key (next + 1 + i) with ⟨j, h1, h2, h3⟩ | ⟨h1, _⟩
    · have : j = i := by omega
      subst this
      exact h3
    · exact absurd rfl (h1 i hi)
  · rcases key (next + 1 + rs.length) with ⟨j, h1, h2, h3⟩ | ⟨_, h2⟩
    · omega
    · exact h2
theorem wr_some {L : List (List Int)} (hs : L.length = 12) (n : Int) (next : Nat) (rs : List Record) (keep : List Bool) (m : Nat) (hm : next + m ≤ 11) (hr : m ≤ rs.length) : ∃ x, Wr L (crN L (wS n next rs m) keep m) n next rs m x := by
  have key := crN_wS hs n next rs keep m hm m (Nat.le_refl _)
  obtain ⟨x, h1, h2, h3⟩ := first_not (fun i => (crN L (wS n next rs m) keep m)[next + 1 + i]! = enc (stamp n ((next + i : Nat) : Int) rs[i]!)) m
  refine ⟨x, h1, hr, fun p => ?_, h2, ?_⟩
  · rcases key p with h | h
    · exact .inr h
    · exact .inl h
  · rcases key (next + 1 + x) with ⟨j, q1, q2, q3⟩ | h
    · have : j = x := by omega
      subst this
      rcases h3 with h3 | h3
      · omega
      · exact absurd q3 h3
    · exact h
theorem get_set0 (L : List (List Int)) (b : List Int) (p : Nat) (hp : p ≠ 0) : (L.set 0 b)[p]! = L[p]! := by
  rw [List.getElem!_eq_getElem?_getD, List.getElem!_eq_getElem?_getD, List.getElem?_set_ne (by omega)]
theorem Core.set0 {L : List (List Int)} {n m : Int} {rl : List Record} (h : Core L n rl) (b : List Int) (hnm : n ≤ m) : Core (L.set 0 b) m rl :=
  ⟨h.le, fun k hk => by
    rw [get_set0 L b (k + 1) (by omega)]
    obtain ⟨q1, q2, q3, q4⟩ := h.el k hk
    exact ⟨q1, q2, q3, by omega⟩, h.ch, fun hl r h1 h2 h3 => by
    rw [get_set0 L b _ (by omega)] at h2
    exact h.st hl r h1 h2 h3⟩
theorem Aft.set0 {L : List (List Int)} {n : Int} {m : Nat} (h : Aft L n m) (b : List Int) : Aft (L.set 0 b) n m := fun p h1 h2 r h3 h4 h5 => by
  rw [get_set0 L b p (by omega)] at h4
  exact h p h1 h2 r h3 h4 h5
/-- alike -/
structure Lk (rl S : List Record) : Prop where
  len : rl.length = S.length
  at' : ∀ k, k < S.length → m23 rl[k]! S[k]! = true
theorem m23_stamp (n k : Int) (r : Record) : m23 (stamp n k r) r = true := by simp [m23, stamp]
theorem Lk.append {a b c d : List Record} (h1 : Lk a b) (h2 : Lk c d) : Lk (a ++ c) (b ++ d) := ⟨by rw [List.length_append, List.length_append, h1.len, h2.len], fun k hk => by
  by_cases hk1 : k < b.length
  · rw [get_app1 _ _ hk1, get_app1 _ _ (by rw [h1.len]; exact hk1)]
    exact h1.at' k hk1
  · obtain ⟨i, rfl⟩ : ∃ i, k = b.length + i := ⟨k - b.length, by omega⟩
    have hi : i < d.length := by rw [List.length_append] at hk; omega
    rw [get_app2 _ _ hi, ← h1.len, get_app2 _ _ (by rw [h2.len]; exact hi)]
    exact h2.at' i hi⟩
theorem Lk.stamps (n : Int) (next : Nat) (rs : List Record) (x : Nat) (h : x ≤ rs.length) : Lk (stamps n next rs x) (rs.take x) := ⟨by rw [stamps_len, List.length_take]; omega, fun k hk => by
  have hk' : k < x := by rw [List.length_take] at hk; omega
  rw [stamps_get _ _ _ _ _ hk', getElem!_pos (rs.take x) k hk, List.getElem_take, getElem!_pos rs k (by omega)]
  exact m23_stamp _ _ _⟩
theorem chn_ge : ∀ (rl : List Record) (last : Int), chn last rl → ∀ k, k < rl.length → last ≤ rl[k]!.fEpoch
  | r :: rl, last, h, 0, _ => h.1
  | r :: rl, last, h, k + 1, hk => by
    have h1 := h.1
    have h2 := chn_ge rl r.fEpoch h.2 k (by simpa using hk)
    have : last ≤ rl[k]!.fEpoch := by omega
    exact this
structure Sv (s : Pl) (rl S : List Record) : Prop where
  core : Core s.L s.n rl
  aft : Aft s.L s.n rl.length
  nx : rl.length = s.next
  lk : Lk rl S
/-- what a round shows -/
def GS (e : GEvent) (o : Outcome) (S S' : List Record) : Prop :=
  if o.fOpened = true then ∃ x, x ≤ e.fRecords.length ∧ (0 < x → o.fCode = 17) ∧ S' = (if o.fCode = 0 then S ++ e.fRecords else S) ++ e.fRecords.take x ∧ o.fList.length = S'.length ∧ ∀ k, k < S'.length → m23 o.fList[k]! S'[k]! = true ∧ o.fList[k]!.fSeq = k ∧ 1 ≤ o.fList[k]!.fEpoch ∧ o.fList[k]!.fEpoch < o.fEpoch
  else S' = if o.fCode = 0 then S ++ e.fRecords else S
theorem ne16 : ¬ (16 : Int) = 0 := by decide
theorem ne17 : ¬ (17 : Int) = 0 := by decide
theorem crN_nil (L : List (List Int)) (keep : List Bool) : crN L [] keep ([] : List Write).length = L := rfl
section
variable {s : Pl} {k : Nat} (hi : Inv s k) (hk : k ≤ 100) {e : GEvent} (he : okE e) {rl S : List Record} (hv : Sv s rl S)
include hi hk he hv
/-- after an opening -/
theorem opened {L2 : List (List Int)} (hs : Sec L2) {m x : Nat} (hw : Wr s.L L2 s.n rl.length e.fRecords m x) (hm : rl.length + m ≤ 11) :
    recsF L2 s.n = rl ++ stamps s.n rl.length e.fRecords x ∧ Sv ⟨L2.set 0 (encH h0 (s.n + 1)), s.n + 1, (recsF L2 s.n).length⟩ (rl ++ stamps s.n rl.length e.fRecords x) (S ++ e.fRecords.take x)
    ∧ ∀ j, j < (S ++ e.fRecords.take x).length → m23 (recsF L2 s.n)[j]! (S ++ e.fRecords.take x)[j]! = true ∧ (recsF L2 s.n)[j]!.fSeq = j ∧ 1 ≤ (recsF L2 s.n)[j]!.fEpoch ∧ (recsF L2 s.n)[j]!.fEpoch < s.n + 1 := by
  have hn2 : s.n ≤ 2147483647 := by have := hi.nk; omega
  obtain ⟨c1, c2, _⟩ := hv.core.wr hv.aft hi.n1 hn2 he.rv hm hw
  have hr := c1.recs hs
  have hlk := hv.lk.append (Lk.stamps s.n rl.length e.fRecords x (Nat.le_trans hw.xm hw.ml))
  have hl : (rl ++ stamps s.n rl.length e.fRecords x).length = rl.length + x := by rw [List.length_append, stamps_len]
  refine ⟨hr, ⟨c1.set0 _ (show s.n ≤ s.n + 1 by omega), by rw [hl]; exact c2.set0 _, by rw [hr], hlk⟩, fun j hj => ?_⟩
  rw [hr]
  have hj' : j < (rl ++ stamps s.n rl.length e.fRecords x).length := by rw [hlk.len]; exact hj
  obtain ⟨_, _, q3, q4⟩ := c1.el j hj'
  exact ⟨hlk.at' j hj, q3, chn_ge _ 1 c1.ch j hj', by omega⟩
theorem round : ∃ rl' S', Sv (stepF s e).2 rl' S' ∧ GS e (stepF s e).1 S S' := by
  have hn2 : s.n ≤ 2147483647 := by have := hi.nk; omega
  have hnx := hv.nx
  obtain ⟨a1, a2, a3, _⟩ := ap_ok hi hk he
  have tk : ∀ l : List Record, l ++ e.fRecords.take 0 = l := fun l => by simp
  unfold stepF
  dsimp only
  unfold apF at a1 a2 a3 ⊢
  by_cases c1 : e.fRecords.length = 0
  · have hnil := List.eq_nil_of_length_eq_zero c1
    rw [if_pos c1] at a1 a2 a3 ⊢
    dsimp only at a1 a2 a3 ⊢
    by_cases hc : e.fCrash = true
    · rw [if_pos (.inl hc)]
      obtain ⟨q1, q2, q3⟩ := opened hi hk he hv hi.sec (wr_none s.L s.n rl.length e.fRecords) (by have := hv.core.le; omega)
      refine ⟨_, _, q2, ?_⟩
      unfold GS
      rw [if_pos rfl]
      exact ⟨0, by omega, fun h => by omega, by rw [if_pos rfl, hnil]; simp, by rw [crN_nil, q1, q2.lk.len], q3⟩
    · rw [if_neg (by rintro (h | h); exact hc h; cases h)]
      refine ⟨rl, S, ⟨hv.core, hv.aft, by rw [if_pos rfl, c1]; exact hnx, hv.lk⟩, ?_⟩
      unfold GS
      rw [if_neg (fun h => by cases h), if_pos rfl, hnil, List.append_nil]
  · rw [if_neg c1] at a1 a2 a3 ⊢
    by_cases c2 : 12 ≤ s.next + e.fRecords.length
    · rw [if_pos c2] at a1 a2 a3 ⊢
      dsimp only at a1 a2 a3 ⊢
      by_cases hc : e.fCrash = true
      · rw [if_pos (.inl hc)]
        obtain ⟨q1, q2, q3⟩ := opened hi hk he hv hi.sec (wr_none s.L s.n rl.length e.fRecords) (by have := hv.core.le; omega)
        refine ⟨_, _, q2, ?_⟩
        unfold GS
        rw [if_pos rfl]
        exact ⟨0, by omega, fun h => by omega, by rw [if_neg ne16], by rw [crN_nil, q1, q2.lk.len], q3⟩
      · rw [if_neg (by rintro (h | h); exact hc h; cases h)]
        refine ⟨rl, S, ⟨hv.core, hv.aft, by rw [if_neg ne16]; exact hnx, hv.lk⟩, ?_⟩
        unfold GS
        rw [if_neg (fun h => by cases h), if_neg ne16]
    · rw [if_neg c2] at a1 a2 a3 ⊢
      by_cases c3 : lft e < 0 ∨ (e.fRecords.length : Int) < lft e
      · rw [if_pos c3] at a1 a2 a3 ⊢
        dsimp only at a1 a2 a3 ⊢
        rw [← hnx] at a1 ⊢
        have hw := wr_all hi.sec.len s.n rl.length e.fRecords (by omega)
        by_cases hc : e.fCrash = true
        · rw [if_pos (.inl hc)]
          obtain ⟨q1, q2, q3⟩ := opened hi hk he hv a1 hw (by omega)
          rw [List.take_length] at q2 q3
          refine ⟨_, _, q2, ?_⟩
          unfold GS
          rw [if_pos rfl]
          exact ⟨0, by omega, fun h => by omega, by rw [if_pos rfl, tk], by rw [crN_nil, q1, q2.lk.len], q3⟩
        · rw [if_neg (by rintro (h | h); exact hc h; cases h)]
          obtain ⟨r1, r2, r3⟩ := hv.core.wr hv.aft hi.n1 hn2 he.rv (by omega) hw
          have hlk := hv.lk.append (Lk.stamps s.n rl.length e.fRecords e.fRecords.length (Nat.le_refl _))
          have hl : (rl ++ stamps s.n rl.length e.fRecords e.fRecords.length).length = rl.length + e.fRecords.length := by rw [List.length_append, stamps_len]
          rw [List.take_length] at hlk
          refine ⟨_, _, ⟨r1, by rw [hl]; exact r3 rfl, by rw [hl, if_pos rfl], hlk⟩, ?_⟩
          unfold GS
          rw [if_neg (fun h => by cases h), if_pos rfl]
      · rw [if_neg c3] at a1 a2 a3 ⊢
        dsimp only at a1 a2 a3 ⊢
        rw [← hnx] at a3 ⊢
        rw [if_pos (.inr rfl)]
        dsimp only
        rw [wS_len]
        have hj : (lft e).toNat ≤ e.fRecords.length := by omega
        obtain ⟨x, hw⟩ := wr_some hi.sec.len s.n rl.length e.fRecords e.fKeep (lft e).toNat (by omega) hj
        obtain ⟨q1, q2, q3⟩ := opened hi hk he hv (crN_sec hi.sec wS_mem e.fKeep _ (by rw [wS_len]; omega)).1 hw (by omega)
        refine ⟨_, _, q2, ?_⟩
        unfold GS
        rw [if_pos rfl]
        exact ⟨x, Nat.le_trans hw.xm hj, fun _ => rfl, by rw [if_neg ne17], by rw [q1, q2.lk.len], q3⟩
end
theorem sv0 : Sv s0 [] [] := by
  have hz : ∀ p, p ≠ 0 → p ≤ 11 → s0.L[p]! = zs := fun p h1 h2 => by
    exact (get_set0 (zd.set 0 (encH h0 0)) (encH h0 1) p h1).trans ((get_set0 zd (encH h0 0) p h1).trans (by rw [getElem!_pos zd p (by rw [List.length_replicate]; omega), List.getElem_replicate]))
  have hne : ∀ r, ¬ zs = enc r := fun r h => by
    have := congrArg List.head? h
    simp [enc, pad, List.replicate] at this
  exact ⟨⟨by simp, fun k hk => by simp at hk, trivial, fun _ r _ h2 => by rw [hz _ (by simp) (by simp)] at h2; exact absurd h2 (hne r)⟩, fun p h1 h2 r _ h3 => by rw [hz p (by simp at h1; omega) h2] at h3; exact absurd h3 (hne r), rfl, ⟨rfl, fun k hk => by simp at hk⟩⟩
/-- a history shows what it must -/
def Good : List GEvent → List Outcome → List Record → Prop
  | [], [], _ => True
  | e :: es, o :: os, S => ∃ S', S'.length ≤ 11 ∧ GS e o S S' ∧ Good es os S'
  | _, _, _ => False
theorem good_run : ∀ (es : List GEvent) (k : Nat) (s : Pl) (rl S : List Record), k + es.length ≤ 100 → (∀ e ∈ es, okE e) → Inv s k → Sv s rl S → Good es (runF s es) S
  | [], _, _, _, _, _, _, _, _ => trivial
  | e :: es, k, s, rl, S, hk, hv, hi, hs => by
    have he := hv e (List.mem_cons_self ..)
    have hk' : k ≤ 100 := by simp at hk; omega
    obtain ⟨rl', S', h1, h2⟩ := round hi hk' he hs
    exact ⟨S', by rw [← h1.lk.len]; exact h1.core.le, h2, good_run es (k + 1) _ rl' S' (by simp at hk; omega) (fun e h => hv e (List.mem_cons_of_mem _ h)) (stepF_inv hi hk' he) h1⟩
theorem run_len : ∀ (es : List GEvent) (s : Pl), (runF s es).length = es.length
  | [], _ => rfl
  | e :: es, s => by simp [runF, run_len es]
end Go.Proofs.Ytgdahkddhecloaa.S
end
section
set_option linter.unusedSectionVars false
set_option linter.unusedVariables false
set_option linter.unusedSimpArgs false
namespace Go.Proofs.Ytgdahkddhecloaa.S
open Go Go.Iv

def okRb (r : Record) : Bool := okR (stamp 0 0 r)
def okEb (e : GEvent) : Bool := decide (e.fRecords.length ≤ 5) && decide (e.fKeep.length ≤ 20) && e.fRecords.all okRb
theorem m9_st (r : Record) : m9 (Record.mk 0 0 r.fSecret r.fClient r.fNumber r.fProgram r.fPublic r.fAnswer r.fCharge) = some (okRb r) := m9_eq _
theorem n21_1_at (l : List GEvent) (m t : Int) (rs : List Record) (hr : rs.length ≤ 100) (i : Nat) (hi : i < rs.length) : n21_1 ⟨l, m, t, rs, rs.length, i⟩ = if okRb rs[i]! = true then some (some ⟨l, m, t, rs, rs.length, ((i + 1 : Nat) : Int)⟩) else some none := by
  unfold n21_1
  dsimp only
  rw [decide_eq_true (by omega), cond_true, if_pos (by omega), Int.toNat_natCast, m9_st, w1 hi (by omega)]
  dsimp only
  cases okRb rs[i]! <;> rfl
theorem a21_1_eq (l : List GEvent) (m t : Int) (rs : List Record) (hr : rs.length ≤ 100) : ∃ j : Nat, a21_1 ⟨l, m, t, rs, rs.length, 0⟩ = some ⟨l, m, t, rs, rs.length, j⟩ ∧ ((j = rs.length ∧ rs.all okRb = true) ∨ (j < rs.length ∧ okRb rs[j]! = false ∧ rs.all okRb = false)) := by
  obtain ⟨j, q1, q2, q3, q4, q5⟩ := advG_count (rnd := n21_1) (fun i => ⟨l, m, t, rs, rs.length, (i : Nat)⟩) rs.length (fun i hi => by
      rw [n21_1_at l m t rs hr i hi]
      by_cases e : okRb rs[i]! = true
      · rw [if_pos e]; exact .inl rfl
      · rw [if_neg e]; exact .inr fun r => by simp) (fun r => by
      unfold n21_1
      dsimp only
      rw [decide_eq_false (by omega)]
      simp) rs.length 0 (by omega)
  refine ⟨j, q3, ?_⟩
  have hlt : ∀ i, i < j → okRb rs[i]! = true := fun i hi => by
    have h1 := q4 i (by omega) hi
    rw [n21_1_at l m t rs hr i (by omega)] at h1
    by_cases e : okRb rs[i]! = true
    · exact e
    · rw [if_neg e] at h1; simp at h1
  by_cases hj : j = rs.length
  · refine .inl ⟨hj, List.all_eq_true.2 fun r hr => ?_⟩
    obtain ⟨i, hi, rfl⟩ := List.getElem_of_mem hr
    rw [← getElem!_pos rs i hi]
    exact hlt i (by omega)
  · have hj' : j < rs.length := by omega
    have hb : okRb rs[j]! = false := by
      cases e : okRb rs[j]!
      · rfl
      · have h1 := q5 ⟨l, m, t, rs, rs.length, ((j + 1 : Nat) : Int)⟩
        rw [n21_1_at l m t rs hr j hj', if_pos e] at h1
        exact absurd rfl h1
    exact .inr ⟨hj', hb, List.all_eq_false.2 ⟨rs[j]!, get_mem hj', by rw [hb]; decide⟩⟩
theorem n21_0_at (l : List GEvent) (hl : l.length ≤ 100) (i : Nat) (hi : i < l.length) : n21_0 ⟨l, l.length, i⟩ = if okEb l[i]! = true then some (some ⟨l, l.length, ((i + 1 : Nat) : Int)⟩) else some none := by
  unfold n21_0
  dsimp only
  rw [decide_eq_true (by omega), cond_true, if_pos (by omega), Int.toNat_natCast]
  unfold okEb
  by_cases c1 : l[i]!.fRecords.length ≤ 5
  · rw [decide_eq_false (show ¬ (5 : Int) < (l[i]!.fRecords.length : Int) by omega), cond_false, decide_eq_true c1]
    by_cases c2 : l[i]!.fKeep.length ≤ 20
    · rw [decide_eq_false (show ¬ (20 : Int) < (l[i]!.fKeep.length : Int) by omega), decide_eq_true c2]
      dsimp only
      rw [cond_false]
      obtain ⟨j, h1, h2⟩ := a21_1_eq l l.length i l[i]!.fRecords (by omega)
      rw [h1]
      dsimp only
      rcases h2 with ⟨h2, h3⟩ | ⟨h2, h3, h4⟩
      · rw [decide_eq_false (by omega), cond_false, h3, w1 hi (by omega)]
        rfl
      · rw [decide_eq_true (by omega), cond_true, if_pos (by omega), Int.toNat_natCast, m9_st, h3, h4]
        rfl
    · rw [decide_eq_true (show (20 : Int) < (l[i]!.fKeep.length : Int) by omega), decide_eq_false c2]
      rfl
  · rw [decide_eq_true (show (5 : Int) < (l[i]!.fRecords.length : Int) by omega), decide_eq_false c1]
    rfl
theorem m21_eq (l : List GEvent) : m21 l = some (decide (l.length ≤ 12) && l.all okEb) := by
  unfold m21
  by_cases c : l.length ≤ 12
  · rw [decide_eq_false (show ¬ (12 : Int) < (l.length : Int) by omega), cond_false, decide_eq_true c, Bool.true_and]
    obtain ⟨j, q1, q2, q3, q4, q5⟩ := advG_count (rnd := n21_0) (fun i => ⟨l, l.length, (i : Nat)⟩) l.length (fun i hi => by
        rw [n21_0_at l (by omega) i hi]
        by_cases e : okEb l[i]! = true
        · rw [if_pos e]; exact .inl rfl
        · rw [if_neg e]; exact .inr fun r => by simp) (fun r => by
        unfold n21_0
        dsimp only
        rw [decide_eq_false (by omega)]
        simp) l.length 0 (by omega)
    have q3' : a21_0 ⟨l, l.length, 0⟩ = some ⟨l, l.length, j⟩ := q3
    rw [q3']
    dsimp only
    have hlt : ∀ i, i < j → okEb l[i]! = true := fun i hi => by
      have h1 := q4 i (by omega) hi
      rw [n21_0_at l (by omega) i (by omega)] at h1
      by_cases e : okEb l[i]! = true
      · exact e
      · rw [if_neg e] at h1; simp at h1
    by_cases hj : j = l.length
    · have : l.all okEb = true := List.all_eq_true.2 fun r hr => by
        obtain ⟨i, hi, rfl⟩ := List.getElem_of_mem hr
        rw [← getElem!_pos l i hi]
        exact hlt i (by omega)
      rw [decide_eq_false (by omega), cond_false, this]
    · have hj' : j < l.length := by omega
      have hb : okEb l[j]! = false := by
        cases e : okEb l[j]!
        · rfl
        · have h1 := q5 ⟨l, l.length, ((j + 1 : Nat) : Int)⟩
          rw [n21_0_at l (by omega) j hj', if_pos e] at h1
          exact absurd rfl h1
      have hall : l.all okEb = false := List.all_eq_false.2 ⟨l[j]!, get_mem hj', by rw [hb]; decide⟩
      rw [decide_eq_true (by omega), cond_true, if_pos (by omega), Int.toNat_natCast, hall]
      unfold okEb at hb
      by_cases c1 : l[j]!.fRecords.length ≤ 5
      · rw [decide_eq_false (show ¬ (5 : Int) < (l[j]!.fRecords.length : Int) by omega), cond_false]
        rw [decide_eq_true c1] at hb
        by_cases c2 : l[j]!.fKeep.length ≤ 20
        · rw [decide_eq_true c2] at hb
          rw [decide_eq_false (show ¬ (20 : Int) < (l[j]!.fKeep.length : Int) by omega)]
          dsimp only
          rw [cond_false]
          obtain ⟨t, h1, h2⟩ := a21_1_eq l l.length j l[j]!.fRecords (by omega)
          rw [h1]
          dsimp only
          rcases h2 with ⟨h2, h3⟩ | ⟨h2, h3, h4⟩
          · rw [h3] at hb; cases hb
          · rw [decide_eq_true (by omega), cond_true, if_pos (by omega), Int.toNat_natCast, m9_st, h3]
            rfl
        · rw [decide_eq_true (show (20 : Int) < (l[j]!.fKeep.length : Int) by omega)]
          rfl
      · rw [decide_eq_true (show (5 : Int) < (l[j]!.fRecords.length : Int) by omega)]
        rfl
  · rw [decide_eq_true (show (12 : Int) < (l.length : Int) by omega), cond_true, decide_eq_false c]
    rfl
theorem okE_of {e : GEvent} (h : okEb e = true) (hl : e.fLeft ≤ 9223372036854775807) : okE e := by
  unfold okEb at h
  simp only [Bool.and_eq_true, decide_eq_true_eq] at h
  exact ⟨h.1.1, h.1.2, fun r hr => List.all_eq_true.1 h.2 r hr, hl⟩
end Go.Proofs.Ytgdahkddhecloaa.S
end
section
set_option linter.unusedSectionVars false
set_option linter.unusedVariables false
set_option linter.unusedSimpArgs false
namespace Go.Proofs.Ytgdahkddhecloaa.S
open Go Go.Iv

structure SimR (r s : Record) : Prop where
  ep : s.fEpoch = r.fEpoch
  sq : s.fSeq = r.fSeq
def SimS (r s : Record) : Prop := okT r ∧ okT s
def sb (b c : List Int) : Prop := b = c ∨ ∃ r s, okR r = true ∧ okR s = true ∧ r.fEpoch = s.fEpoch ∧ r.fSeq = s.fSeq ∧ b = enc r ∧ c = enc s
def SL : List (List Int) → List (List Int) → Prop
  | [], [] => True
  | b :: bs, c :: cs => sb b c ∧ SL bs cs
  | _, _ => False
theorem SL.refl : ∀ l, SL l l
  | [] => trivial
  | b :: bs => ⟨.inl rfl, SL.refl bs⟩
theorem SL.len : ∀ {l m}, SL l m → l.length = m.length
  | [], [], _ => rfl
  | b :: bs, c :: cs, h => by simp [SL.len h.2]
theorem SL.drop1 : ∀ {l m}, SL l m → SL (l.drop 1) (m.drop 1)
  | [], [], _ => trivial
  | b :: bs, c :: cs, h => h.2
theorem SL.set {x y : List Int} (hxy : sb x y) : ∀ {l m} (i : Nat), SL l m → SL (l.set i x) (m.set i y)
  | [], [], _, _ => trivial
  | b :: bs, c :: cs, 0, h => ⟨hxy, h.2⟩
  | b :: bs, c :: cs, i + 1, h => ⟨h.1, SL.set hxy i h.2⟩
theorem sb_dec {b c : List Int} (h : sb b c) : (dec b).2 = (dec c).2 ∧ (dec b).1.fSeq = (dec c).1.fSeq ∧ (dec b).1.fEpoch = (dec c).1.fEpoch := by
  rcases h with rfl | ⟨r, s, h1, h2, h3, h4, rfl, rfl⟩
  · exact ⟨rfl, rfl, rfl⟩
  · rw [dec_enc h1, dec_enc h2]
    exact ⟨rfl, h4, h3⟩
theorem rcs_sim (n : Int) : ∀ {bs cs} (k last : Int), SL bs cs → (rcs n bs k last).length = (rcs n cs k last).length
  | [], [], _, _, _ => rfl
  | b :: bs, c :: cs, k, last, h => by
    obtain ⟨q1, q2, q3⟩ := sb_dec h.1
    rw [rcs, rcs, q1, q2, q3]
    split
    · simp only [List.length_cons]
      rw [rcs_sim n _ _ h.2]
    · rfl
theorem recsF_sim {L M : List (List Int)} (h : SL L M) (n : Int) : (recsF L n).length = (recsF M n).length := rcs_sim n _ _ h.drop1
structure SimE (e f : GEvent) : Prop where
  le : f.fLeft = e.fLeft
  cr : f.fCrash = e.fCrash
  ke : f.fKeep = e.fKeep
  len : f.fRecords.length = e.fRecords.length
theorem SimE.lft {e f : GEvent} (h : SimE e f) : lft f = lft e := by unfold S.lft; rw [h.le]
theorem app_sim {L M : List (List Int)} (h : SL L M) {n : Int} (n1 : 1 ≤ n) (n2 : n ≤ 2147483647) (next : Nat) {rs ss : List Record} (hr : ∀ r ∈ rs, okT r) (hs : ∀ r ∈ ss, okT r) (hl : ss.length = rs.length) : ∀ m, m ≤ rs.length → next + m ≤ 100 → SL (app L (wS n next rs m)) (app M (wS n next ss m))
  | 0, _, _ => h
  | m + 1, hm, hn => by
    rw [wS_succ, wS_succ, app, app, List.foldl_append, List.foldl_append]
    exact SL.set (.inr ⟨_, _, (hr _ (get_mem (show m < rs.length by omega))).stamp (by omega) n2 (by omega) (by omega), (hs _ (get_mem (show m < ss.length by omega))).stamp (by omega) n2 (by omega) (by omega), rfl, rfl, rfl, rfl⟩) _ (app_sim h n1 n2 next hr hs hl m (by omega) (by omega))
theorem crN_sim {L M : List (List Int)} (h : SL L M) {n : Int} (n1 : 1 ≤ n) (n2 : n ≤ 2147483647) (next : Nat) {rs ss : List Record} (hr : ∀ r ∈ rs, okT r) (hs : ∀ r ∈ ss, okT r) (hl : ss.length = rs.length) (keep : List Bool) (m : Nat) (hm : m ≤ rs.length) (hn : next + m ≤ 100) : ∀ i, i ≤ m → SL (crN L (wS n next rs m) keep i) (crN M (wS n next ss m) keep i)
  | 0, _ => h
  | i + 1, hi => by
    have ih := crN_sim h n1 n2 next hr hs hl keep m hm hn i (by omega)
    rw [crN, crN]
    split
    · rw [wS_get _ _ _ _ _ (by omega), wS_get _ _ _ _ _ (by omega)]
      exact SL.set (.inr ⟨_, _, (hr _ (get_mem (show i < rs.length by omega))).stamp (by omega) n2 (by omega) (by omega), (hs _ (get_mem (show i < ss.length by omega))).stamp (by omega) n2 (by omega) (by omega), rfl, rfl, rfl, rfl⟩) _ ih
    · exact ih
structure SimP (s t : Pl) : Prop where
  l : SL s.L t.L
  n : t.n = s.n
  nx : t.next = s.next
structure SimO (o p : Outcome) : Prop where
  c : o.fCode = p.fCode
  op : o.fOpened = p.fOpened
  ep : o.fEpoch = p.fEpoch
  len : o.fList.length = p.fList.length
theorem crN_nil0 (L : List (List Int)) (keep : List Bool) : crN L [] keep ([] : List Write).length = L := rfl
theorem step_sim {s t : Pl} {e f : GEvent} (h : SimP s t) (he : SimE e f) (he1 : okE e) (hf1 : okE f) {k : Nat} (hi : Inv s k) (hk : k ≤ 100) : SimO (stepF s e).1 (stepF t f).1 ∧ SimP (stepF s e).2 (stepF t f).2 := by
  have hn1 := hi.n1
  have hn2 : s.n ≤ 2147483647 := by have := hi.nk; omega
  have hnx := hi.nx
  have hr5 := he1.r5
  have opened : ∀ {L M : List (List Int)} (c : Int), SL L M → SimO ⟨c, true, recsF L s.n, s.n + 1⟩ ⟨c, true, recsF M s.n, s.n + 1⟩ ∧ SimP ⟨L.set 0 (encH h0 (s.n + 1)), s.n + 1, (recsF L s.n).length⟩ ⟨M.set 0 (encH h0 (s.n + 1)), s.n + 1, (recsF M s.n).length⟩ := fun {L M} c hl =>
    ⟨⟨rfl, rfl, rfl, recsF_sim hl s.n⟩, ⟨SL.set (.inl rfl) 0 hl, rfl, (recsF_sim hl s.n).symm⟩⟩
  unfold stepF
  dsimp only
  unfold apF
  rw [h.n, h.nx, he.lft, he.cr, he.ke, he.len]
  by_cases c1 : e.fRecords.length = 0
  · rw [if_pos c1, if_pos c1]
    dsimp only
    by_cases hc : e.fCrash = true
    · rw [if_pos (.inl hc), if_pos (.inl hc)]
      exact opened 0 h.l
    · rw [if_neg (show ¬ (e.fCrash = true ∨ (0 : Int) = 17) by rintro (q | q); exact hc q; cases q), if_neg (show ¬ (e.fCrash = true ∨ (0 : Int) = 17) by rintro (q | q); exact hc q; cases q)]
      exact ⟨⟨rfl, rfl, rfl, rfl⟩, ⟨h.l, rfl, rfl⟩⟩
  · rw [if_neg c1, if_neg c1]
    by_cases c2 : 12 ≤ s.next + e.fRecords.length
    · rw [if_pos c2, if_pos c2]
      dsimp only
      by_cases hc : e.fCrash = true
      · rw [if_pos (.inl hc), if_pos (.inl hc)]
        exact opened 16 h.l
      · rw [if_neg (show ¬ (e.fCrash = true ∨ (16 : Int) = 17) by rintro (q | q); exact hc q; cases q), if_neg (show ¬ (e.fCrash = true ∨ (16 : Int) = 17) by rintro (q | q); exact hc q; cases q)]
        exact ⟨⟨rfl, rfl, rfl, rfl⟩, ⟨h.l, rfl, rfl⟩⟩
    · rw [if_neg c2, if_neg c2]
      by_cases c3 : lft e < 0 ∨ (e.fRecords.length : Int) < lft e
      · rw [if_pos c3, if_pos c3]
        dsimp only
        have hl := app_sim h.l hn1 hn2 s.next he1.rv hf1.rv he.len e.fRecords.length (Nat.le_refl _) (by omega)
        by_cases hc : e.fCrash = true
        · rw [if_pos (.inl hc), if_pos (.inl hc)]
          exact opened 0 hl
        · rw [if_neg (show ¬ (e.fCrash = true ∨ (0 : Int) = 17) by rintro (q | q); exact hc q; cases q), if_neg (show ¬ (e.fCrash = true ∨ (0 : Int) = 17) by rintro (q | q); exact hc q; cases q)]
          exact ⟨⟨rfl, rfl, rfl, rfl⟩, ⟨hl, rfl, rfl⟩⟩
      · rw [if_neg c3, if_neg c3]
        dsimp only
        rw [if_pos (.inr rfl), if_pos (.inr rfl), wS_len, wS_len]
        exact opened 17 (crN_sim h.l hn1 hn2 s.next he1.rv hf1.rv he.len e.fKeep _ (by omega) (by omega) _ (Nat.le_refl _))
def SimLs : List GEvent → List GEvent → Prop
  | [], [] => True
  | e :: es, f :: fs => SimE e f ∧ SimLs es fs
  | _, _ => False
def SimOs : List Outcome → List Outcome → Prop
  | [], [] => True
  | e :: es, f :: fs => SimO e f ∧ SimOs es fs
  | _, _ => False
theorem run_sim : ∀ (es fs : List GEvent) (k : Nat) (s t : Pl), k + es.length ≤ 100 → SimLs es fs → (∀ e ∈ es, okE e) → (∀ e ∈ fs, okE e) → SimP s t → Inv s k → SimOs (runF s es) (runF t fs)
  | [], [], _, _, _, _, _, _, _, _, _ => trivial
  | e :: es, f :: fs, k, s, t, hk, h, he, hf, hp, hi => by
    have he1 := he e (List.mem_cons_self ..)
    have hk' : k ≤ 100 := by simp at hk; omega
    obtain ⟨h1, h2⟩ := step_sim hp h.1 he1 (hf f (List.mem_cons_self ..)) hi hk'
    exact ⟨h1, run_sim es fs (k + 1) _ _ (by simp at hk; omega) h.2 (fun e h => he e (List.mem_cons_of_mem _ h)) (fun e h => hf e (List.mem_cons_of_mem _ h)) h2 (stepF_inv hi hk' he1)⟩
theorem SimOs.at' : ∀ {a b : List Outcome}, SimOs a b → a.length = b.length ∧ ∀ i, i < a.length → SimO a[i]! b[i]!
  | [], [], _ => ⟨rfl, fun i hi => by simp at hi⟩
  | o :: a, p :: b, h => by
    obtain ⟨q1, q2⟩ := SimOs.at' h.2
    refine ⟨by simp [q1], fun i hi => ?_⟩
    cases i with
    | zero => exact h.1
    | succ i => exact q2 i (by simpa using hi)
end Go.Proofs.Ytgdahkddhecloaa.S
end
section
set_option linter.unusedSectionVars false
set_option linter.unusedVariables false
set_option linter.unusedSimpArgs false
set_option maxRecDepth 100000
namespace Go.Proofs.Ytgdahkddhecloaa.S
open Go Go.Iv
/-! ### 6: keyhole/keyholelaw50.LedgerBlind -/
noncomputable def F6 : Orc := (e22 (e21 (e7 or0)))
theorem F6_ok : OrcG Try.prog F6 := (e22_ok (e21_ok (e7_okv gv7 or0_g)))
structure L6_2 where
  t12 : List Outcome
  t14 : List Outcome
  t132 : Int
  t133 : Int
abbrev P6_2 : Type := (Unit × Unit × Int × Int × Unit) × ((List Outcome) × (List Outcome) × Unit)
noncomputable def rb6_2 : St → Option P6_2 := stR 2 (slC 12 (asO 0) (slC 14 (asO 1) (slC 132 (asI .i64) (slC 133 (asI .i64) slN)))) (rsR 0 54 (rsR 1 54 rsN))
noncomputable def pb6_2 : P6_2 → St := stP 2 (fun z => [(12, .own 0), (14, .own 1), (132, .n .i64 z.2.2.1), (133, .n .i64 z.2.2.2.1)]) (fun z => [(0, .row 54 z.1), (1, .row 54 z.2.1)])
noncomputable def mk6_2 (z : P6_2) : L6_2 := ⟨z.2.1, z.2.2.1, z.1.2.2.1, z.1.2.2.2.1⟩
noncomputable def pt6_2 (x : L6_2) : St := pb6_2 (((), (), x.t132, x.t133, ()), (x.t12, x.t14, ()))
noncomputable def rd6_2 : St → Option L6_2 := rdC 0 [] [12, 14, 132, 133] (rdM mk6_2 rb6_2)
theorem rb6_2_ok (n : Nat) : RdOk 0 n rb6_2 pb6_2 := stR_ok (.cons (.o 0) (.cons (.o 1) (.cons (.i .i64) (.cons (.i .i64) .nil)))) (.row (.row .nil))
theorem rd6_2_ok (n : Nat) : RdOk 0 n rd6_2 pt6_2 := rdC_ok ((rb6_2_ok n).m mk6_2 (pat' := pt6_2) fun _ => rfl)
noncomputable def n6_2 (p : L6_2) : Option (Option L6_2) :=
  bif decide (p.t133 < p.t132) then
    if (0 : Int) ≤ p.t133 ∧ p.t133 < (↑p.t12.length : Int) then
      if 54 = 54 ∧ p.t133.toNat < p.t12.length then
        if (0 : Int) ≤ p.t133 ∧ p.t133 < (↑p.t14.length : Int) then
          if 54 = 54 ∧ p.t133.toNat < p.t14.length then
            bif bif decide (p.t12[p.t133.toNat]!.fCode = p.t14[p.t133.toNat]!.fCode) then false else true then
              some (none)
            else
              if (0 : Int) ≤ p.t133 ∧ p.t133 < (↑p.t12.length : Int) then
                if 54 = 54 ∧ p.t133.toNat < p.t12.length then
                  if (0 : Int) ≤ p.t133 ∧ p.t133 < (↑p.t14.length : Int) then
                    if 54 = 54 ∧ p.t133.toNat < p.t14.length then
                      bif bif p.t12[p.t133.toNat]!.fOpened == p.t14[p.t133.toNat]!.fOpened then false else true then
                        some (none)
                      else
                        if (0 : Int) ≤ p.t133 ∧ p.t133 < (↑p.t12.length : Int) then
                          if 54 = 54 ∧ p.t133.toNat < p.t12.length then
                            if (0 : Int) ≤ p.t133 ∧ p.t133 < (↑p.t14.length : Int) then
                              if 54 = 54 ∧ p.t133.toNat < p.t14.length then
                                bif bif decide (p.t12[p.t133.toNat]!.fEpoch = p.t14[p.t133.toNat]!.fEpoch) then false else true then
                                  some (none)
                                else
                                  if (0 : Int) ≤ p.t133 ∧ p.t133 < (↑p.t12.length : Int) then
                                    if 54 = 54 ∧ p.t133.toNat < p.t12.length then
                                      if (0 : Int) ≤ p.t133 ∧ p.t133 < (↑p.t14.length : Int) then
                                        if 54 = 54 ∧ p.t133.toNat < p.t14.length then
                                          bif bif decide ((↑p.t12[p.t133.toNat]!.fList.length : Int) = (↑p.t14[p.t133.toNat]!.fList.length : Int)) then false else true then
                                            some (none)
                                          else
                                            some (some (L6_2.mk p.t12 p.t14 p.t132 (IntKind.i64.wrap (p.t133 + 1))))
                                        else
                                          none
                                      else
                                        none
                                    else
                                      none
                                  else
                                    none
                              else
                                none
                            else
                              none
                          else
                            none
                        else
                          none
                    else
                      none
                  else
                    none
                else
                  none
              else
                none
          else
            none
        else
          none
      else
        none
    else
      none
  else
    some (none)
theorem q6_2 (p : L6_2) : execA Try.prog (F6) Try.f6.ntmps 300 (loopAt Try.f6 2) .no (Option L6_2) (pt6_2 p) (kOn rd6_2) = n6_2 p := by kernel_rfl
noncomputable def a6_2 : L6_2 → Option L6_2 := advG (n6_2)
structure L6_1 where
  t0 : List GEvent
  t1 : List Int
  t5 : List GEvent
  t6 : Int
  t28 : List GEvent
  t29 : Int
  t30 : Int
  t42 : List Record
  t43 : Int
  t44 : Int
  b1 : GEvent
abbrev P6_1 : Type := ((List GEvent) × (List Int) × Unit × Int × Unit × (List GEvent) × Int × Int × (List Record) × Int × Int × Unit) × ((List GEvent) × ((Unit × Int × Bool × (List Bool) × Unit)) × (List Record) × Unit)
noncomputable def rb6_1 : St → Option P6_1 := stR 3 (slC 0 (asL 57) (slC 1 (asL 3) (slC 5 (asO 0) (slC 6 (asI .i64) (slC 9 (asP 1 0) (slC 28 (asL 57) (slC 29 (asI .i64) (slC 30 (asI .i64) (slC 42 (asL 23) (slC 43 (asI .i64) (slC 44 (asI .i64) slN))))))))))) (rsR 0 57 (rsN2 1 57 (pkC (asO 2) (pkC (asI .i64) (pkC asB (pkC (asL 4) pkN)))) (rsR 2 23 rsN)))
noncomputable def pb6_1 : P6_1 → St := stP 3 (fun z => [(0, .sl 57 z.1), (1, .sl 3 z.2.1), (5, .own 0), (6, .n .i64 z.2.2.2.1), (9, .ptr 1 0), (28, .sl 57 z.2.2.2.2.2.1), (29, .n .i64 z.2.2.2.2.2.2.1), (30, .n .i64 z.2.2.2.2.2.2.2.1), (42, .sl 23 z.2.2.2.2.2.2.2.2.1), (43, .n .i64 z.2.2.2.2.2.2.2.2.2.1), (44, .n .i64 z.2.2.2.2.2.2.2.2.2.2.1)]) (fun z => [(0, .row 57 z.1), (1, .box 57 [.own 2, .n .i64 z.2.1.2.1, .b z.2.1.2.2.1, .sl 4 z.2.1.2.2.2.1]), (2, .row 23 z.2.2.1)])
noncomputable def mk6_1 (z : P6_1) : L6_1 := ⟨z.1.1, z.1.2.1, z.2.1, z.1.2.2.2.1, z.1.2.2.2.2.2.1, z.1.2.2.2.2.2.2.1, z.1.2.2.2.2.2.2.2.1, z.1.2.2.2.2.2.2.2.2.1, z.1.2.2.2.2.2.2.2.2.2.1, z.1.2.2.2.2.2.2.2.2.2.2.1, (GEvent.mk z.2.2.2.1 z.2.2.1.2.1 z.2.2.1.2.2.1 z.2.2.1.2.2.2.1)⟩
noncomputable def pt6_1 (x : L6_1) : St := pb6_1 ((x.t0, x.t1, (), x.t6, (), x.t28, x.t29, x.t30, x.t42, x.t43, x.t44, ()), (x.t5, ((), x.b1.fLeft, x.b1.fCrash, x.b1.fKeep, ()), x.b1.fRecords, ()))
noncomputable def rd6_1 : St → Option L6_1 := rdC 0 [] [0, 1, 5, 6, 9, 28, 29, 30, 42, 43, 44] (rdF (ownC 1 0 [] 23) (rdC 0 [] [0, 1, 5, 6, 9, 28, 29, 30, 42, 43, 44] (rdM mk6_1 rb6_1)))
theorem rb6_1_ok (n : Nat) : RdOk 0 n rb6_1 pb6_1 := stR_ok (.cons (.l 57) (.cons (.l 3) (.cons (.o 0) (.cons (.i .i64) (.cons (.p 1 0) (.cons (.l 57) (.cons (.i .i64) (.cons (.i .i64) (.cons (.l 23) (.cons (.i .i64) (.cons (.i .i64) .nil))))))))))) (.row (.boxN (.cons (.o 2) (.cons (.i .i64) (.cons .b (.cons (.l 4) .nil)))) (.row .nil)))
theorem rd6_1_ok (n : Nat) : RdOk 0 n rd6_1 pt6_1 := rdC_ok (rdF_ok (.c 1 0 [] 23) (rdC_ok ((rb6_1_ok n).m mk6_1 (pat' := pt6_1) fun _ => rfl)))
noncomputable def n6_1 (p : L6_1) : Option (Option L6_1) :=
  bif decide (p.t44 < p.t43) then
    if (0 : Int) ≤ p.t44 ∧ p.t44 < (↑p.t42.length : Int) then
      match bif decide (IntKind.i64.wrap (p.t6 + 1) < (↑p.t1.length : Int)) then
        if (0 : Int) ≤ p.t6 ∧ p.t6 < (↑p.t1.length : Int) then
          bif decide (0 ≤ ((p.t0, p.t1, (), p.t6, (), p.t28, p.t29, p.t30, p.t42, p.t43, p.t44, ()), p.t5, ((), p.b1.fLeft, p.b1.fCrash, p.b1.fKeep, ()), p.b1.fRecords, ()).fst.snd.fst[((p.t0, p.t1, (), p.t6, (), p.t28, p.t29, p.t30, p.t42, p.t43, p.t44, ()), p.t5, ((), p.b1.fLeft, p.b1.fCrash, p.b1.fKeep, ()), p.b1.fRecords, ()).fst.snd.snd.snd.fst.toNat]!) then
            if (0 : Int) ≤ p.t6 ∧ p.t6 < (↑p.t1.length : Int) then
              bif decide (((p.t0, p.t1, (), p.t6, (), p.t28, p.t29, p.t30, p.t42, p.t43, p.t44, ()), p.t5, ((), p.b1.fLeft, p.b1.fCrash, p.b1.fKeep, ()), p.b1.fRecords, ()).fst.snd.fst[((p.t0, p.t1, (), p.t6, (), p.t28, p.t29, p.t30, p.t42, p.t43, p.t44, ()), p.t5, ((), p.b1.fLeft, p.b1.fCrash, p.b1.fKeep, ()), p.b1.fRecords, ()).fst.snd.snd.snd.fst.toNat]! ≤ 2147483647) then
                if (0 : Int) ≤ IntKind.i64.wrap (p.t6 + (1 : Int)) ∧ IntKind.i64.wrap (p.t6 + (1 : Int)) < (↑p.t1.length : Int) then
                  bif decide (0 ≤ ((p.t0, p.t1, (), p.t6, (), p.t28, p.t29, p.t30, p.t42, p.t43, p.t44, ()), p.t5, ((), p.b1.fLeft, p.b1.fCrash, p.b1.fKeep, ()), p.b1.fRecords, ()).fst.snd.fst[(IntKind.i64.wrap (((p.t0, p.t1, (), p.t6, (), p.t28, p.t29, p.t30, p.t42, p.t43, p.t44, ()), p.t5, ((), p.b1.fLeft, p.b1.fCrash, p.b1.fKeep, ()), p.b1.fRecords, ()).fst.snd.snd.snd.fst + 1)).toNat]!) then
                    if (0 : Int) ≤ IntKind.i64.wrap (p.t6 + (1 : Int)) ∧ IntKind.i64.wrap (p.t6 + (1 : Int)) < (↑p.t1.length : Int) then
                      some (decide (((p.t0, p.t1, (), p.t6, (), p.t28, p.t29, p.t30, p.t42, p.t43, p.t44, ()), p.t5, ((), p.b1.fLeft, p.b1.fCrash, p.b1.fKeep, ()), p.b1.fRecords, ()).fst.snd.fst[(IntKind.i64.wrap (((p.t0, p.t1, (), p.t6, (), p.t28, p.t29, p.t30, p.t42, p.t43, p.t44, ()), p.t5, ((), p.b1.fLeft, p.b1.fCrash, p.b1.fKeep, ()), p.b1.fRecords, ()).fst.snd.snd.snd.fst + 1)).toNat]! ≤ 2147483647))
                    else
                      none
                  else
                    some (false)
                else
                  none
              else
                some (false)
            else
              none
          else
            some (false)
        else
          none
      else
        some (false) with
      | none =>
        none
      | some r3 =>
        bif r3 then
          if (0 : Int) ≤ p.t6 ∧ p.t6 < (↑p.t1.length : Int) then
            if (0 : Int) ≤ IntKind.i64.wrap (p.t6 + (1 : Int)) ∧ IntKind.i64.wrap (p.t6 + (1 : Int)) < (↑p.t1.length : Int) then
              if (p.b1.fRecords ++ [Record.mk p.t42[p.t44.toNat]!.fEpoch p.t42[p.t44.toNat]!.fSeq p.t42[p.t44.toNat]!.fSecret p.t42[p.t44.toNat]!.fClient p.t42[p.t44.toNat]!.fNumber p.t42[p.t44.toNat]!.fProgram p.t42[p.t44.toNat]!.fPublic p.t1[p.t6.toNat]! p.t1[(IntKind.i64.wrap (p.t6 + (1 : Int))).toNat]!]).length ≤ 1073741824 then
                some (some (L6_1.mk p.t0 p.t1 p.t5 (IntKind.i64.wrap (p.t6 + 2)) p.t28 p.t29 p.t30 p.t42 p.t43 (IntKind.i64.wrap (p.t44 + 1)) (GEvent.mk (p.b1.fRecords ++ [Record.mk p.t42[p.t44.toNat]!.fEpoch p.t42[p.t44.toNat]!.fSeq p.t42[p.t44.toNat]!.fSecret p.t42[p.t44.toNat]!.fClient p.t42[p.t44.toNat]!.fNumber p.t42[p.t44.toNat]!.fProgram p.t42[p.t44.toNat]!.fPublic p.t1[p.t6.toNat]! p.t1[(IntKind.i64.wrap (p.t6 + 1)).toNat]!]) p.b1.fLeft p.b1.fCrash p.b1.fKeep)))
              else
                none
            else
              none
          else
            none
        else
          if (p.b1.fRecords ++ [p.t42[p.t44.toNat]!]).length ≤ 1073741824 then
            some (some (L6_1.mk p.t0 p.t1 p.t5 (IntKind.i64.wrap (p.t6 + 2)) p.t28 p.t29 p.t30 p.t42 p.t43 (IntKind.i64.wrap (p.t44 + 1)) (GEvent.mk (p.b1.fRecords ++ [p.t42[p.t44.toNat]!]) p.b1.fLeft p.b1.fCrash p.b1.fKeep)))
          else
            none
    else
      none
  else
    some (none)
theorem q6_1 (p : L6_1) : execA Try.prog (F6) Try.f6.ntmps 300 (loopAt Try.f6 1) (.two .no (.two .no (.two (.two .no (.two (.two (.rb [21] 82) .no) .no)) .no))) (Option L6_1) (pt6_1 p) (kOn rd6_1) = n6_1 p := by kernel_rfl
noncomputable def a6_1 : L6_1 → Option L6_1 := advG (n6_1)
structure L6_0 where
  t0 : List GEvent
  t1 : List Int
  t5 : List GEvent
  t6 : Int
  t28 : List GEvent
  t29 : Int
  t30 : Int
abbrev P6_0 : Type := ((List GEvent) × (List Int) × Unit × Int × (List GEvent) × Int × Int × Unit) × ((List GEvent) × Unit)
noncomputable def rb6_0 : St → Option P6_0 := stR 1 (slC 0 (asL 57) (slC 1 (asL 3) (slC 5 (asO 0) (slC 6 (asI .i64) (slC 28 (asL 57) (slC 29 (asI .i64) (slC 30 (asI .i64) slN))))))) (rsR 0 57 rsN)
noncomputable def pb6_0 : P6_0 → St := stP 1 (fun z => [(0, .sl 57 z.1), (1, .sl 3 z.2.1), (5, .own 0), (6, .n .i64 z.2.2.2.1), (28, .sl 57 z.2.2.2.2.1), (29, .n .i64 z.2.2.2.2.2.1), (30, .n .i64 z.2.2.2.2.2.2.1)]) (fun z => [(0, .row 57 z.1)])
noncomputable def mk6_0 (z : P6_0) : L6_0 := ⟨z.1.1, z.1.2.1, z.2.1, z.1.2.2.2.1, z.1.2.2.2.2.1, z.1.2.2.2.2.2.1, z.1.2.2.2.2.2.2.1⟩
noncomputable def pt6_0 (x : L6_0) : St := pb6_0 ((x.t0, x.t1, (), x.t6, x.t28, x.t29, x.t30, ()), (x.t5, ()))
noncomputable def rd6_0 : St → Option L6_0 := rdC 0 [] [0, 1, 5, 6, 28, 29, 30] (rdM mk6_0 rb6_0)
theorem rb6_0_ok (n : Nat) : RdOk 0 n rb6_0 pb6_0 := stR_ok (.cons (.l 57) (.cons (.l 3) (.cons (.o 0) (.cons (.i .i64) (.cons (.l 57) (.cons (.i .i64) (.cons (.i .i64) .nil))))))) (.row .nil)
theorem rd6_0_ok (n : Nat) : RdOk 0 n rd6_0 pt6_0 := rdC_ok ((rb6_0_ok n).m mk6_0 (pat' := pt6_0) fun _ => rfl)
noncomputable def n6_0 (p : L6_0) : Option (Option L6_0) :=
  bif decide (p.t30 < p.t29) then
    if (0 : Int) ≤ p.t30 ∧ p.t30 < (↑p.t28.length : Int) then
      match a6_1 (L6_1.mk p.t0 p.t1 p.t5 p.t6 p.t28 p.t29 p.t30 p.t28[p.t30.toNat]!.fRecords (↑p.t28[p.t30.toNat]!.fRecords.length : Int) (0) (GEvent.mk [] p.t28[p.t30.toNat]!.fLeft p.t28[p.t30.toNat]!.fCrash p.t28[p.t30.toNat]!.fKeep)) with
      | none =>
        none
      | some r1 =>
        bif decide (r1.t44 < r1.t43) then
          if (0 : Int) ≤ r1.t44 ∧ r1.t44 < (↑r1.t42.length : Int) then
            match bif decide (IntKind.i64.wrap (r1.t6 + 1) < (↑r1.t1.length : Int)) then
              if (0 : Int) ≤ r1.t6 ∧ r1.t6 < (↑r1.t1.length : Int) then
                bif decide (0 ≤ ((r1.t0, r1.t1, (), r1.t6, (), r1.t28, r1.t29, r1.t30, r1.t42, r1.t43, r1.t44, ()), r1.t5, ((), r1.b1.fLeft, r1.b1.fCrash, r1.b1.fKeep, ()), r1.b1.fRecords, ()).fst.snd.fst[((r1.t0, r1.t1, (), r1.t6, (), r1.t28, r1.t29, r1.t30, r1.t42, r1.t43, r1.t44, ()), r1.t5, ((), r1.b1.fLeft, r1.b1.fCrash, r1.b1.fKeep, ()), r1.b1.fRecords, ()).fst.snd.snd.snd.fst.toNat]!) then
                  if (0 : Int) ≤ r1.t6 ∧ r1.t6 < (↑r1.t1.length : Int) then
                    bif decide (((r1.t0, r1.t1, (), r1.t6, (), r1.t28, r1.t29, r1.t30, r1.t42, r1.t43, r1.t44, ()), r1.t5, ((), r1.b1.fLeft, r1.b1.fCrash, r1.b1.fKeep, ()), r1.b1.fRecords, ()).fst.snd.fst[((r1.t0, r1.t1, (), r1.t6, (), r1.t28, r1.t29, r1.t30, r1.t42, r1.t43, r1.t44, ()), r1.t5, ((), r1.b1.fLeft, r1.b1.fCrash, r1.b1.fKeep, ()), r1.b1.fRecords, ()).fst.snd.snd.snd.fst.toNat]! ≤ 2147483647) then
                      if (0 : Int) ≤ IntKind.i64.wrap (r1.t6 + (1 : Int)) ∧ IntKind.i64.wrap (r1.t6 + (1 : Int)) < (↑r1.t1.length : Int) then
                        bif decide (0 ≤ ((r1.t0, r1.t1, (), r1.t6, (), r1.t28, r1.t29, r1.t30, r1.t42, r1.t43, r1.t44, ()), r1.t5, ((), r1.b1.fLeft, r1.b1.fCrash, r1.b1.fKeep, ()), r1.b1.fRecords, ()).fst.snd.fst[(IntKind.i64.wrap (((r1.t0, r1.t1, (), r1.t6, (), r1.t28, r1.t29, r1.t30, r1.t42, r1.t43, r1.t44, ()), r1.t5, ((), r1.b1.fLeft, r1.b1.fCrash, r1.b1.fKeep, ()), r1.b1.fRecords, ()).fst.snd.snd.snd.fst + 1)).toNat]!) then
                          if (0 : Int) ≤ IntKind.i64.wrap (r1.t6 + (1 : Int)) ∧ IntKind.i64.wrap (r1.t6 + (1 : Int)) < (↑r1.t1.length : Int) then
                            some (decide (((r1.t0, r1.t1, (), r1.t6, (), r1.t28, r1.t29, r1.t30, r1.t42, r1.t43, r1.t44, ()), r1.t5, ((), r1.b1.fLeft, r1.b1.fCrash, r1.b1.fKeep, ()), r1.b1.fRecords, ()).fst.snd.fst[(IntKind.i64.wrap (((r1.t0, r1.t1, (), r1.t6, (), r1.t28, r1.t29, r1.t30, r1.t42, r1.t43, r1.t44, ()), r1.t5, ((), r1.b1.fLeft, r1.b1.fCrash, r1.b1.fKeep, ()), r1.b1.fRecords, ()).fst.snd.snd.snd.fst + 1)).toNat]! ≤ 2147483647))
                          else
                            none
                        else
                          some (false)
                      else
                        none
                    else
                      some (false)
                  else
                    none
                else
                  some (false)
              else
                none
            else
              some (false) with
            | none =>
              none
            | some r2 =>
              bif r2 then
                if (0 : Int) ≤ r1.t6 ∧ r1.t6 < (↑r1.t1.length : Int) then
                  if (0 : Int) ≤ IntKind.i64.wrap (r1.t6 + (1 : Int)) ∧ IntKind.i64.wrap (r1.t6 + (1 : Int)) < (↑r1.t1.length : Int) then
                    if (r1.b1.fRecords ++ [Record.mk r1.t42[r1.t44.toNat]!.fEpoch r1.t42[r1.t44.toNat]!.fSeq r1.t42[r1.t44.toNat]!.fSecret r1.t42[r1.t44.toNat]!.fClient r1.t42[r1.t44.toNat]!.fNumber r1.t42[r1.t44.toNat]!.fProgram r1.t42[r1.t44.toNat]!.fPublic r1.t1[r1.t6.toNat]! r1.t1[(IntKind.i64.wrap (r1.t6 + (1 : Int))).toNat]!]).length ≤ 1073741824 then
                      none
                    else
                      none
                  else
                    none
                else
                  none
              else
                if (r1.b1.fRecords ++ [r1.t42[r1.t44.toNat]!]).length ≤ 1073741824 then
                  none
                else
                  none
          else
            none
        else
          if (r1.t5 ++ [r1.b1]).length ≤ 1073741824 then
            some (some (L6_0.mk r1.t0 r1.t1 (r1.t5 ++ [r1.b1]) r1.t6 r1.t28 r1.t29 (IntKind.i64.wrap (r1.t30 + 1))))
          else
            none
    else
      none
  else
    some (none)
theorem q6_0 (p : L6_0) : execA Try.prog (F6) Try.f6.ntmps 300 (loopAt Try.f6 0) (.two .no (.two .no (.two (.two .no (.two .no (.two (.two .no (.lp L6_1 rd6_1 pt6_1 a6_1 (.two .no (.two .no (.two (.two .no (.two (.two (.rb [21] 82) .no) .no)) .no))))) .no))) .no))) (Option L6_0) (pt6_0 p) (kOn rd6_0) = n6_0 p := by kernel_rfl
noncomputable def a6_0 : L6_0 → Option L6_0 := advG (n6_0)
abbrev E6 : Type := Bool
abbrev P6_e : Type := (Bool × Unit) × (Unit)
noncomputable def rb6_e : St → Option P6_e := stR 0 (slC 4 asB slN) rsN
noncomputable def pb6_e : P6_e → St := stP 0 (fun z => [(4, .b z.1)]) (fun z => [])
noncomputable def mk6_e (z : P6_e) : E6 := z.1.1
noncomputable def pt6_e (x : E6) : St := pb6_e ((x, ()), (()))
noncomputable def rd6_e : St → Option E6 := rdC 0 [] [4] (rdM mk6_e rb6_e)
theorem rb6_e_ok (n : Nat) : RdOk 0 n rb6_e pb6_e := stR_ok (.cons .b .nil) .nil
theorem rd6_e_ok (n : Nat) : RdOk 0 n rd6_e pt6_e := rdC_ok ((rb6_e_ok n).m mk6_e (pat' := pt6_e) fun _ => rfl)
noncomputable def an6 : An := (.two .no (.two .no (.two (.two (.rb [21] 26) .no) (.two .no (.two .no (.two (.two .no (.lp L6_0 rd6_0 pt6_0 a6_0 (.two .no (.two .no (.two (.two .no (.two .no (.two (.two .no (.lp L6_1 rd6_1 pt6_1 a6_1 (.two .no (.two .no (.two (.two .no (.two (.two (.rb [21] 82) .no) .no)) .no))))) .no))) .no))))) (.two .no (.two .no (.two (.two (.rb [21] 130) .no) (.two (.two .no (.lp L6_2 rd6_2 pt6_2 a6_2 .no)) .no))))))))))
theorem pu6  : ∀ f ∈ ([21] : List Nat), PureF (F6) f := fun f hf => by
  simp only [List.mem_cons, List.not_mem_nil, or_false] at hf
  rcases hf with rfl
  · exact (e22_skip (f := 21) rfl (e21_pure (e7_pure or0_pure)))
theorem fa6 : FnAn Try.prog (F6) 0 300 6 (an6) := fnAn_of (l := [(.skip, (.rb [21] 26)), (loopAt Try.f6 0, (.lp L6_0 rd6_0 pt6_0 a6_0 (.two .no (.two .no (.two (.two .no (.two .no (.two (.two .no (.lp L6_1 rd6_1 pt6_1 a6_1 (.two .no (.two .no (.two (.two .no (.two (.two (.rb [21] 82) .no) .no)) .no))))) .no))) .no))))), (loopAt Try.f6 1, (.lp L6_1 rd6_1 pt6_1 a6_1 (.two .no (.two .no (.two (.two .no (.two (.two (.rb [21] 82) .no) .no)) .no))))), (.skip, (.rb [21] 82)), (.skip, (.rb [21] 130)), (loopAt Try.f6 2, (.lp L6_2 rd6_2 pt6_2 a6_2 .no))]) Try.func6 (bodyOf_eq (by kernel_rfl)) (by kernel_rfl) fun p hp => by
  simp only [List.mem_cons, List.not_mem_nil, or_false] at hp
  rcases hp with rfl | rfl | rfl | rfl | rfl | rfl
  · exact pu6
  · exact ⟨rd6_0_ok _, advG_ok (q6_0)⟩
  · exact ⟨rd6_1_ok _, advG_ok (q6_1)⟩
  · exact pu6
  · exact pu6
  · exact ⟨rd6_2_ok _, advG_ok (q6_2)⟩
noncomputable def m6 (a0 : List GEvent) (a1 : List Int) : Option E6 :=
  bif bif m7 then false else true then
    some (false)
  else
    match match m21 a0 with
    | none =>
      none
    | some r4 =>
      bif bif r4 then false else true then
        some (true)
      else
        some (decide (50 < (↑a1.length : Int))) with
    | none =>
      none
    | some r5 =>
      bif r5 then
        some (true)
      else
        match a6_0 (L6_0.mk a0 a1 [] (0) a0 (↑a0.length : Int) (0)) with
        | none =>
          none
        | some r6 =>
          bif decide (r6.t30 < r6.t29) then
            if (0 : Int) ≤ r6.t30 ∧ r6.t30 < (↑r6.t28.length : Int) then
              match a6_1 (L6_1.mk r6.t0 r6.t1 r6.t5 r6.t6 r6.t28 r6.t29 r6.t30 r6.t28[r6.t30.toNat]!.fRecords (↑r6.t28[r6.t30.toNat]!.fRecords.length : Int) (0) (GEvent.mk [] r6.t28[r6.t30.toNat]!.fLeft r6.t28[r6.t30.toNat]!.fCrash r6.t28[r6.t30.toNat]!.fKeep)) with
              | none =>
                none
              | some r7 =>
                bif decide (r7.t44 < r7.t43) then
                  if (0 : Int) ≤ r7.t44 ∧ r7.t44 < (↑r7.t42.length : Int) then
                    match bif decide (IntKind.i64.wrap (r7.t6 + 1) < (↑r7.t1.length : Int)) then
                      if (0 : Int) ≤ r7.t6 ∧ r7.t6 < (↑r7.t1.length : Int) then
                        bif decide (0 ≤ ((r7.t0, r7.t1, (), r7.t6, (), r7.t28, r7.t29, r7.t30, r7.t42, r7.t43, r7.t44, ()), r7.t5, ((), r7.b1.fLeft, r7.b1.fCrash, r7.b1.fKeep, ()), r7.b1.fRecords, ()).fst.snd.fst[((r7.t0, r7.t1, (), r7.t6, (), r7.t28, r7.t29, r7.t30, r7.t42, r7.t43, r7.t44, ()), r7.t5, ((), r7.b1.fLeft, r7.b1.fCrash, r7.b1.fKeep, ()), r7.b1.fRecords, ()).fst.snd.snd.snd.fst.toNat]!) then
                          if (0 : Int) ≤ r7.t6 ∧ r7.t6 < (↑r7.t1.length : Int) then
                            bif decide (((r7.t0, r7.t1, (), r7.t6, (), r7.t28, r7.t29, r7.t30, r7.t42, r7.t43, r7.t44, ()), r7.t5, ((), r7.b1.fLeft, r7.b1.fCrash, r7.b1.fKeep, ()), r7.b1.fRecords, ()).fst.snd.fst[((r7.t0, r7.t1, (), r7.t6, (), r7.t28, r7.t29, r7.t30, r7.t42, r7.t43, r7.t44, ()), r7.t5, ((), r7.b1.fLeft, r7.b1.fCrash, r7.b1.fKeep, ()), r7.b1.fRecords, ()).fst.snd.snd.snd.fst.toNat]! ≤ 2147483647) then
                              if (0 : Int) ≤ IntKind.i64.wrap (r7.t6 + (1 : Int)) ∧ IntKind.i64.wrap (r7.t6 + (1 : Int)) < (↑r7.t1.length : Int) then
                                bif decide (0 ≤ ((r7.t0, r7.t1, (), r7.t6, (), r7.t28, r7.t29, r7.t30, r7.t42, r7.t43, r7.t44, ()), r7.t5, ((), r7.b1.fLeft, r7.b1.fCrash, r7.b1.fKeep, ()), r7.b1.fRecords, ()).fst.snd.fst[(IntKind.i64.wrap (((r7.t0, r7.t1, (), r7.t6, (), r7.t28, r7.t29, r7.t30, r7.t42, r7.t43, r7.t44, ()), r7.t5, ((), r7.b1.fLeft, r7.b1.fCrash, r7.b1.fKeep, ()), r7.b1.fRecords, ()).fst.snd.snd.snd.fst + 1)).toNat]!) then
                                  if (0 : Int) ≤ IntKind.i64.wrap (r7.t6 + (1 : Int)) ∧ IntKind.i64.wrap (r7.t6 + (1 : Int)) < (↑r7.t1.length : Int) then
                                    some (decide (((r7.t0, r7.t1, (), r7.t6, (), r7.t28, r7.t29, r7.t30, r7.t42, r7.t43, r7.t44, ()), r7.t5, ((), r7.b1.fLeft, r7.b1.fCrash, r7.b1.fKeep, ()), r7.b1.fRecords, ()).fst.snd.fst[(IntKind.i64.wrap (((r7.t0, r7.t1, (), r7.t6, (), r7.t28, r7.t29, r7.t30, r7.t42, r7.t43, r7.t44, ()), r7.t5, ((), r7.b1.fLeft, r7.b1.fCrash, r7.b1.fKeep, ()), r7.b1.fRecords, ()).fst.snd.snd.snd.fst + 1)).toNat]! ≤ 2147483647))
                                  else
                                    none
                                else
                                  some (false)
                              else
                                none
                            else
                              some (false)
                          else
                            none
                        else
                          some (false)
                      else
                        none
                    else
                      some (false) with
                    | none =>
                      none
                    | some r8 =>
                      bif r8 then
                        if (0 : Int) ≤ r7.t6 ∧ r7.t6 < (↑r7.t1.length : Int) then
                          if (0 : Int) ≤ IntKind.i64.wrap (r7.t6 + (1 : Int)) ∧ IntKind.i64.wrap (r7.t6 + (1 : Int)) < (↑r7.t1.length : Int) then
                            if (r7.b1.fRecords ++ [Record.mk r7.t42[r7.t44.toNat]!.fEpoch r7.t42[r7.t44.toNat]!.fSeq r7.t42[r7.t44.toNat]!.fSecret r7.t42[r7.t44.toNat]!.fClient r7.t42[r7.t44.toNat]!.fNumber r7.t42[r7.t44.toNat]!.fProgram r7.t42[r7.t44.toNat]!.fPublic r7.t1[r7.t6.toNat]! r7.t1[(IntKind.i64.wrap (r7.t6 + (1 : Int))).toNat]!]).length ≤ 1073741824 then
                              none
                            else
                              none
                          else
                            none
                        else
                          none
                      else
                        if (r7.b1.fRecords ++ [r7.t42[r7.t44.toNat]!]).length ≤ 1073741824 then
                          none
                        else
                          none
                  else
                    none
                else
                  if (r7.t5 ++ [r7.b1]).length ≤ 1073741824 then
                    none
                  else
                    none
            else
              none
          else
            match m22 r6.t0 with
            | none =>
              none
            | some r9 =>
              match m22 r6.t5 with
              | none =>
                none
              | some r10 =>
                match bif bif r9.snd then false else true then
                  some (true)
                else
                  bif bif r10.snd then false else true then
                    some (true)
                  else
                    some (bif decide ((↑r9.fst.length : Int) = (↑r10.fst.length : Int)) then false else true) with
                | none =>
                  none
                | some r11 =>
                  bif r11 then
                    some (false)
                  else
                    match a6_2 (L6_2.mk r9.fst r10.fst (↑r9.fst.length : Int) (0)) with
                    | none =>
                      none
                    | some r12 =>
                      bif decide (r12.t133 < r12.t132) then
                        if (0 : Int) ≤ r12.t133 ∧ r12.t133 < (↑r12.t12.length : Int) then
                          if 54 = 54 ∧ r12.t133.toNat < r12.t12.length then
                            if (0 : Int) ≤ r12.t133 ∧ r12.t133 < (↑r12.t14.length : Int) then
                              if 54 = 54 ∧ r12.t133.toNat < r12.t14.length then
                                bif bif decide (r12.t12[r12.t133.toNat]!.fCode = r12.t14[r12.t133.toNat]!.fCode) then false else true then
                                  some (false)
                                else
                                  if (0 : Int) ≤ r12.t133 ∧ r12.t133 < (↑r12.t12.length : Int) then
                                    if 54 = 54 ∧ r12.t133.toNat < r12.t12.length then
                                      if (0 : Int) ≤ r12.t133 ∧ r12.t133 < (↑r12.t14.length : Int) then
                                        if 54 = 54 ∧ r12.t133.toNat < r12.t14.length then
                                          bif bif r12.t12[r12.t133.toNat]!.fOpened == r12.t14[r12.t133.toNat]!.fOpened then false else true then
                                            some (false)
                                          else
                                            if (0 : Int) ≤ r12.t133 ∧ r12.t133 < (↑r12.t12.length : Int) then
                                              if 54 = 54 ∧ r12.t133.toNat < r12.t12.length then
                                                if (0 : Int) ≤ r12.t133 ∧ r12.t133 < (↑r12.t14.length : Int) then
                                                  if 54 = 54 ∧ r12.t133.toNat < r12.t14.length then
                                                    bif bif decide (r12.t12[r12.t133.toNat]!.fEpoch = r12.t14[r12.t133.toNat]!.fEpoch) then false else true then
                                                      some (false)
                                                    else
                                                      if (0 : Int) ≤ r12.t133 ∧ r12.t133 < (↑r12.t12.length : Int) then
                                                        if 54 = 54 ∧ r12.t133.toNat < r12.t12.length then
                                                          if (0 : Int) ≤ r12.t133 ∧ r12.t133 < (↑r12.t14.length : Int) then
                                                            if 54 = 54 ∧ r12.t133.toNat < r12.t14.length then
                                                              bif bif decide ((↑r12.t12[r12.t133.toNat]!.fList.length : Int) = (↑r12.t14[r12.t133.toNat]!.fList.length : Int)) then false else true then
                                                                some (false)
                                                              else
                                                                none
                                                            else
                                                              none
                                                          else
                                                            none
                                                        else
                                                          none
                                                      else
                                                        none
                                                  else
                                                    none
                                                else
                                                  none
                                              else
                                                none
                                            else
                                              none
                                        else
                                          none
                                      else
                                        none
                                    else
                                      none
                                  else
                                    none
                              else
                                none
                            else
                              none
                          else
                            none
                        else
                          none
                      else
                        some (true)
theorem c6 (a0 : List GEvent) (a1 : List Int) : callR Try.prog (F6) 300 (an6) 6 [.sl 57 a0, .sl 3 a1] [] 0 rd6_e = m6 a0 a1 := by kernel_rfl
noncomputable def o6 (x : E6) : Out := match (match outOf Try.prog 6 (pt6_e x) with
    | some ds => some (Out.mk (resA ds) (keepR (pt6_e x).R 0 (resA ds)) (pt6_e x).nx)
    | none => none) with
  | some o => o
  | none => ⟨.tup [], [], 0⟩
theorem fn6 (a0 : List GEvent) (a1 : List Int) (r : E6) (h : m6 a0 a1 = some r) : fnOk Try.prog 6 ∧ FnY Try.prog 6 [.sl 57 a0, .sl 3 a1] [] 0 (o6 r) :=
  fnY_of (p := r) F6_ok (fa6) rd6_e_ok (fun p => by kernel_rfl) (ltd_of (by kernel_rfl)) (rltd_of (by kernel_rfl)) ((c6 a0 a1).trans h)
theorem fnok6 : fnOk Try.prog 6 := ⟨_, Try.func6, by kernel_rfl, by kernel_rfl⟩
noncomputable def e6 (F : Orc) : Orc := orL 6 false (pkC (asL 57) (pkC (asL 3) pkN)) (fun g => m6 g.1 g.2.1 : ((List GEvent) × (List Int) × Unit) → Option E6) o6 F
theorem e6_ok {F : Orc} (h : OrcG Try.prog F) : OrcG Try.prog (e6 F) := orL_g (sc := scU) h scU_ok fnok6 (ca := fun g => [.sl 57 g.1, .sl 3 g.2.1]) ((.cons (.l 57) (.cons (.l 3) .nil)) : PkN (pkC (asL 57) (pkC (asL 3) pkN)) _) (fun b => by kernel_rfl) (fun b => by kernel_rfl) (fun g b hb => (fn6 g.1 g.2.1 b hb).2)
theorem e6_pure {F : Orc} {f : Nat} (h : PureF F f) : PureF (e6 F) f := orL_pure h (fun b => by kernel_rfl)
end Go.Proofs.Ytgdahkddhecloaa.S
end
section
set_option linter.unusedSectionVars false
set_option linter.unusedVariables false
set_option linter.unusedSimpArgs false
namespace Go.Iv
variable [U : Uni]
open Go Go.RowKit Go.Deep Go.ChangeShapes Go.WideShapes Go.Joins
theorem fn_law {P : Program} {f : FuncId} {args : List AV} (h : Iv.Fn P f args [] (fun a s => a = .b true ∧ s = [])) {A : Nat → Prop} {w : World} {vs : List Value} (hr : RelL A w args vs) :
    Calls P f vs.toArray w fun e w' => ∃ v, e = .returned v ∧ v = .bool true ∧ Below w.heap.size w w' :=
  (h w A vs hr ⟨fun r hr => by simp at hr, fun b hb => by simp [blks] at hb⟩ (by simp [blks])).mono fun e w' ⟨v, av, σ', h1, ⟨h2, h3⟩, h4, h5⟩ => by
    subst h2
    exact ⟨v, h1, h5.litEq, h4.kp.below⟩

abbrev anyB : Nat → Prop := fun _ => True

/-- Data of Go type t read as0 values of α, whose cells are c. -/
def Opn {α : Type} {H : Type} (enc : TypeId × Value → H) (P : Program) (w : World) (t : TypeId) (c : α → List AV) (ok : α → Prop) : Prop :=
  ∀ (base : Nat) (fuel : Nat) (cs : List Value) (x : DataW H × List MemPlace), DataW.trod enc P w base (fun _ => true) true fuel t cs = some x → ∃ a, ok a ∧ RelL anyB w (c a) cs

section
variable {α : Type} {H : Type} {enc : TypeId × Value → H} {P : Program} {w : World} {t e : TypeId}

theorem Opn.int {k : IntKind} (ht : P.underlying t = some (.int k)) : Opn enc P w t (cN k) (fun n => (Lit.int k n).wf = true) := fun base fuel cs x h => by
  obtain ⟨n, rfl, _, hw⟩ := DataW.trod_int ht h
  exact ⟨n, hw, RelL.cons (.lit _) RelL.nil⟩
theorem Opn.bool (ht : P.underlying t = some .bool) : Opn enc P w t cB (fun _ => True) := fun base fuel cs x h => by
  obtain ⟨b, rfl, _⟩ := DataW.trod_bool ht h
  exact ⟨b, trivial, RelL.cons (.lit _) RelL.nil⟩
theorem Opn.slice {ok : U.Dat e → Prop} {sz : Nat} (ht : P.underlying t = some (.slice e)) (hc : P.cellsOf e = sz + 1) (hs : U.sz e = sz + 1) (he : Opn enc P w e (U.cells e) ok) :
    Opn enc P w t (fun l : List (U.Dat e) => [.sl e l]) (fun l => l.length ≤ 9223372036854775807 ∧ ∀ a ∈ l, ok a) := fun base fuel cs x h => by
  rcases open_slice ht h with ⟨rfl, _⟩ | ⟨a, len, cp, m, n, D, Pl, hcs, hb, hl, hm, hmm, _, hx⟩
  · refine ⟨[], ⟨by simp, by simp⟩, RelL.cons ?_ RelL.nil⟩
    exact .sl e ([] : List (U.Dat e)) none 0 (fun _ _ => default) (by simp) (by simp) (fun i hi => by simp at hi) (fun i hi => by simp at hi) (fun i j a hi => by simp at hi)
  · subst hcs
    have hmm : m = cp := by rw [hmm]; rfl
    rw [hc] at hx
    have hmx : cp ≤ 9223372036854775807 := by unfold maxLen at hm; omega
    obtain ⟨CS, hCS⟩ := choose_lt (α := List Value × U.Dat e) (p := fun i y => w.cells? base (a.add (i * (sz + 1))) (sz + 1) = some y.1 ∧ ok y.2 ∧ RelL anyB w (U.cells e y.2) y.1) (n := len) (fun i hi => by
      obtain ⟨cs', h1, h2⟩ := hx i (by omega)
      obtain ⟨y, h3, h4⟩ := he _ _ _ _ h2
      exact ⟨(cs', y), h1, h3, h4⟩)
    obtain ⟨l, hld⟩ : ∃ l : List (U.Dat e), l = (List.range len).map fun i => (CS i).2 := ⟨_, rfl⟩
    have hln : l.length = len := by rw [hld]; simp
    have hget : ∀ i, i < len → l[i]! = (CS i).2 := fun i hi => by
      rw [getElem!_pos l i (by omega)]; simp [hld]
    refine ⟨l, ⟨by omega, fun y hy => ?_⟩, RelL.cons ?_ RelL.nil⟩
    · rw [hld, List.mem_map] at hy
      obtain ⟨i, hi, rfl⟩ := hy
      exact (hCS i (by simpa using hi)).2.1
    · rw [← hln]
      refine .sl e l (some a) cp (fun i j => (CS i).1[j]!) (by omega) (by omega) (fun i hi => ?_) (fun i hi => ?_) (fun i j av hi hj => ?_)
      · rw [hln] at hi
        obtain ⟨h1, _, h3⟩ := hCS i hi
        obtain ⟨_, h5, _⟩ := World.cells?_some h1
        rw [hget i hi, ← h3.1, h5, hs]
      · rw [hln] at hi
        obtain ⟨h1, _, h3⟩ := hCS i hi
        obtain ⟨_, h5, h6⟩ := World.cells?_some h1
        have hj : ∀ j, j < sz + 1 → w.cell? ((a.add (i * (sz + 1))).add j) = some (CS i).1[j]! := fun j hj => by
          rw [h6 j hj, getElem!_pos _ j (by omega), List.getElem?_eq_getElem (by omega)]
        obtain ⟨b, off, spot⟩ := a
        have hs : spot = none := by
          obtain ⟨g1, _, _⟩ := hCS 0 (by omega)
          obtain ⟨_, g5, g6⟩ := World.cells?_some g1
          have := World.cell?_spot (v := (CS 0).1[0]!) (w := w) (a := ((⟨b, off, spot⟩ : Addr).add (0 * (sz + 1))).add 0) (by rw [g6 0 (by omega), getElem!_pos _ 0 (by omega), List.getElem?_eq_getElem (by omega)])
          simpa [Addr.add] using this
        subst hs
        have hj' : ∀ j, j < sz + 1 → w.cell? ⟨b, off + i * (sz + 1) + j, none⟩ = some (CS i).1[j]! := fun j hlt => by
          have := hj j hlt
          have ap : ∀ o i : Nat, (⟨b, o, none⟩ : Addr).add i = ⟨b, o + i, none⟩ := fun o i => by
            unfold Addr.add
            split
            · rename_i h0; simp only [h0, Nat.add_zero]
            · rfl
          rw [ap, ap] at this
          exact this
        exact ⟨b, off, rfl, World.block_lt_of_cell? w _ (hj' 0 (by omega)), trivial, by rw [hs]; exact hj'⟩
      · rw [hln] at hi
        rw [hget i hi] at hj
        obtain ⟨h1, _, h3⟩ := hCS i hi
        obtain ⟨v, q1, q2⟩ := h3.get hj
        show Rel anyB w av (CS i).1[j]!
        obtain ⟨q3, q4⟩ := List.getElem?_eq_some_iff.1 q1
        rw [getElem!_pos _ j q3, q4]
        exact q2
/-- an argument that is one cell -/
theorem Opn.one {c : α → AV} {ok : α → Prop} {v : Value} {d : DataW H} {p : List MemPlace} (he : Opn enc P w t (fun a => [c a]) ok) (hv : v.cells = #[v]) (h : DataW.Trod enc P w 0 (fun _ => true) true t v d p) : ∃ a, ok a ∧ Rel anyB w (c a) v := by
  obtain ⟨fuel, hf⟩ := h
  rw [hv] at hf
  obtain ⟨a, h1, h2⟩ := he _ _ _ _ hf
  exact ⟨a, h1, h2.2 0 _ _ rfl rfl⟩
/-- an argument that is a struct -/
theorem Opn.agg {c : α → List AV} {ok : α → Prop} {v : Value} {cs : Array Value} {d : DataW H} {p : List MemPlace} (he : Opn enc P w t c ok) (hv : v = .agg cs) (h : DataW.Trod enc P w 0 (fun _ => true) true t v d p) : ∃ a, ok a ∧ Rel anyB w (.agg (c a)) v := by
  obtain ⟨fuel, hf⟩ := h
  subst hv
  obtain ⟨l⟩ := cs
  obtain ⟨a, h1, h2⟩ := he _ _ _ _ hf
  exact ⟨a, h1, Rel.aggL h2⟩
end
theorem FnY.law [L : UniL] {P : Program} {f : FuncId} {args : List AV} {x : Out} (h : FnY P f args [] 0 x) (hx : x = ⟨.b true, [], 0⟩) (ha : args.all (cloB 2) = true) : Iv.Fn P f args [] (fun a s => a = .b true ∧ s = []) := by
  subst hx
  have h1 := h ⟨fun _ => undef, fun _ => 0⟩
  have : args.map (AVq.sub ⟨fun _ => undef, fun _ => 0⟩) = args.map id := List.map_congr_left fun c hcm => cloB_sub 2 (List.all_eq_true.1 ha c hcm)
  rw [this, List.map_id] at h1
  exact h1.mono fun a s ⟨ρ', _, e1, e2⟩ => ⟨by rw [e1]; exact cloB_sub 2 rfl, List.Perm.eq_nil e2⟩
end Go.Iv
end
section
set_option linter.unusedSectionVars false
set_option linter.unusedVariables false
set_option linter.unusedSimpArgs false
set_option maxRecDepth 100000
namespace Go.Proofs.Ytgdahkddhecloaa
open Go Go.Iv Go.RowKit Go.Deep Go.ChangeShapes Go.WideShapes Go.Joins
theorem relSplit [U : Uni] {A : Nat → Prop} {w : World} {xs bs : List AV} {us : List Value} {n : Nat} (h : RelL A w xs (us.take n)) (h' : RelL A w bs (us.drop n)) : RelL A w (xs ++ bs) us := by
  have := h.app h'
  rwa [List.take_append_drop] at this
section
variable {H : Type} {enc : TypeId × Value → H} {w : World}
def ok3 (n : Int) : Prop := (Lit.int .i64 n).wf = true
theorem og3 : Opn enc Try.prog w 3 (cN .i64) ok3 := Opn.int Try.underlying3
def ok23 (x : Record) : Prop := ok3 x.fEpoch ∧ ok3 x.fSeq ∧ ok3 x.fSecret ∧ ok3 x.fClient ∧ ok3 x.fNumber ∧ ok3 x.fProgram ∧ ok3 x.fPublic ∧ ok3 x.fAnswer ∧ ok3 x.fCharge ∧ True
theorem og23 : Opn enc Try.prog w 23 (uni.cells 23) ok23 := fun base fuel cs x h => by
  obtain ⟨xs, n, _, rfl, hl, hlen, hf⟩ := DataW.trod_struct Try.underlying23 h
  rw [show Try.prog.cellsOf 23 = 9 from by kernel_rfl] at hl
  have hlen : xs.length = 9 := hlen
  have f0 : DataW.trod enc Try.prog w base (fun _ => true) true n 3 ((cs.drop 0).take (Try.prog.cellsOf 3)) = xs[0]? := hf 0 _ rfl
  rw [show Try.prog.cellsOf 3 = 1 from by kernel_rfl, List.getElem?_eq_getElem (show 0 < xs.length by omega)] at f0
  obtain ⟨a0, k0, r0⟩ := og3 _ _ _ _ f0
  have f1 : DataW.trod enc Try.prog w base (fun _ => true) true n 3 ((cs.drop 1).take (Try.prog.cellsOf 3)) = xs[1]? := hf 1 _ rfl
  rw [show Try.prog.cellsOf 3 = 1 from by kernel_rfl, List.getElem?_eq_getElem (show 1 < xs.length by omega)] at f1
  obtain ⟨a1, k1, r1⟩ := og3 _ _ _ _ f1
  have f2 : DataW.trod enc Try.prog w base (fun _ => true) true n 3 ((cs.drop 2).take (Try.prog.cellsOf 3)) = xs[2]? := hf 2 _ rfl
  rw [show Try.prog.cellsOf 3 = 1 from by kernel_rfl, List.getElem?_eq_getElem (show 2 < xs.length by omega)] at f2
  obtain ⟨a2, k2, r2⟩ := og3 _ _ _ _ f2
  have f3 : DataW.trod enc Try.prog w base (fun _ => true) true n 3 ((cs.drop 3).take (Try.prog.cellsOf 3)) = xs[3]? := hf 3 _ rfl
  rw [show Try.prog.cellsOf 3 = 1 from by kernel_rfl, List.getElem?_eq_getElem (show 3 < xs.length by omega)] at f3
  obtain ⟨a3, k3, r3⟩ := og3 _ _ _ _ f3
  have f4 : DataW.trod enc Try.prog w base (fun _ => true) true n 3 ((cs.drop 4).take (Try.prog.cellsOf 3)) = xs[4]? := hf 4 _ rfl
  rw [show Try.prog.cellsOf 3 = 1 from by kernel_rfl, List.getElem?_eq_getElem (show 4 < xs.length by omega)] at f4
  obtain ⟨a4, k4, r4⟩ := og3 _ _ _ _ f4
  have f5 : DataW.trod enc Try.prog w base (fun _ => true) true n 3 ((cs.drop 5).take (Try.prog.cellsOf 3)) = xs[5]? := hf 5 _ rfl
  rw [show Try.prog.cellsOf 3 = 1 from by kernel_rfl, List.getElem?_eq_getElem (show 5 < xs.length by omega)] at f5
  obtain ⟨a5, k5, r5⟩ := og3 _ _ _ _ f5
  have f6 : DataW.trod enc Try.prog w base (fun _ => true) true n 3 ((cs.drop 6).take (Try.prog.cellsOf 3)) = xs[6]? := hf 6 _ rfl
  rw [show Try.prog.cellsOf 3 = 1 from by kernel_rfl, List.getElem?_eq_getElem (show 6 < xs.length by omega)] at f6
  obtain ⟨a6, k6, r6⟩ := og3 _ _ _ _ f6
  have f7 : DataW.trod enc Try.prog w base (fun _ => true) true n 3 ((cs.drop 7).take (Try.prog.cellsOf 3)) = xs[7]? := hf 7 _ rfl
  rw [show Try.prog.cellsOf 3 = 1 from by kernel_rfl, List.getElem?_eq_getElem (show 7 < xs.length by omega)] at f7
  obtain ⟨a7, k7, r7⟩ := og3 _ _ _ _ f7
  have f8 : DataW.trod enc Try.prog w base (fun _ => true) true n 3 ((cs.drop 8).take (Try.prog.cellsOf 3)) = xs[8]? := hf 8 _ rfl
  rw [show Try.prog.cellsOf 3 = 1 from by kernel_rfl, List.getElem?_eq_getElem (show 8 < xs.length by omega)] at f8
  obtain ⟨a8, k8, r8⟩ := og3 _ _ _ _ f8
  have e : RelL anyB w [] (cs.drop 9) := by rw [List.drop_of_length_le (by omega)]; exact RelL.nil
  have s8 := relSplit (us := cs.drop 8) r8 (by rw [List.drop_drop]; exact e)
  have s7 := relSplit (us := cs.drop 7) r7 (by rw [List.drop_drop]; exact s8)
  have s6 := relSplit (us := cs.drop 6) r6 (by rw [List.drop_drop]; exact s7)
  have s5 := relSplit (us := cs.drop 5) r5 (by rw [List.drop_drop]; exact s6)
  have s4 := relSplit (us := cs.drop 4) r4 (by rw [List.drop_drop]; exact s5)
  have s3 := relSplit (us := cs.drop 3) r3 (by rw [List.drop_drop]; exact s4)
  have s2 := relSplit (us := cs.drop 2) r2 (by rw [List.drop_drop]; exact s3)
  have s1 := relSplit (us := cs.drop 1) r1 (by rw [List.drop_drop]; exact s2)
  have s0 := relSplit (us := cs.drop 0) r0 (by rw [List.drop_drop]; exact s1)
  exact ⟨⟨a0, a1, a2, a3, a4, a5, a6, a7, a8⟩, ⟨k0, k1, k2, k3, k4, k5, k6, k7, k8, trivial⟩, s0⟩
def ok52 (l : List Record) : Prop := l.length ≤ 9223372036854775807 ∧ ∀ a ∈ l, ok23 a
theorem og52 : Opn enc Try.prog w 52 (fun l : List (uni.Dat 23) => [.sl 23 l]) ok52 := Opn.slice (e := 23) (sz := 8) Try.underlying52 (by kernel_rfl) rfl og23
def ok4 (_ : Bool) : Prop := True
theorem og4 : Opn enc Try.prog w 4 cB ok4 := Opn.bool Try.underlying4
def ok55 (l : List Bool) : Prop := l.length ≤ 9223372036854775807 ∧ ∀ a ∈ l, ok4 a
theorem og55 : Opn enc Try.prog w 55 (fun l : List (uni.Dat 4) => [.sl 4 l]) ok55 := Opn.slice (e := 4) (sz := 0) Try.underlying55 (by kernel_rfl) rfl og4
def ok57 (x : GEvent) : Prop := ok52 x.fRecords ∧ ok3 x.fLeft ∧ ok4 x.fCrash ∧ ok55 x.fKeep ∧ True
theorem og57 : Opn enc Try.prog w 57 (uni.cells 57) ok57 := fun base fuel cs x h => by
  obtain ⟨xs, n, _, rfl, hl, hlen, hf⟩ := DataW.trod_struct Try.underlying57 h
  rw [show Try.prog.cellsOf 57 = 4 from by kernel_rfl] at hl
  have hlen : xs.length = 4 := hlen
  have f0 : DataW.trod enc Try.prog w base (fun _ => true) true n 52 ((cs.drop 0).take (Try.prog.cellsOf 52)) = xs[0]? := hf 0 _ rfl
  rw [show Try.prog.cellsOf 52 = 1 from by kernel_rfl, List.getElem?_eq_getElem (show 0 < xs.length by omega)] at f0
  obtain ⟨a0, k0, r0⟩ := og52 _ _ _ _ f0
  have f1 : DataW.trod enc Try.prog w base (fun _ => true) true n 3 ((cs.drop 1).take (Try.prog.cellsOf 3)) = xs[1]? := hf 1 _ rfl
  rw [show Try.prog.cellsOf 3 = 1 from by kernel_rfl, List.getElem?_eq_getElem (show 1 < xs.length by omega)] at f1
  obtain ⟨a1, k1, r1⟩ := og3 _ _ _ _ f1
  have f2 : DataW.trod enc Try.prog w base (fun _ => true) true n 4 ((cs.drop 2).take (Try.prog.cellsOf 4)) = xs[2]? := hf 2 _ rfl
  rw [show Try.prog.cellsOf 4 = 1 from by kernel_rfl, List.getElem?_eq_getElem (show 2 < xs.length by omega)] at f2
  obtain ⟨a2, k2, r2⟩ := og4 _ _ _ _ f2
  have f3 : DataW.trod enc Try.prog w base (fun _ => true) true n 55 ((cs.drop 3).take (Try.prog.cellsOf 55)) = xs[3]? := hf 3 _ rfl
  rw [show Try.prog.cellsOf 55 = 1 from by kernel_rfl, List.getElem?_eq_getElem (show 3 < xs.length by omega)] at f3
  obtain ⟨a3, k3, r3⟩ := og55 _ _ _ _ f3
  have e : RelL anyB w [] (cs.drop 4) := by rw [List.drop_of_length_le (by omega)]; exact RelL.nil
  have s3 := relSplit (us := cs.drop 3) r3 (by rw [List.drop_drop]; exact e)
  have s2 := relSplit (us := cs.drop 2) r2 (by rw [List.drop_drop]; exact s3)
  have s1 := relSplit (us := cs.drop 1) r1 (by rw [List.drop_drop]; exact s2)
  have s0 := relSplit (us := cs.drop 0) r0 (by rw [List.drop_drop]; exact s1)
  exact ⟨⟨a0, a1, a2, a3⟩, ⟨k0, k1, k2, k3, trivial⟩, s0⟩
def ok47 (l : List GEvent) : Prop := l.length ≤ 9223372036854775807 ∧ ∀ a ∈ l, ok57 a
theorem og47 : Opn enc Try.prog w 47 (fun l : List (uni.Dat 57) => [.sl 57 l]) ok47 := Opn.slice (e := 57) (sz := 3) Try.underlying47 (by kernel_rfl) rfl og57
def ok36 (l : List Int) : Prop := l.length ≤ 9223372036854775807 ∧ ∀ a ∈ l, ok3 a
theorem og36 : Opn enc Try.prog w 36 (fun l : List (uni.Dat 3) => [.sl 3 l]) ok36 := Opn.slice (e := 3) (sz := 0) Try.underlying36 (by kernel_rfl) rfl og3
end
end Go.Proofs.Ytgdahkddhecloaa
end
section
set_option linter.unusedSectionVars false
set_option linter.unusedVariables false
set_option linter.unusedSimpArgs false
namespace Go.Proofs.Ytgdahkddhecloaa.S
open Go Go.Iv

def newR (a : List Int) (k : Nat) (r : Record) : Record := if k + 1 < a.length ∧ 0 ≤ a[k]! ∧ a[k]! ≤ 2147483647 ∧ 0 ≤ a[k + 1]! ∧ a[k + 1]! ≤ 2147483647 then ⟨r.fEpoch, r.fSeq, r.fSecret, r.fClient, r.fNumber, r.fProgram, r.fPublic, a[k]!, a[k + 1]!⟩ else r
theorem newR_ok {a : List Int} {k : Nat} {r : Record} (h : okT r) : okT (newR a k r) := by
  unfold newR
  split
  · rename_i c
    have e1 : okF a[k]! = true := by unfold okF; exact decide_eq_true ⟨by omega, by omega⟩
    have e2 : okF a[k + 1]! = true := by unfold okF; exact decide_eq_true ⟨by omega, by omega⟩
    unfold okT okR stamp at h ⊢
    simp only [Bool.and_eq_true] at h ⊢
    exact ⟨⟨h.1.1, e1⟩, e2⟩
  · exact h
theorem n6_1_at (l x28 : List GEvent) (a : List Int) (ha : a.length ≤ 50) (ms : List GEvent) (k : Nat) (hk : k ≤ 1000) (t29 t30 : Int) (rs : List Record) (hr : rs.length ≤ 5) (i : Nat) (hi : i < rs.length) (acc : List Record) (hacc : acc.length ≤ 5) (le : Int) (cr : Bool) (ke : List Bool) :
    n6_1 ⟨l, a, ms, k, x28, t29, t30, rs, rs.length, i, ⟨acc, le, cr, ke⟩⟩ = some (some ⟨l, a, ms, ((k + 2 : Nat) : Int), x28, t29, t30, rs, rs.length, ((i + 1 : Nat) : Int), ⟨acc ++ [newR a k rs[i]!], le, cr, ke⟩⟩) := by
  have e1 : IntKind.i64.wrap ((k : Int) + 1) = ((k + 1 : Nat) : Int) := wrap_id (by omega) (by omega)
  have e2 : IntKind.i64.wrap ((k : Int) + 2) = ((k + 2 : Nat) : Int) := wrap_id (by omega) (by omega)
  have hlen : ∀ r : Record, (acc ++ [r]).length ≤ 1073741824 := fun r => by rw [List.length_append]; simp; omega
  unfold n6_1
  dsimp only
  rw [decide_eq_true (by omega), cond_true, if_pos (by omega), e1, e2, w1 hi (by omega), Int.toNat_natCast, Int.toNat_natCast, Int.toNat_natCast]
  unfold newR
  by_cases c1 : k + 1 < a.length
  · rw [decide_eq_true (show ((k + 1 : Nat) : Int) < (a.length : Int) by omega), cond_true, if_pos (show (0 : Int) ≤ (k : Int) ∧ (k : Int) < (a.length : Int) by omega)]
    by_cases c2 : 0 ≤ a[k]!
    · rw [decide_eq_true c2, cond_true, if_pos (show (0 : Int) ≤ (k : Int) ∧ (k : Int) < (a.length : Int) by omega)]
      by_cases c3 : a[k]! ≤ 2147483647
      · rw [decide_eq_true c3, cond_true, if_pos (show (0 : Int) ≤ ((k + 1 : Nat) : Int) ∧ ((k + 1 : Nat) : Int) < (a.length : Int) by omega)]
        by_cases c4 : 0 ≤ a[k + 1]!
        · rw [decide_eq_true c4, cond_true, if_pos (show (0 : Int) ≤ ((k + 1 : Nat) : Int) ∧ ((k + 1 : Nat) : Int) < (a.length : Int) by omega)]
          dsimp only
          by_cases c5 : a[k + 1]! ≤ 2147483647
          · rw [decide_eq_true c5, cond_true, if_pos (show (0 : Int) ≤ (k : Int) ∧ (k : Int) < (a.length : Int) by omega), if_pos (show (0 : Int) ≤ ((k + 1 : Nat) : Int) ∧ ((k + 1 : Nat) : Int) < (a.length : Int) by omega), if_pos (hlen _), if_pos ⟨c1, c2, c3, c4, c5⟩]
          · rw [decide_eq_false c5, cond_false, if_pos (hlen _), if_neg (fun h => c5 h.2.2.2.2)]
        · rw [decide_eq_false c4, cond_false]
          dsimp only
          rw [cond_false, if_pos (hlen _), if_neg (fun h => c4 h.2.2.2.1)]
      · rw [decide_eq_false c3, cond_false]
        dsimp only
        rw [cond_false, if_pos (hlen _), if_neg (fun h => c3 h.2.2.1)]
    · rw [decide_eq_false c2, cond_false]
      dsimp only
      rw [cond_false, if_pos (hlen _), if_neg (fun h => c2 h.2.1)]
  · rw [decide_eq_false (show ¬ ((k + 1 : Nat) : Int) < (a.length : Int) by omega), cond_false]
    dsimp only
    rw [cond_false, if_pos (hlen _), if_neg (fun h => c1 h.1)]
def newL (a : List Int) (k : Nat) (rs : List Record) (i : Nat) : List Record := (List.range i).map fun j : Nat => newR a (k + 2 * j) rs[j]!
theorem newL_len (a : List Int) (k : Nat) (rs : List Record) (i : Nat) : (newL a k rs i).length = i := by simp [newL]
theorem newL_succ (a : List Int) (k : Nat) (rs : List Record) (i : Nat) : newL a k rs (i + 1) = newL a k rs i ++ [newR a (k + 2 * i) rs[i]!] := by
  unfold newL
  rw [List.range_succ, List.map_append]
  rfl
theorem a6_1_eq (l x28 : List GEvent) (a : List Int) (ha : a.length ≤ 50) (ms : List GEvent) (k : Nat) (hk : k ≤ 900) (t29 t30 : Int) (rs : List Record) (hr : rs.length ≤ 5) (le : Int) (cr : Bool) (ke : List Bool) :
    a6_1 ⟨l, a, ms, k, x28, t29, t30, rs, rs.length, 0, ⟨[], le, cr, ke⟩⟩ = some ⟨l, a, ms, ((k + 2 * rs.length : Nat) : Int), x28, t29, t30, rs, rs.length, rs.length, ⟨newL a k rs rs.length, le, cr, ke⟩⟩ := by
  have := advG_all (rnd := n6_1) (fun i => ⟨l, a, ms, ((k + 2 * i : Nat) : Int), x28, t29, t30, rs, rs.length, (i : Nat), ⟨newL a k rs i, le, cr, ke⟩⟩) rs.length (fun i hi => by
    rw [n6_1_at l x28 a ha ms (k + 2 * i) (by omega) t29 t30 rs hr i hi (newL a k rs i) (by rw [newL_len]; omega), newL_succ]
    rfl) (fun r => by
    unfold n6_1
    dsimp only
    rw [decide_eq_false (by omega)]
    simp)
  exact this
def newE (a : List Int) (k : Nat) (e : GEvent) : GEvent := ⟨newL a k e.fRecords e.fRecords.length, e.fLeft, e.fCrash, e.fKeep⟩
def newEs (a : List Int) : Nat → List GEvent → List GEvent
  | _, [] => []
  | k, e :: es => newE a k e :: newEs a (k + 2 * e.fRecords.length) es
theorem a6_0_eq (l : List GEvent) (hl : l.length ≤ 12) (hv : ∀ e ∈ l, okE e) (a : List Int) (ha : a.length ≤ 50) : ∀ (es : List GEvent) (i k : Nat) (ms : List GEvent), l.drop i = es → i ≤ l.length → k ≤ 10 * i → ms.length = i →
    ∃ k' : Int, a6_0 ⟨l, a, ms, k, l, l.length, i⟩ = some ⟨l, a, ms ++ newEs a k es, k', l, l.length, l.length⟩ := by
  intro es
  induction es with
  | nil =>
    intro i k ms hd hi hk hm
    have : i = l.length := by have := congrArg List.length hd; simp at this; omega
    subst this
    exact ⟨k, by
      rw [newEs, List.append_nil]
      exact advG_stop fun r => by
        unfold n6_0
        dsimp only
        rw [decide_eq_false (by omega)]
        simp⟩
  | cons e es ih =>
    intro i k ms hd hi hk hm
    have hil : i < l.length := by have := congrArg List.length hd; simp at this; omega
    rw [List.drop_eq_getElem_cons hil] at hd
    injection hd with hd1 hd2
    have he : l[i]! = e := by rw [getElem!_pos l i hil]; exact hd1
    have hok : okE e := hv e (by rw [← he]; exact get_mem hil)
    have hr5 := hok.r5
    have hn : n6_0 ⟨l, a, ms, k, l, l.length, i⟩ = some (some ⟨l, a, ms ++ [newE a k e], ((k + 2 * e.fRecords.length : Nat) : Int), l, l.length, ((i + 1 : Nat) : Int)⟩) := by
      unfold n6_0
      dsimp only
      rw [decide_eq_true (by omega), cond_true, if_pos (by omega), Int.toNat_natCast, he, a6_1_eq l l a ha ms k (by omega) _ _ _ hr5]
      dsimp only
      rw [decide_eq_false (by omega), cond_false, if_pos (by rw [List.length_append]; simp; omega), w1 hil (by omega)]
      rfl
    obtain ⟨k', h⟩ := ih (i + 1) (k + 2 * e.fRecords.length) (ms ++ [newE a k e]) hd2 (by omega) (by omega) (by simp [hm])
    refine ⟨k', ?_⟩
    rw [newEs]
    have h1 : a6_0 ⟨l, a, ms, k, l, l.length, i⟩ = a6_0 ⟨l, a, ms ++ [newE a k e], ((k + 2 * e.fRecords.length : Nat) : Int), l, l.length, ((i + 1 : Nat) : Int)⟩ := advG_step hn
    rw [h1, h, List.append_assoc]
    rfl
theorem newEs_len (a : List Int) : ∀ (es : List GEvent) (k : Nat), (newEs a k es).length = es.length
  | [], _ => rfl
  | e :: es, k => by simp [newEs, newEs_len a es]
theorem newEs_sim (a : List Int) : ∀ (es : List GEvent) (k : Nat), SimLs es (newEs a k es)
  | [], _ => trivial
  | e :: es, k => ⟨⟨rfl, rfl, rfl, newL_len _ _ _ _⟩, newEs_sim a es _⟩
theorem newE_ok {a : List Int} {k : Nat} {e : GEvent} (h : okE e) : okE (newE a k e) := ⟨by show (newL a k e.fRecords e.fRecords.length).length ≤ 5; rw [newL_len]; exact h.r5, h.k20, fun r hr => by
  obtain ⟨j, hj, rfl⟩ := List.mem_map.1 (show r ∈ newL a k e.fRecords e.fRecords.length from hr)
  rw [List.mem_range] at hj
  exact newR_ok (h.rv _ (get_mem hj)), h.le⟩
theorem newEs_ok (a : List Int) : ∀ (es : List GEvent) (k : Nat), (∀ e ∈ es, okE e) → ∀ f ∈ newEs a k es, okE f
  | [], _, _, f, hf => by cases hf
  | e :: es, k, h, f, hf => by
    rcases List.mem_cons.1 hf with rfl | hf
    · exact newE_ok (h e (List.mem_cons_self ..))
    · exact newEs_ok a es _ (fun e he => h e (List.mem_cons_of_mem _ he)) f hf
theorem a6_2_eq (x y : List Outcome) (hx : x.length ≤ 100) (h : SimOs x y) : a6_2 ⟨x, y, x.length, 0⟩ = some ⟨x, y, x.length, x.length⟩ := by
  obtain ⟨hl, ha⟩ := h.at'
  have := advG_all (rnd := n6_2) (fun i => ⟨x, y, x.length, (i : Nat)⟩) x.length (fun i hi => by
    obtain ⟨q1, q2, q3, q4⟩ := ha i hi
    unfold n6_2
    dsimp only
    have p1 : (0 : Int) ≤ (i : Int) ∧ (i : Int) < (x.length : Int) := by omega
    have p2 : (0 : Int) ≤ (i : Int) ∧ (i : Int) < (y.length : Int) := by omega
    simp only [Int.toNat_natCast, q1, q2, q3, q4, p1, p2, and_self, if_true, decide_true, cond_true, cond_false, beq_self_eq_true, hi, show i < y.length from by omega, true_and]
    rw [w1 hi (by omega)]) (fun r => by
    unfold n6_2
    dsimp only
    rw [decide_eq_false (by omega)]
    simp)
  exact this
theorem m6_eq (l : List GEvent) (a : List Int) (hl : ∀ e ∈ l, e.fLeft ≤ 9223372036854775807) : m6 l a = some true := by
  unfold m6
  rw [show m7 = true from rfl]
  simp only [cond_true, cond_false]
  rw [m21_eq]
  dsimp only
  cases c : decide (l.length ≤ 12) && l.all okEb
  · rfl
  · simp only [cond_true, cond_false]
    rw [Bool.and_eq_true, decide_eq_true_eq] at c
    have hv : ∀ e ∈ l, okE e := fun e he => okE_of (List.all_eq_true.1 c.2 e he) (hl e he)
    by_cases ha : a.length ≤ 50
    · rw [decide_eq_false (show ¬ (50 : Int) < (a.length : Int) by omega)]
      simp only [cond_false]
      obtain ⟨k', h⟩ := a6_0_eq l c.1 hv a ha l 0 0 [] rfl (by omega) (by omega) rfl
      have h' : a6_0 ⟨l, a, [], 0, l, l.length, 0⟩ = some ⟨l, a, [] ++ newEs a 0 l, k', l, l.length, l.length⟩ := h
      rw [h', List.nil_append]
      dsimp only
      have hnl := newEs_len a l 0
      have hnv := newEs_ok a l 0 hv
      have hs := run_sim l (newEs a 0 l) 0 s0 s0 (by omega) (newEs_sim a l 0) hv hnv ⟨SL.refl _, rfl, rfl⟩ inv0
      obtain ⟨q1, _⟩ := hs.at'
      rw [decide_eq_false (by omega), cond_false, m22_eq l c.1 hv, m22_eq _ (by omega) hnv]
      simp only [cond_true, cond_false]
      rw [decide_eq_true (show ((runF s0 l).length : Int) = ((runF s0 (newEs a 0 l)).length : Int) by omega)]
      simp only [cond_true, cond_false]
      rw [a6_2_eq _ _ (by rw [run_len]; omega) hs]
      dsimp only
      rw [decide_eq_false (by omega), cond_false]
    · rw [decide_eq_true (show (50 : Int) < (a.length : Int) by omega)]
      rfl
theorem o6_eq : o6 true = ⟨.b true, [], 0⟩ := by kernel_rfl
theorem i64_le {n : Int} (h : ok3 n) : -9223372036854775808 ≤ n ∧ n ≤ 9223372036854775807 := by
  unfold ok3 at h
  simp only [Lit.wf, Bool.and_eq_true, decide_eq_true_eq] at h
  have e1 : IntKind.i64.min = -9223372036854775808 := rfl
  have e2 : IntKind.i64.max = 9223372036854775807 := rfl
  omega
theorem law6 (l : List GEvent) (a : List Int) (h : ok47 l) : Iv.Fn Try.prog 6 [.sl 57 l, .sl 3 a] [] (fun a s => a = .b true ∧ s = []) :=
  (fn6 l a true (m6_eq l a fun e he => (i64_le (h.2 e he).2.1).2)).2.law o6_eq (by kernel_rfl)
end Go.Proofs.Ytgdahkddhecloaa.S
end
