/- Ledger: numbers out of bytes. -/
import Derived.Test.YtgdahkddhecloaaLp
set_option linter.unusedSectionVars false
set_option linter.unusedVariables false
set_option linter.unusedSimpArgs false
namespace Go.Proofs.Ytgdahkddhecloaa
open Go Go.Iv

theorem bOr_add (t b : Int) (h1 : 0 ≤ t) (h2 : t < 4294967296) (h3 : 0 ≤ b) (h4 : b < 256) : bOr .i64 (bShl .i64 t 8) (IntKind.i64.wrap b) = t * 256 + b := by
  have e1 : bShl .i64 t 8 = t * 256 := by
    unfold bShl
    show IntKind.i64.wrap (t * 2 ^ 8) = _
    rw [wrap_id (by omega) (by omega)]
    omega
  rw [e1, wrap_id (by omega) (by omega)]
  unfold bOr
  obtain ⟨m, rfl⟩ : ∃ m : Nat, t = m := ⟨t.toNat, by omega⟩
  obtain ⟨k, rfl⟩ : ∃ k : Nat, b = k := ⟨b.toNat, by omega⟩
  have hk : k < 256 := by omega
  have hm : m < 4294967296 := by omega
  have : (BitVec.ofInt IntKind.i64.bits ((m : Int) * 256) ||| BitVec.ofInt IntKind.i64.bits (k : Int)).toNat = m * 256 + k := by
    rw [BitVec.toNat_or]
    have q1 : (BitVec.ofInt IntKind.i64.bits ((m : Int) * 256)).toNat = m * 256 := by
      have : ((m : Int) * 256) = ((m * 256 : Nat) : Int) := by omega
      rw [this, BitVec.ofInt_natCast, BitVec.toNat_ofNat]
      exact Nat.mod_eq_of_lt (by show m * 256 < 2 ^ 64; omega)
    have q2 : (BitVec.ofInt IntKind.i64.bits (k : Int)).toNat = k := by
      rw [BitVec.ofInt_natCast, BitVec.toNat_ofNat]
      exact Nat.mod_eq_of_lt (by show k < 2 ^ 64; omega)
    rw [q1, q2]
    have := Nat.shiftLeft_add_eq_or_of_lt (show k < 2 ^ 8 by omega) m
    rw [Nat.shiftLeft_eq] at this
    exact this.symm
  rw [this, wrap_id (by omega) (by omega)]
  omega
/-- a byte of a number -/
theorem byte_of (n k : Nat) (hk : k ≤ 32) : IntKind.u8.wrap (bShr .i64 (n : Int) (k : Int)) = ((n / 2 ^ k % 256 : Nat) : Int) := by
  have e : bShr .i64 (n : Int) (k : Int) = ((n / 2 ^ k : Nat) : Int) := by
    unfold bShr
    have : min (k : Int).toNat IntKind.i64.bits = k := by
      show min (k : Int).toNat 64 = k
      omega
    rw [this, Int.fdiv_eq_ediv_of_nonneg _ (by exact_mod_cast Nat.zero_le _)]
    push_cast
    rfl
  rw [e]
  show ((n / 2 ^ k : Nat) : Int) % 256 = _
  omega
def getS (l : List Int) : Int := l.foldl (fun t x => bOr .i64 (bShl .i64 t 8) (IntKind.i64.wrap x)) 0
theorem getS_be (n : Int) (h1 : 0 ≤ n) (h2 : n ≤ 2147483647) : getS (be 4 n) = n := by
  obtain ⟨m, rfl⟩ : ∃ m : Nat, n = m := ⟨n.toNat, by omega⟩
  have hm : m ≤ 2147483647 := by omega
  have e : be 4 (m : Int) = [((m / 2 ^ 24 % 256 : Nat) : Int), ((m / 2 ^ 16 % 256 : Nat) : Int), ((m / 2 ^ 8 % 256 : Nat) : Int), ((m / 2 ^ 0 % 256 : Nat) : Int)] := by
    rw [← byte_of m 24 (by omega), ← byte_of m 16 (by omega), ← byte_of m 8 (by omega), ← byte_of m 0 (by omega)]
    rfl
  rw [e, getS]
  simp only [List.foldl]
  generalize h1 : ((m / 2 ^ 24 % 256 : Nat) : Int) = b1
  generalize h2 : ((m / 2 ^ 16 % 256 : Nat) : Int) = b2
  generalize h3 : ((m / 2 ^ 8 % 256 : Nat) : Int) = b3
  generalize h4 : ((m / 2 ^ 0 % 256 : Nat) : Int) = b4
  rw [bOr_add 0 b1 (by omega) (by omega) (by omega) (by omega)]
  rw [bOr_add _ b2 (by omega) (by omega) (by omega) (by omega)]
  rw [bOr_add _ b3 (by omega) (by omega) (by omega) (by omega)]
  rw [bOr_add _ b4 (by omega) (by omega) (by omega) (by omega)]
  omega
theorem be_byte (n : Int) : ∀ w, ∀ x ∈ be w n, 0 ≤ x ∧ x < 256
  | 0 => by simp [be]
  | w + 1 => by
    intro x hx
    rw [be, List.mem_cons] at hx
    rcases hx with rfl | hx
    · constructor <;> simp [IntKind.wrap, IntKind.bits, IntKind.signed] <;> omega
    · exact be_byte n w x hx
def Byt (l : List Int) : Prop := ∀ x ∈ l, 0 ≤ x ∧ x < 256
theorem Byt.append {a b : List Int} (h1 : Byt a) (h2 : Byt b) : Byt (a ++ b) := fun x hx => by
  rcases List.mem_append.1 hx with h | h
  · exact h1 x h
  · exact h2 x h
theorem enc_byt (r : Record) : Byt (enc r) := by
  unfold enc pad
  have h0 : Byt [1] := by simp [Byt]
  have hz : ∀ n, Byt (List.replicate n 0) := fun n x hx => by rw [List.mem_replicate] at hx; omega
  have hb : ∀ n, Byt (be 4 n) := fun n => be_byte n 4
  exact ((((((((((h0.append (hb _)).append (hb _)).append (hb _)).append (hb _)).append (hb _)).append (hb _)).append (hb _)).append (hb _)).append (hb _)).append (hz _))
/-- the two gets -/
theorem a36_eq (l : List Int) (hl : l.length ≤ 1000) : ∀ (k i : Nat) (t : Int), i + k = l.length → a36_0 ⟨t, l, l.length, i⟩ = some ⟨(l.drop i).foldl (fun t x => bOr .i64 (bShl .i64 t 8) (IntKind.i64.wrap x)) t, l, l.length, l.length⟩
  | 0, i, t, h => by
    have : i = l.length := by omega
    subst this
    rw [List.drop_length]
    exact advG_stop fun r => by simp [n36_0]
  | k + 1, i, t, h => by
    have hi : i < l.length := by omega
    have ih := a36_eq l hl k (i + 1) (bOr .i64 (bShl .i64 t 8) (IntKind.i64.wrap l[i])) (by omega)
    have hs : n36_0 ⟨t, l, l.length, i⟩ = some (some ⟨bOr .i64 (bShl .i64 t 8) (IntKind.i64.wrap l[i]), l, l.length, ((i + 1 : Nat) : Int)⟩) := by
      unfold n36_0
      dsimp only
      rw [wrap_id (n := (i : Int) + 1) (by omega) (by omega), decide_eq_true (by omega), cond_true, if_pos (by omega), Int.toNat_natCast, getElem!_pos l i hi]
      rfl
    show advG n36_0 _ = _
    rw [advG_step hs]
    show a36_0 _ = _
    rw [ih, List.drop_eq_getElem_cons hi]
    rfl
theorem m36_eq (l : List Int) (hl : l.length ≤ 1000) : m36 l = some (getS l) := by
  unfold m36
  rw [show (0 : Int) = ((0 : Nat) : Int) from rfl, a36_eq l hl l.length 0 _ (by omega)]
  dsimp only
  rw [decide_eq_false (by omega)]
  rfl
theorem a40_eq (l : List Int) (hl : l.length ≤ 1000) : ∀ (k i : Nat) (t : Int), i + k = l.length → a40_0 ⟨t, l, l.length, i⟩ = some ⟨(l.drop i).foldl (fun t x => bOr .i64 (bShl .i64 t 8) (IntKind.i64.wrap x)) t, l, l.length, l.length⟩
  | 0, i, t, h => by
    have : i = l.length := by omega
    subst this
    rw [List.drop_length]
    exact advG_stop fun r => by simp [n40_0]
  | k + 1, i, t, h => by
    have hi : i < l.length := by omega
    have ih := a40_eq l hl k (i + 1) (bOr .i64 (bShl .i64 t 8) (IntKind.i64.wrap l[i])) (by omega)
    have hs : n40_0 ⟨t, l, l.length, i⟩ = some (some ⟨bOr .i64 (bShl .i64 t 8) (IntKind.i64.wrap l[i]), l, l.length, ((i + 1 : Nat) : Int)⟩) := by
      unfold n40_0
      dsimp only
      rw [wrap_id (n := (i : Int) + 1) (by omega) (by omega), decide_eq_true (by omega), cond_true, if_pos (by omega), Int.toNat_natCast, getElem!_pos l i hi]
      rfl
    show advG n40_0 _ = _
    rw [advG_step hs]
    show a40_0 _ = _
    rw [ih, List.drop_eq_getElem_cons hi]
    rfl
theorem m40_eq (l : List Int) (hl : l.length ≤ 1000) : m40 l = some (getS l) := by
  unfold m40
  rw [show (0 : Int) = ((0 : Nat) : Int) from rfl, a40_eq l hl l.length 0 _ (by omega)]
  dsimp only
  rw [decide_eq_false (by omega)]
  rfl
/-- bytes.Equal, slices.Equal -/
theorem byt_inj : ∀ {a b : List Int}, Byt a → Byt b → a.map (fun n => UInt8.ofNat n.toNat) = b.map (fun n => UInt8.ofNat n.toNat) → a = b
  | [], [], _, _, _ => rfl
  | [], y :: ys, _, _, h => by simp at h
  | x :: xs, [], _, _, h => by simp at h
  | x :: xs, y :: ys, h1, h2, h => by
    simp only [List.map_cons, List.cons.injEq] at h
    have q1 := h1 x (List.mem_cons_self ..)
    have q2 := h2 y (List.mem_cons_self ..)
    have e : x = y := by
      have := congrArg UInt8.toNat h.1
      rw [UInt8.toNat_ofNat', UInt8.toNat_ofNat'] at this
      omega
    rw [e, byt_inj (fun z hz => h1 z (List.mem_cons_of_mem _ hz)) (fun z hz => h2 z (List.mem_cons_of_mem _ hz)) h.2]
theorem baList (l : List UInt8) : (ByteArray.mk (Array.mk l)).toList = l := by
  have key : ∀ (k i : Nat) (acc : List UInt8), i + k = l.length → ByteArray.toList.loop (ByteArray.mk (Array.mk l)) i acc = acc.reverse ++ l.drop i := by
    intro k
    induction k with
    | zero =>
      intro i acc h
      rw [ByteArray.toList.loop]
      have hs : (ByteArray.mk (Array.mk l)).size = l.length := rfl
      rw [if_neg (by rw [hs]; omega)]
      rw [List.drop_of_length_le (by omega), List.append_nil]
    | succ k ih =>
      intro i acc h
      rw [ByteArray.toList.loop]
      have hs : (ByteArray.mk (Array.mk l)).size = l.length := rfl
      rw [if_pos (by rw [hs]; omega), ih (i + 1) _ (by omega)]
      have hi : i < l.length := by omega
      rw [List.drop_eq_getElem_cons hi]
      have : (ByteArray.mk (Array.mk l)).get! i = l[i] := by
        show (Array.mk l)[i]! = _
        rw [getElem!_pos (Array.mk l) i hi]
        rfl
      rw [this]
      simp
  have := key l.length 0 [] (by omega)
  simpa [ByteArray.toList] using this
theorem m37_eq {a b : List Int} (h1 : Byt a) (h2 : Byt b) : m37 a b = decide (a = b) := by
  unfold m37
  rw [baList, baList]
  by_cases h : a = b
  · subst h; simp
  · rw [decide_eq_false h]
    rw [beq_eq_false_iff_ne]
    exact fun e => h (byt_inj h1 h2 e)
theorem n11_at (a b : List Int) (hl : a.length ≤ 100000) (hab : a.length = b.length) (i : Nat) (h : i < a.length) : n11_0 ⟨a, b, a.length, i⟩ = if a[i]! = b[i]! then some (some ⟨a, b, a.length, ((i + 1 : Nat) : Int)⟩) else some none := by
  unfold n11_0
  dsimp only
  rw [wrap_id (n := (i : Int) + 1) (by omega) (by omega), decide_eq_true (show (i : Int) < a.length by omega), cond_true, if_pos (by omega), if_pos (by omega), Int.toNat_natCast]
  by_cases e : a[i]! = b[i]!
  · rw [if_pos e, decide_eq_true e]; rfl
  · rw [if_neg e, decide_eq_false e]; rfl
theorem m11_eq (a b : List Int) (hl : a.length ≤ 100000) : m11 a b = some (decide (a = b)) := by
  unfold m11
  by_cases he : a.length = b.length
  · rw [decide_eq_true (show (a.length : Int) = b.length by omega)]
    obtain ⟨j, q1, q2, q3, q4, q5⟩ := advG_count (rnd := n11_0) (fun i => ⟨a, b, a.length, (i : Nat)⟩) a.length (fun i hi => by
        rw [n11_at a b hl he i hi]
        by_cases e : a[i]! = b[i]!
        · rw [if_pos e]; exact .inl rfl
        · rw [if_neg e]; exact .inr fun r => by simp) (fun r => by
        unfold n11_0
        dsimp only
        rw [decide_eq_false (by omega)]
        simp) a.length 0 (by omega)
    have q3' : a11_0 ⟨a, b, a.length, 0⟩ = some ⟨a, b, a.length, j⟩ := q3
    rw [q3']
    have hlt : ∀ m (hm : m < j), a[m]! = b[m]! := by
      intro m hm
      have h1 := q4 m (by omega) hm
      rw [n11_at a b hl he m (by omega)] at h1
      by_cases e : a[m]! = b[m]!
      · exact e
      · rw [if_neg e] at h1; simp at h1
    by_cases hj : j = a.length
    · subst hj
      have : a = b := by
        apply List.ext_getElem he
        intro i h1 h2
        have := hlt i h1
        rwa [getElem!_pos a i h1, getElem!_pos b i h2] at this
      dsimp only
      rw [decide_eq_false (show ¬ (a.length : Int) < a.length by omega), decide_eq_true this]
      rfl
    · have hj' : j < a.length := by omega
      have hne : ¬ a[j]! = b[j]! := by
        intro e
        have h1 := q5 ⟨a, b, a.length, ((j + 1 : Nat) : Int)⟩
        rw [n11_at a b hl he j hj', if_pos e] at h1
        exact h1 rfl
      have : ¬ a = b := fun e => hne (by rw [e])
      dsimp only
      rw [Int.toNat_natCast, decide_eq_true (show (j : Int) < a.length by omega), decide_eq_false hne, decide_eq_false this, if_pos (by omega), if_pos (by omega)]
      rfl
  · rw [decide_eq_false (show ¬ (a.length : Int) = b.length by omega)]
    rw [decide_eq_false (fun h => he (by rw [h]))]
    rfl
/-- fields in range -/
def allF (l : List Int) : Bool := l.all okF
theorem m35_eq (n : Int) : m35 n = !okF n := by
  have e : m35 n = (decide (n < 0) || decide (2147483647 < n)) := by
    unfold m35
    cases decide (n < 0) <;> rfl
  rw [e]
  unfold okF
  rw [Bool.eq_iff_iff]
  simp only [Bool.or_eq_true, decide_eq_true_eq, Bool.not_eq_true', decide_eq_false_iff_not]
  omega
theorem n52b_at (a : List Int) (hl : a.length ≤ 100000) (i : Nat) (h : i < a.length) : n52b_0 ⟨a, a.length, i⟩ = if okF a[i]! then some (some ⟨a, a.length, ((i + 1 : Nat) : Int)⟩) else some none := by
  unfold n52b_0
  dsimp only
  rw [wrap_id (n := (i : Int) + 1) (by omega) (by omega), decide_eq_true (show (i : Int) < a.length by omega), cond_true, if_pos (by omega), Int.toNat_natCast, m35_eq]
  cases okF a[i]! <;> rfl
theorem m33b_eq (a : List Int) (hl : a.length ≤ 100000) : m33b a = some (!allF a) := by
  unfold m33b m52b
  obtain ⟨j, q1, q2, q3, q4, q5⟩ := advG_count (rnd := n52b_0) (fun i => ⟨a, a.length, (i : Nat)⟩) a.length (fun i hi => by
      rw [n52b_at a hl i hi]
      cases e : okF a[i]!
      · exact .inr fun r => by simp
      · exact .inl rfl) (fun r => by
      unfold n52b_0
      dsimp only
      rw [decide_eq_false (by omega)]
      simp) a.length 0 (by omega)
  have q3' : a52b_0 ⟨a, a.length, 0⟩ = some ⟨a, a.length, j⟩ := q3
  rw [q3']
  dsimp only
  have hlt : ∀ m (hm : m < j), okF a[m]! = true := by
    intro m hm
    have h1 := q4 m (by omega) hm
    rw [n52b_at a hl m (by omega)] at h1
    cases e : okF a[m]!
    · rw [e] at h1; simp at h1
    · rfl
  by_cases hj : j = a.length
  · subst hj
    have : allF a = true := by
      unfold allF
      rw [List.all_eq_true]
      intro x hx
      obtain ⟨i, hi, rfl⟩ := List.getElem_of_mem hx
      have := hlt i hi
      rwa [getElem!_pos a i hi] at this
    rw [decide_eq_false (show ¬ (a.length : Int) < a.length by omega), this]
    rfl
  · have hj' : j < a.length := by omega
    have hne : okF a[j]! = false := by
      cases e : okF a[j]!
      · rfl
      · have h1 := q5 ⟨a, a.length, ((j + 1 : Nat) : Int)⟩
        rw [n52b_at a hl j hj', if_pos e] at h1
        exact absurd rfl h1
    have : allF a = false := by
      unfold allF
      rw [List.all_eq_false]
      exact ⟨a[j], List.getElem_mem hj', by rw [getElem!_pos a j hj'] at hne; simp [hne]⟩
    rw [Int.toNat_natCast, decide_eq_true (show (j : Int) < a.length by omega), m35_eq, hne, this, if_pos (by omega)]
    show some (decide ((0 : Int) ≤ j)) = some true
    rw [decide_eq_true (by omega)]
theorem m9_eq (r : Record) : m9 r = some (okR r) := by
  unfold m9
  rw [m33b_eq _ (by simp [m34])]
  simp [m34, allF, okR, Bool.and_assoc]
def encL (l : List Int) (b : List Int) : List Int := l.foldl (fun b x => b ++ be 4 x) b
theorem a12_eq (l : List Int) (hl : l.length ≤ 9) : ∀ (k i : Nat) (b : List Int), i + k = l.length → b.length ≤ 1 + 4 * i → a12_0 ⟨b, l, l.length, i⟩ = some ⟨encL (l.drop i) b, l, l.length, l.length⟩
  | 0, i, b, h, hb => by
    have : i = l.length := by omega
    subst this
    rw [List.drop_length]
    exact advG_stop fun r => by simp [n12_0]
  | k + 1, i, b, h, hb => by
    have hi : i < l.length := by omega
    have ih := a12_eq l hl k (i + 1) (b ++ be 4 l[i]) (by omega) (by simp [be_len]; omega)
    have hs : n12_0 ⟨b, l, l.length, i⟩ = some (some ⟨b ++ be 4 l[i], l, l.length, ((i + 1 : Nat) : Int)⟩) := by
      unfold n12_0
      dsimp only
      rw [wrap_id (n := (i : Int) + 1) (by omega) (by omega), decide_eq_true (by omega), cond_true, if_pos (by omega), Int.toNat_natCast, getElem!_pos l i hi, if_pos (by omega), show (4 : Int) = ((4 : Nat) : Int) from rfl, m38_eq _ 4 _ (by omega) (by omega)]
      rfl
    show advG n12_0 _ = _
    rw [advG_step hs]
    show a12_0 _ = _
    rw [ih, List.drop_eq_getElem_cons hi]
    rfl
theorem m12_eq (r : Record) : m12 r = some (enc r) := by
  unfold m12
  rw [show (0 : Int) = ((0 : Nat) : Int) from rfl, a12_eq (m34 r) (by simp [m34]) 9 0 [1] (by simp [m34]) (by simp)]
  dsimp only
  rw [decide_eq_false (by omega)]
  dsimp only [cond_false]
  have e : encL (List.drop 0 (m34 r)) [1] = [1] ++ be 4 r.fEpoch ++ be 4 r.fSeq ++ be 4 r.fSecret ++ be 4 r.fClient ++ be 4 r.fNumber ++ be 4 r.fProgram ++ be 4 r.fPublic ++ be 4 r.fAnswer ++ be 4 r.fCharge := rfl
  rw [e, m39_eq _ (by simp [be_len])]
  rfl
end Go.Proofs.Ytgdahkddhecloaa
