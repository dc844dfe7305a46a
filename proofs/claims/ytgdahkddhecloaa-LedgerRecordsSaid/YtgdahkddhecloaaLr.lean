/- Ledger: decoding, and the law of records. -/
import Derived.Test.YtgdahkddhecloaaLq
import Derived.Test.YtgdahkddhecloaaLb
import Derived.Test.YtgdahkddhecloaaOpL
set_option linter.unusedSectionVars false
set_option linter.unusedVariables false
set_option linter.unusedSimpArgs false
namespace Go.Proofs.Ytgdahkddhecloaa
open Go Go.Iv

def gt (l : List Int) (i : Nat) : Int := getS (List.drop (1 + 4 * i) (List.take (5 + 4 * i) l))
def gF (l : List Int) : Record := ⟨gt l 0, gt l 1, gt l 2, gt l 3, gt l 4, gt l 5, gt l 6, gt l 7, gt l 8⟩
abbrev zR : Record := ⟨0, 0, 0, 0, 0, 0, 0, 0, 0⟩
def dec (l : List Int) : Record × Bool := if l.length = 96 ∧ okR (gF l) = true ∧ enc (gF l) = l then (gF l, true) else (zR, false)
theorem gl (l : List Int) (i : Nat) : m36 (List.drop (1 + 4 * i) (List.take (5 + 4 * i) l)) = some (gt l i) := m36_eq _ (by simp; omega)
theorem m10_eq (l : List Int) (hb : Byt l) : m10 l = some (dec l) := by
  unfold m10 dec
  by_cases h : l.length = 96
  · have h' : (l.length : Int) = 96 := by omega
    rw [h']
    have g0 := gl l 0
    have g1 := gl l 1
    have g2 := gl l 2
    have g3 := gl l 3
    have g4 := gl l 4
    have g5 := gl l 5
    have g6 := gl l 6
    have g7 := gl l 7
    have g8 := gl l 8
    simp only [Nat.mul_zero, Nat.add_zero, Nat.reduceMul, Nat.reduceAdd] at g0 g1 g2 g3 g4 g5 g6 g7 g8
    simp only [g0, g1, g2, g3, g4, g5, g6, g7, g8]
    have e : (⟨gt l 0, gt l 1, gt l 2, gt l 3, gt l 4, gt l 5, gt l 6, gt l 7, gt l 8⟩ : Record) = gF l := rfl
    rw [e, m8_eq]
    cases hk : okR (gF l)
    · simp
    · have := m37_eq (enc_byt (gF l)) hb
      by_cases he : enc (gF l) = l
      · rw [he] at this
        simp [this, he, h]
      · simp [this, he, h]
  · rw [decide_eq_false (show ¬ (l.length : Int) = 96 by omega)]
    rw [if_neg (c := l.length = 96 ∧ okR (gF l) = true ∧ enc (gF l) = l) (fun q => h q.1)]
    rfl
def gls (l : List Int) (i : Nat) : List Int := (List.range i).map (gt l)
theorem a13_eq (l : List Int) (h : l.length = 96) : a13_0 ⟨l, [], 0, zR⟩ = some ⟨l, gls l 9, 9, zR⟩ := by
  have := advG_all (rnd := n13_0) (fun i => ⟨l, gls l i, (i : Nat), zR⟩) 9 (fun i hi => by
    unfold n13_0
    dsimp only
    have e1 : IntKind.i64.wrap ((4 : Int) * (i : Nat)) = ((4 * i : Nat) : Int) := by rw [wrap_id (by omega) (by omega)]; omega
    have e2 : IntKind.i64.wrap ((1 : Int) + ((4 * i : Nat) : Int)) = ((1 + 4 * i : Nat) : Int) := by rw [wrap_id (by omega) (by omega)]; omega
    have e3 : IntKind.i64.wrap ((5 : Int) + ((4 * i : Nat) : Int)) = ((5 + 4 * i : Nat) : Int) := by rw [wrap_id (by omega) (by omega)]; omega
    rw [e1, e2, e3, wrap_id (n := (i : Int) + 1) (by omega) (by omega), decide_eq_true (by omega), cond_true, if_pos (by omega), Int.toNat_natCast, Int.toNat_natCast, m40_eq _ (by simp; omega)]
    dsimp only
    rw [if_pos (by simp [gls]; omega)]
    have : gls l (i + 1) = gls l i ++ [getS (List.drop (1 + 4 * i) (List.take (5 + 4 * i) l))] := by
      unfold gls
      rw [List.range_succ, List.map_append]
      rfl
    rw [this]
    rfl) (fun r => by
    unfold n13_0
    simp)
  exact this
theorem m13_eq (l : List Int) : m13 l = some (dec l) := by
  unfold m13
  by_cases h : l.length = 96
  · have h' : (l.length : Int) = 96 := by omega
    rw [h', a13_eq l h]
    have eg : gls l 9 = [gt l 0, gt l 1, gt l 2, gt l 3, gt l 4, gt l 5, gt l 6, gt l 7, gt l 8] := rfl
    simp only [eg]
    have e : (⟨gt l 0, gt l 1, gt l 2, gt l 3, gt l 4, gt l 5, gt l 6, gt l 7, gt l 8⟩ : Record) = gF l := rfl
    have el : ([gt l 0, gt l 1, gt l 2, gt l 3, gt l 4, gt l 5, gt l 6, gt l 7, gt l 8] : List Int).length = 9 := rfl
    simp only [el]
    have q := m11_eq (enc (gF l)) l (by rw [enc_len]; omega)
    have e0 : enc (gF l) = l → l[Int.toNat 0]! = 1 := fun he => by rw [← he]; rfl
    revert e0
    generalize l[Int.toNat 0]! = x
    intro e0
    by_cases h1 : x = 1
    · simp [h1, dec, h]
      rw [e, m9_eq, m12_eq]
      cases hk : okR (gF l)
      · simp
      · by_cases he : enc (gF l) = l
        · rw [he] at q
          simp [q, he]
        · simp [q, he]
    · have hne : ¬ enc (gF l) = l := fun he => h1 (e0 he)
      simp [h1, dec, hne]
  · rw [decide_eq_false (show ¬ (l.length : Int) = 96 by omega)]
    unfold dec
    rw [if_neg (c := l.length = 96 ∧ okR (gF l) = true ∧ enc (gF l) = l) (fun q => h q.1)]
    rfl
theorem be_get (r : Record) : okR r = true → gF (enc r) = r := by
  intro h
  unfold okR at h
  simp only [Bool.and_eq_true] at h
  have hk : ∀ n, okF n = true → getS (be 4 n) = n := fun n hn => by
    unfold okF at hn
    simp only [decide_eq_true_eq] at hn
    exact getS_be n hn.1 hn.2
  obtain ⟨⟨⟨⟨⟨⟨⟨⟨h0, h1⟩, h2⟩, h3⟩, h4⟩, h5⟩, h6⟩, h7⟩, h8⟩ := h
  cases r with
  | mk a b c d e f g h i =>
    have q0 : gt (enc ⟨a, b, c, d, e, f, g, h, i⟩) 0 = getS (be 4 a) := rfl
    have q1 : gt (enc ⟨a, b, c, d, e, f, g, h, i⟩) 1 = getS (be 4 b) := rfl
    have q2 : gt (enc ⟨a, b, c, d, e, f, g, h, i⟩) 2 = getS (be 4 c) := rfl
    have q3 : gt (enc ⟨a, b, c, d, e, f, g, h, i⟩) 3 = getS (be 4 d) := rfl
    have q4 : gt (enc ⟨a, b, c, d, e, f, g, h, i⟩) 4 = getS (be 4 e) := rfl
    have q5 : gt (enc ⟨a, b, c, d, e, f, g, h, i⟩) 5 = getS (be 4 f) := rfl
    have q6 : gt (enc ⟨a, b, c, d, e, f, g, h, i⟩) 6 = getS (be 4 g) := rfl
    have q7 : gt (enc ⟨a, b, c, d, e, f, g, h, i⟩) 7 = getS (be 4 h) := rfl
    have q8 : gt (enc ⟨a, b, c, d, e, f, g, h, i⟩) 8 = getS (be 4 i) := rfl
    unfold gF
    rw [q0, q1, q2, q3, q4, q5, q6, q7, q8, hk a h0, hk b h1, hk c h2, hk d h3, hk e h4, hk f h5, hk g h6, hk h h7, hk i h8]
theorem recEq (r s : Record) : (bif decide (r.fEpoch = s.fEpoch) then bif decide (r.fSeq = s.fSeq) then bif decide (r.fSecret = s.fSecret) then bif decide (r.fClient = s.fClient) then bif decide (r.fNumber = s.fNumber) then bif decide (r.fProgram = s.fProgram) then bif decide (r.fPublic = s.fPublic) then bif decide (r.fAnswer = s.fAnswer) then bif decide (r.fCharge = s.fCharge) then true else false else false else false else false else false else false else false else false else false) = decide (r = s) := by
  cases r; cases s
  rw [Bool.eq_iff_iff]
  simp [Bool.cond_eq_ite]
theorem m3_eq (r : Record) (l : List Int) (hb : Byt l) : m3 r l = some true := by
  unfold m3
  rw [m10_eq l hb, m13_eq l, m8_eq, m9_eq, m12_eq]
  have hm7 : m7 = true := rfl
  rw [hm7]
  dsimp only [cond_true, cond_false]
  cases hl : decide (300 < (l.length : Int))
  · cases hk : okR r
    · simp
    · have hd : dec (enc r) = (r, true) := by
        unfold dec
        rw [be_get r hk, if_pos ⟨enc_len r, hk, rfl⟩]
      simp [m10_eq (enc r) (enc_byt r), hd, m37_eq (enc_byt r) (enc_byt r), m11_eq (enc r) (enc r) (by rw [enc_len]; omega)]
  · rfl
theorem o3_eq : o3 true = ⟨.b true, [], 0⟩ := by kernel_rfl
theorem byt_of {l : List Int} (h : ∀ a ∈ l, okB a) : Byt l := fun x hx => by
  have := h x hx
  unfold okB at this
  simp only [Lit.wf, Bool.and_eq_true, decide_eq_true_eq] at this
  have e1 : IntKind.u8.min = 0 := rfl
  have e2 : IntKind.u8.max = 255 := rfl
  omega
theorem law3 (r : Record) (l : List Int) (h : ∀ a ∈ l, okB a) : Iv.Fn Try.prog 3 [.agg (uni.cells 23 r), .sl 5 l] [] (fun a s => a = .b true ∧ s = []) :=
  (fn3 r l true (m3_eq r l (byt_of h))).2.law o3_eq (by kernel_rfl)
end Go.Proofs.Ytgdahkddhecloaa
