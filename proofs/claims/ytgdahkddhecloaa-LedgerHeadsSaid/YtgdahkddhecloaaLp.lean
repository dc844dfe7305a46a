/- Ledger: records and bytes. -/
import Derived.Test.YtgdahkddhecloaaLa
import Derived.Test.YtgdahkddhecloaaPl
set_option linter.unusedSectionVars false
set_option linter.unusedVariables false
set_option linter.unusedSimpArgs false
namespace Go.Proofs.Ytgdahkddhecloaa
open Go Go.Iv

/-- w bytes of a number, the most significant first -/
def be : Nat → Int → List Int
  | 0, _ => []
  | w + 1, n => IntKind.u8.wrap (bShr .i64 n (8 * w)) :: be w n
theorem be_len : ∀ w n, (be w n).length = w
  | 0, _ => rfl
  | w + 1, n => by simp [be, be_len w n]
theorem a31_eq (t1 n : Int) (t10 : List Int) (t11 t12 : Int) : ∀ (w : Nat) (b : List Int), w ≤ 8 → b.length + w ≤ 1000 → a31_1 ⟨b, t1, n, (w : Int) - 1, t10, t11, t12⟩ = some ⟨b ++ be w n, t1, n, -1, t10, t11, t12⟩
  | 0, b, _, _ => by
    rw [be, List.append_nil]
    exact advG_stop fun r => by simp [n31_1]
  | w + 1, b, hw, hb => by
    have ih := a31_eq t1 n t10 t11 t12 w (b ++ [IntKind.u8.wrap (bShr .i64 n (8 * w))]) (by omega) (by simp; omega)
    have e1 : IntKind.i64.wrap (8 * (((w + 1 : Nat) : Int) - 1)) = 8 * w := by rw [wrap_id (by omega) (by omega)]; omega
    have e2 : IntKind.i64.wrap ((((w + 1 : Nat) : Int) - 1) - 1) = (w : Int) - 1 := by rw [wrap_id (by omega) (by omega)]; omega
    have hs : n31_1 ⟨b, t1, n, ((w + 1 : Nat) : Int) - 1, t10, t11, t12⟩ = some (some ⟨b ++ [IntKind.u8.wrap (bShr .i64 n (8 * w))], t1, n, (w : Int) - 1, t10, t11, t12⟩) := by
      unfold n31_1
      dsimp only
      rw [e1, e2, decide_eq_true (show (0 : Int) ≤ ((w + 1 : Nat) : Int) - 1 by omega), cond_true, if_pos (by omega), if_pos (by simp; omega)]
    have := advG_step hs
    show advG n31_1 _ = _
    rw [this]
    show a31_1 _ = _
    rw [ih, be, List.append_assoc]
    rfl
theorem a38_eq (n : Int) : ∀ (w : Nat) (b : List Int), w ≤ 8 → b.length + w ≤ 1000 → a38_0 ⟨b, n, (w : Int) - 1⟩ = some ⟨b ++ be w n, n, -1⟩
  | 0, b, _, _ => by
    rw [be, List.append_nil]
    exact advG_stop fun r => by simp [n38_0]
  | w + 1, b, hw, hb => by
    have ih := a38_eq n w (b ++ [IntKind.u8.wrap (bShr .i64 n (8 * w))]) (by omega) (by simp; omega)
    have e1 : IntKind.i64.wrap (8 * (((w + 1 : Nat) : Int) - 1)) = 8 * w := by rw [wrap_id (by omega) (by omega)]; omega
    have e2 : IntKind.i64.wrap ((((w + 1 : Nat) : Int) - 1) - 1) = (w : Int) - 1 := by rw [wrap_id (by omega) (by omega)]; omega
    have hs : n38_0 ⟨b, n, ((w + 1 : Nat) : Int) - 1⟩ = some (some ⟨b ++ [IntKind.u8.wrap (bShr .i64 n (8 * w))], n, (w : Int) - 1⟩) := by
      unfold n38_0
      dsimp only
      rw [e1, e2, decide_eq_true (show (0 : Int) ≤ ((w + 1 : Nat) : Int) - 1 by omega), cond_true, if_pos (by omega), if_pos (by simp; omega)]
    show advG n38_0 _ = _
    rw [advG_step hs]
    show a38_0 _ = _
    rw [ih, be, List.append_assoc]
    rfl
theorem m38_eq (n : Int) (w : Nat) (b : List Int) (hw : w ≤ 8) (hb : b.length + w ≤ 1000) : m38 n w b = some (b ++ be w n) := by
  have e2 : IntKind.i64.wrap ((w : Int) - 1) = (w : Int) - 1 := wrap_id (by omega) (by omega)
  unfold m38
  rw [e2, a38_eq n w b hw hb]
  rfl
theorem m31_eq (n : Int) (w : Nat) (b : List Int) (hw : w ≤ 8) (hb : b.length + w ≤ 1000) : m31 w b [n] = some (b ++ be w n, [n]) := by
  have e2 : IntKind.i64.wrap ((w : Int) - 1) = (w : Int) - 1 := wrap_id (by omega) (by omega)
  have e3 : IntKind.i64.wrap (0 + 1) = 1 := wrap_id (by omega) (by omega)
  have hs : n31_0 ⟨b, w, [n], 1, 0⟩ = some (some ⟨b ++ be w n, w, [n], 1, 1⟩) := by
    unfold n31_0
    simp only [List.length_singleton]
    simp [e2, a31_eq _ n _ _ _ w b hw hb]
    exact e3
  have h1 : a31_0 ⟨b, w, [n], 1, 0⟩ = some ⟨b ++ be w n, w, [n], 1, 1⟩ := by
    show advG n31_0 _ = _
    rw [advG_step hs]
    exact advG_stop fun r => by simp [n31_0]
  unfold m31
  have h2 : ((([n] : List Int).length : Nat) : Int) = 1 := rfl
  rw [h2, h1]
  rfl
def pad (b : List Int) : List Int := b ++ List.replicate (96 - b.length) 0
theorem m32_eq (b : List Int) (h : b.length ≤ 96) : m32 b = some (pad b) := by
  have e : IntKind.i64.wrap (96 - (b.length : Int)) = 96 - b.length := wrap_id (by omega) (by omega)
  have e2 : (96 - (b.length : Int)).toNat = 96 - b.length := by omega
  unfold m32 pad
  rw [e, e2, if_pos (by omega), if_pos (by simp; omega)]
theorem m39_eq (b : List Int) (h : b.length ≤ 96) : m39 b = some (pad b) := m32_eq b h
/-- the fields -/
abbrev fs (r : Record) : List Int := [r.fEpoch, r.fSeq, r.fSecret, r.fClient, r.fNumber, r.fProgram, r.fPublic, r.fAnswer, r.fCharge]
def enc (r : Record) : List Int := pad ([1] ++ be 4 r.fEpoch ++ be 4 r.fSeq ++ be 4 r.fSecret ++ be 4 r.fClient ++ be 4 r.fNumber ++ be 4 r.fProgram ++ be 4 r.fPublic ++ be 4 r.fAnswer ++ be 4 r.fCharge)
def okF (n : Int) : Bool := decide (0 ≤ n ∧ n ≤ 2147483647)
def okR (r : Record) : Bool := okF r.fEpoch && okF r.fSeq && okF r.fSecret && okF r.fClient && okF r.fNumber && okF r.fProgram && okF r.fPublic && okF r.fAnswer && okF r.fCharge
theorem m30_eq (n : Int) : m30 n = okF n := by
  unfold m30 okF
  by_cases h : 0 ≤ n <;> simp [h]
theorem enc_len (r : Record) : (enc r).length = 96 := by simp [enc, pad, be_len]
theorem m8_eq (r : Record) : m8 r = some (if okR r then (enc r, 0) else ([], 1)) := by
  unfold m8 okR
  simp only [m29, m30_eq]
  have h4 : (4 : Int) = ((4 : Nat) : Int) := rfl
  rw [h4]
  repeat (rw [m31_eq _ 4 _ (by omega) (by simp [be_len])]; dsimp only)
  rw [m32_eq _ (by simp [be_len])]
  cases okF r.fEpoch <;> cases okF r.fSeq <;> cases okF r.fSecret <;> cases okF r.fClient <;> cases okF r.fNumber <;> cases okF r.fProgram <;> cases okF r.fPublic <;> cases okF r.fAnswer <;> cases okF r.fCharge <;> rfl
end Go.Proofs.Ytgdahkddhecloaa
