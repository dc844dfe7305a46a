/- The operations that only compute or read. Program-independent. -/
import Derived.Test.YtfipaakafcjjhaaAb1
import Derived.WalkLawsBesides
import Derived.Laws.Tables
import Derived.Laws.PanicsMore
set_option linter.unusedSectionVars false
set_option linter.unusedVariables false
set_option linter.unusedSimpArgs false
namespace Go.Ab
open Go Go.RowKit

/-- integers wrapped to 64 bits -/
def w64 (n : Int) : Int := IntKind.i64.wrap n
theorem w64_eq {n : Int} (h : -9223372036854775808 ≤ n ∧ n ≤ 9223372036854775807) : w64 n = n := IntWalk.i64_in n h
def bAnd (k : IntKind) (x y : Int) : Int := k.wrap ((BitVec.ofInt k.bits x &&& BitVec.ofInt k.bits y).toNat)
def bOr (k : IntKind) (x y : Int) : Int := k.wrap ((BitVec.ofInt k.bits x ||| BitVec.ofInt k.bits y).toNat)
def bXor (k : IntKind) (x y : Int) : Int := k.wrap ((BitVec.ofInt k.bits x ^^^ BitVec.ofInt k.bits y).toNat)
def bClr (k : IntKind) (x y : Int) : Int := k.wrap ((BitVec.ofInt k.bits x &&& ~~~ BitVec.ofInt k.bits y).toNat)
def bShl (k : IntKind) (x y : Int) : Int := k.wrap (x * 2 ^ (min y.toNat k.bits))
def bShr (k : IntKind) (x y : Int) : Int := x.fdiv (2 ^ (min y.toNat k.bits))

abbrev AV.i (n : Int) : AV := .lit (.int .i64 n)
abbrev AV.n (k : IntKind) (n : Int) : AV := .lit (.int k n)
abbrev AV.b (b : Bool) : AV := .lit (.bool b)
abbrev AV.s (s : ByteArray) : AV := .lit (.string s)

section
variable {A : Nat → Prop} {w : World} {as bs : List AV} {us vs : List Value} {a : AV} {v : Value}
theorem RelL.nil : RelL A w [] [] := ⟨rfl, fun j a v h => by cases h⟩
theorem RelL.cons (h : Rel A w a v) (hs : RelL A w as us) : RelL A w (a :: as) (v :: us) := by
  refine ⟨by simp [hs.1], fun j x y h1 h2 => ?_⟩
  cases j with
  | zero => simp at h1 h2; subst h1 h2; exact h
  | succ j => exact hs.2 j x y (by simpa using h1) (by simpa using h2)
theorem RelL.head (h : RelL A w (a :: as) us) : ∃ v us', us = v :: us' ∧ Rel A w a v ∧ RelL A w as us' := by
  match us, h with
  | [], h => exact absurd h.1 (by simp)
  | v :: us', h => exact ⟨v, us', rfl, h.2 0 a v rfl rfl, by simpa using h.1, fun j x y h1 h2 => h.2 (j + 1) x y (by simpa using h1) (by simpa using h2)⟩
theorem RelL.app (h : RelL A w as us) (h' : RelL A w bs vs) : RelL A w (as ++ bs) (us ++ vs) := by
  refine ⟨by simp [h.1, h'.1], fun j x y h1 h2 => ?_⟩
  rw [List.getElem?_append] at h1 h2
  rw [h.1] at h2
  split at h1
  · rw [if_pos (by assumption)] at h2; exact h.2 j x y h1 h2
  · rw [if_neg (by assumption)] at h2; exact h'.2 _ x y h1 h2
theorem RelL.take (n : Nat) (h : RelL A w as us) : RelL A w (as.take n) (us.take n) := by
  refine ⟨by simp [h.1], fun j x y h1 h2 => ?_⟩
  rw [List.getElem?_take] at h1 h2
  split at h1
  · rw [if_pos (by assumption)] at h2; exact h.2 j x y h1 h2
  · cases h1
theorem RelL.drop (n : Nat) (h : RelL A w as us) : RelL A w (as.drop n) (us.drop n) := by
  refine ⟨by simp [h.1], fun j x y h1 h2 => ?_⟩
  rw [List.getElem?_drop] at h1 h2
  exact h.2 _ x y h1 h2
theorem RelL.get (h : RelL A w as us) {j : Nat} (hj : as[j]? = some a) : ∃ v, us[j]? = some v ∧ Rel A w a v := by
  have hlt : j < us.length := by rw [h.1]; exact (List.getElem?_eq_some_iff.1 hj).1
  exact ⟨us[j], List.getElem?_eq_getElem hlt, h.2 j a _ hj (List.getElem?_eq_getElem hlt)⟩
theorem RelL.set {j : Nat} (h : RelL A w as us) (hr : Rel A w a v) : RelL A w (as.set j a) (us.set j v) := by
  refine ⟨by simp [h.1], fun i x y h1 h2 => ?_⟩
  rw [List.getElem?_set] at h1 h2
  split at h1
  · rename_i hji
    rw [if_pos hji] at h2
    split at h1
    · rw [if_pos (by rw [h.1]; assumption)] at h2
      cases h1; cases h2
      exact hr
    · cases h1
  · rw [if_neg (by assumption)] at h2
    exact h.2 i x y h1 h2
theorem RelL.lits (us : List Value) : RelL A w (us.map .lit) us := ⟨by simp, fun j a v h1 h2 => by
  rw [List.getElem?_map, h2] at h1
  cases h1
  exact .lit v⟩
theorem Rel.aggL {cs : List AV} (h : RelL A w cs us) : Rel A w (.agg cs) (.agg us.toArray) := .agg cs us h.1 h.2
theorem Rel.tupL {cs : List AV} (h : RelL A w cs us) : Rel A w (.tup cs) (.tuple us.toArray) := .tup cs us h.1 h.2
end

section
variable {A : Nat → Prop} {w : World} {v : Value} {cs : List AV}
theorem Rel.aggInv (h : Rel A w (.agg cs) v) : ∃ us : List Value, v = .agg us.toArray ∧ RelL A w cs us := by
  generalize ha : AV.agg cs = a at h
  cases h with
  | agg cs us hl hr => cases ha; exact ⟨us, rfl, hl, hr⟩
  | _ => cases ha
theorem Rel.tupInv (h : Rel A w (.tup cs) v) : ∃ us : List Value, v = .tuple us.toArray ∧ RelL A w cs us := by
  generalize ha : AV.tup cs = a at h
  cases h with
  | tup cs us hl hr => cases ha; exact ⟨us, rfl, hl, hr⟩
  | _ => cases ha
theorem Rel.fnInv {f : Fn} (h : Rel A w (.fn f cs) v) : ∃ us : List Value, v = .func f #[] us.toArray ∧ RelL A w cs us := by
  generalize ha : AV.fn f cs = a at h
  cases h with
  | fn f cs us hl hr => cases ha; exact ⟨us, rfl, hl, hr⟩
  | _ => cases ha
theorem Rel.fpInv (h : Rel A w (.fp cs) v) : ∃ b o us, v = .pointer (some ⟨b, o, none⟩) ∧ b < w.heap.size ∧ AF A w b ∧ (∀ (j : Nat) u, us[j]? = some u → w.cell? ⟨b, o + j, none⟩ = some u) ∧ RelL A w cs us := by
  generalize ha : AV.fp cs = a at h
  cases h with
  | fp cs b o us hb hA hl hc hr => cases ha; exact ⟨b, o, us, rfl, hb, hA, hc, hl, hr⟩
  | _ => cases ha
theorem Rel.rpInv {u : Value} {k : Nat} (h : Rel A w (.rp u k) v) : ∃ g, rblk u = some g ∧ v = .pointer (some ⟨g, k, none⟩) := by
  generalize ha : AV.rp u k = a at h
  cases h with
  | rp u k g h => cases ha; exact ⟨g, h, rfl⟩
  | _ => cases ha
theorem Rel.slInv {α : Type} [Inhabited α] {sz : Nat} {c : α → List AV} {l : List α} (h : Rel A w (.sl sz c l) v) : ∃ p cap, ∃ u : Nat → Nat → Value, v = .slice p l.length cap ∧ l.length ≤ 9223372036854775807 ∧ l.length ≤ cap ∧ (∀ i, i < l.length → (c l[i]!).length = sz) ∧
    (∀ i, i < l.length → ∃ b off, p = some ⟨b, off, none⟩ ∧ b < w.heap.size ∧ AF A w b ∧ ∀ j, j < sz → w.cell? ⟨b, off + i * sz + j, none⟩ = some (u i j)) ∧ ∀ i j a, i < l.length → (c l[i]!)[j]? = some a → Rel A w a (u i j) := by
  generalize ha : AV.sl sz c l = a at h
  cases h with
  | sl sz c l p cap u hl hcap hz hc hr =>
    cases ha
    exact ⟨p, cap, u, rfl, hl, hcap, hz, hc, hr⟩
  | _ => cases ha
/-- the cells of an element -/
theorem Rel.slAt {α : Type} [Inhabited α] {sz : Nat} {c : α → List AV} {l : List α} {p : Option Addr} {n cap : Nat} (h : Rel A w (.sl sz c l) (.slice p n cap)) {i : Nat} (hi : i < l.length) :
    ∃ b off us, p = some ⟨b, off, none⟩ ∧ b < w.heap.size ∧ AF A w b ∧ us.length = sz ∧ (∀ (j : Nat) u, us[j]? = some u → w.cell? ⟨b, off + i * sz + j, none⟩ = some u) ∧ RelL A w (c l[i]!) us := by
  obtain ⟨p', cap', u, hv, _, _, h1, h2, h3⟩ := h.slInv
  cases hv
  obtain ⟨b, off, hp, hb, hA, hc⟩ := h2 i hi
  refine ⟨b, off, (List.range sz).map (u i), hp, hb, hA, by simp, fun j v hj => ?_, by rw [List.length_map, List.length_range, h1 i hi], fun j a v ha hv => ?_⟩
  · rw [List.getElem?_map] at hj
    by_cases hlt : j < sz
    · rw [List.getElem?_range hlt] at hj
      cases hj
      exact hc j hlt
    · rw [List.getElem?_eq_none (by simpa using hlt)] at hj
      cases hj
  · have hlt : j < sz := by rw [← h1 i hi]; exact (List.getElem?_eq_some_iff.1 ha).1
    rw [List.getElem?_map, List.getElem?_range hlt] at hv
    cases hv
    exact h3 i j a hi ha
end

theorem RowIs.len {w : World} {v : Value} {T : TypeId} {sz n : Nat} {us : List Value} (h : RowIs w v T sz n us) : ∃ p cap, v = .slice p n cap ∧ n ≤ cap := by
  rcases h.2 with ⟨p, rfl, rfl⟩ | ⟨g, cap, cur, rfl, hg, h1, _⟩
  · exact ⟨p, 0, rfl, Nat.le_refl _⟩
  · exact ⟨_, _, rfl, h1⟩
theorem RowIs.at {w : World} {v : Value} {T : TypeId} {sz n : Nat} {us : List Value} (h : RowIs w v T sz n us) (hn : 0 < n) : ∃ g cap cur, v = .slice (some ⟨g, 0, none⟩) n (cap + 1) ∧ rblk v = some g ∧ Blk w g cur T ∧ n ≤ cap + 1 ∧ cap + 1 ≤ maxLen ∧ cur.size = (cap + 1) * sz ∧ cur.toList.take (n * sz) = us := by
  rcases h.2 with ⟨p, rfl, rfl⟩ | ⟨g, cap, cur, rfl, hg, h1⟩
  · cases hn
  · exact ⟨g, cap, cur, rfl, rfl, hg, h1⟩
theorem RowIs.cells {w : World} {v : Value} {T : TypeId} {sz n : Nat} {us : List Value} (h : RowIs w v T sz n us) {g : Nat} (hg : rblk v = some g) : ∀ (j : Nat) u, us[j]? = some u → w.cell? ⟨g, j, none⟩ = some u := fun j u hj => by
  rcases h.2 with ⟨p, rfl, rfl⟩ | ⟨g', cap, cur, rfl, q1, _, _, _, q2⟩
  · cases p <;> cases hg
  · cases hg
    rw [← q2, List.getElem?_take] at hj
    split at hj
    · exact Blk.cell q1 (by simpa using hj)
    · cases hj

def Env.evl (E : Env) : List Operand → Option (List AV)
  | [] => some []
  | x :: xs => match E.ev x, Env.evl E xs with
    | some a, some as => some (a :: as)
    | _, _ => none
theorem Env.evl_rel {A : Nat → Prop} {w : World} {E : Env} {ρ : Operand → Value} (h : Ops A w E ρ) : ∀ {xs : List Operand} {as : List AV}, E.evl xs = some as → RelL A w as (xs.map ρ)
  | [], as, he => by cases he; exact RelL.nil
  | x :: xs, as, he => by
    unfold Env.evl at he
    cases h1 : E.ev x with
    | none => rw [h1] at he; cases he
    | some a =>
      cases h2 : E.evl xs with
      | none => rw [h1, h2] at he; cases he
      | some as' =>
        rw [h1, h2] at he
        cases he
        exact RelL.cons (h x a h1) (Env.evl_rel h h2)

section
variable {P : Program} {E : Env} {σ : List Res} {o : Oper} {T T' e : TypeId} {x y z : Operand} {av bv : AV} {v u : Value} {m n : Int} {b : Bool} {k : IntKind}

theorem Yp.lits (h : ∀ ρ : Operand → Value, (∀ x u, E.ev x = some (.lit u) → ρ x = u) → ∀ w, (execOp ρ o).run P w = .ok (.value v) w) : Yp P E σ o (.lit v) := fun A w ρ _ hρ =>
  ⟨v, .lit v, fun w' _ => h ρ (fun x u hx => (hρ x _ hx).litEq) w'⟩

theorem Yp.eq (h : Yp P E σ o av) (he : av = bv) : Yp P E σ o bv := he ▸ h

theorem Yp.move (ho : o.op = .move x) (hx : E.ev x = some av) : Yp P E σ o av := fun A w ρ _ hρ =>
  ⟨ρ x, hρ _ _ hx, fun w' _ => by simp [execOp, ho]⟩
theorem Yp.assign (ho : o.op = .assign x) (hx : E.ev x = some av) : Yp P E σ o av := fun A w ρ _ hρ =>
  ⟨ρ x, hρ _ _ hx, fun w' _ => by simp [execOp, ho]⟩
theorem Yp.pickT (ho : o.op = .pick z x y) (hc : E.ev z = some (.b true)) (hx : E.ev x = some av) : Yp P E σ o av := fun A w ρ _ hρ =>
  ⟨ρ x, hρ _ _ hx, fun w' _ => by simp [execOp, ho, (hρ _ _ hc).litEq, asBool]⟩
theorem Yp.pickF (ho : o.op = .pick z x y) (hc : E.ev z = some (.b false)) (hx : E.ev y = some av) : Yp P E σ o av := fun A w ρ _ hρ =>
  ⟨ρ y, hρ _ _ hx, fun w' _ => by simp [execOp, ho, (hρ _ _ hc).litEq, asBool]⟩

theorem Yp.add (ho : o.op = .binOp .add T x y T') (hx : E.ev x = some (.n k m)) (hy : E.ev y = some (.n k n)) : Yp P E σ o (.n k (k.wrap (m + n))) := Yp.lits fun ρ hρ w => by
  simp [execOp, ho, hρ _ _ hx, hρ _ _ hy, eqGuard, binOp, Op.intArith]
theorem Yp.sub (ho : o.op = .binOp .sub T x y T') (hx : E.ev x = some (.n k m)) (hy : E.ev y = some (.n k n)) : Yp P E σ o (.n k (k.wrap (m - n))) := Yp.lits fun ρ hρ w => by
  simp [execOp, ho, hρ _ _ hx, hρ _ _ hy, eqGuard, binOp, Op.intArith]
theorem Yp.mul (ho : o.op = .binOp .mul T x y T') (hx : E.ev x = some (.n k m)) (hy : E.ev y = some (.n k n)) : Yp P E σ o (.n k (k.wrap (m * n))) := Yp.lits fun ρ hρ w => by
  simp [execOp, ho, hρ _ _ hx, hρ _ _ hy, eqGuard, binOp, Op.intArith]
theorem Yp.quo (ho : o.op = .binOp .quo T x y T') (hx : E.ev x = some (.n k m)) (hy : E.ev y = some (.n k n)) (h : n ≠ 0) : Yp P E σ o (.n k (k.wrap (m.tdiv n))) := Yp.lits fun ρ hρ w => by
  simp [execOp, ho, hρ _ _ hx, hρ _ _ hy, eqGuard, binOp, Op.intDiv, h]
theorem Yp.rem (ho : o.op = .binOp .rem T x y T') (hx : E.ev x = some (.n k m)) (hy : E.ev y = some (.n k n)) (h : n ≠ 0) : Yp P E σ o (.n k (m.tmod n)) := Yp.lits fun ρ hρ w => by
  simp [execOp, ho, hρ _ _ hx, hρ _ _ hy, eqGuard, binOp, Op.intDiv, h]
theorem Yp.and (ho : o.op = .binOp .and T x y T') (hx : E.ev x = some (.n k m)) (hy : E.ev y = some (.n k n)) : Yp P E σ o (.n k (bAnd k m n)) := Yp.lits fun ρ hρ w => by
  simp [execOp, ho, hρ _ _ hx, hρ _ _ hy, eqGuard, binOp, Op.intBits, bAnd]
theorem Yp.or (ho : o.op = .binOp .or T x y T') (hx : E.ev x = some (.n k m)) (hy : E.ev y = some (.n k n)) : Yp P E σ o (.n k (bOr k m n)) := Yp.lits fun ρ hρ w => by
  simp [execOp, ho, hρ _ _ hx, hρ _ _ hy, eqGuard, binOp, Op.intBits, bOr]
theorem Yp.xor (ho : o.op = .binOp .xor T x y T') (hx : E.ev x = some (.n k m)) (hy : E.ev y = some (.n k n)) : Yp P E σ o (.n k (bXor k m n)) := Yp.lits fun ρ hρ w => by
  simp [execOp, ho, hρ _ _ hx, hρ _ _ hy, eqGuard, binOp, Op.intBits, bXor]
theorem Yp.andNot (ho : o.op = .binOp .andNot T x y T') (hx : E.ev x = some (.n k m)) (hy : E.ev y = some (.n k n)) : Yp P E σ o (.n k (bClr k m n)) := Yp.lits fun ρ hρ w => by
  simp [execOp, ho, hρ _ _ hx, hρ _ _ hy, eqGuard, binOp, Op.intBits, bClr]
theorem Yp.shl {k' : IntKind} (ho : o.op = .binOp .shl T x y T') (hx : E.ev x = some (.n k m)) (hy : E.ev y = some (.n k' n)) (h : 0 ≤ n) : Yp P E σ o (.n k (bShl k m n)) := Yp.lits fun ρ hρ w => by
  have : ¬ n < 0 := by omega
  simp [execOp, ho, hρ _ _ hx, hρ _ _ hy, eqGuard, binOp, Op.shift, bShl, this]
theorem Yp.shr {k' : IntKind} (ho : o.op = .binOp .shr T x y T') (hx : E.ev x = some (.n k m)) (hy : E.ev y = some (.n k' n)) (h : 0 ≤ n) : Yp P E σ o (.n k (bShr k m n)) := Yp.lits fun ρ hρ w => by
  have : ¬ n < 0 := by omega
  simp [execOp, ho, hρ _ _ hx, hρ _ _ hy, eqGuard, binOp, Op.shift, bShr, this]
theorem Yp.lss (ho : o.op = .binOp .lss T x y T') (hx : E.ev x = some (.n k m)) (hy : E.ev y = some (.n k n)) : Yp P E σ o (.b (decide (m < n))) := Yp.lits fun ρ hρ w => by
  simp [execOp, ho, hρ _ _ hx, hρ _ _ hy, eqGuard, binOp, Op.intCmp]
theorem Yp.leq (ho : o.op = .binOp .leq T x y T') (hx : E.ev x = some (.n k m)) (hy : E.ev y = some (.n k n)) : Yp P E σ o (.b (decide (m ≤ n))) := Yp.lits fun ρ hρ w => by
  simp [execOp, ho, hρ _ _ hx, hρ _ _ hy, eqGuard, binOp, Op.intCmp]
theorem Yp.gtr (ho : o.op = .binOp .gtr T x y T') (hx : E.ev x = some (.n k m)) (hy : E.ev y = some (.n k n)) : Yp P E σ o (.b (decide (n < m))) := Yp.lits fun ρ hρ w => by
  simp [execOp, ho, hρ _ _ hx, hρ _ _ hy, eqGuard, binOp, Op.intCmp]
theorem Yp.geq (ho : o.op = .binOp .geq T x y T') (hx : E.ev x = some (.n k m)) (hy : E.ev y = some (.n k n)) : Yp P E σ o (.b (decide (n ≤ m))) := Yp.lits fun ρ hρ w => by
  simp [execOp, ho, hρ _ _ hx, hρ _ _ hy, eqGuard, binOp, Op.intCmp]
theorem Yp.eql (ho : o.op = .binOp .eql T x y T') (hx : E.ev x = some (.n k m)) (hy : E.ev y = some (.n k n)) : Yp P E σ o (.b (decide (m = n))) := Yp.lits fun ρ hρ w => by
  have : (m == n) = decide (m = n) := rfl
  simp [execOp, ho, hρ _ _ hx, hρ _ _ hy, eqGuard, binOp, Op.intCmp, this]
theorem Yp.neq (ho : o.op = .binOp .neq T x y T') (hx : E.ev x = some (.n k m)) (hy : E.ev y = some (.n k n)) : Yp P E σ o (.b (!decide (m = n))) := Yp.lits fun ρ hρ w => by
  have : (m != n) = !decide (m = n) := rfl
  simp [execOp, ho, hρ _ _ hx, hρ _ _ hy, eqGuard, binOp, Op.intCmp, this]
theorem Yp.not (ho : o.op = .unOp .not T x) (hx : E.ev x = some (.b b)) : Yp P E σ o (.b (!b)) := Yp.lits fun ρ hρ w => by
  simp [execOp, ho, hρ _ _ hx, Op.unary]
theorem Yp.neg (ho : o.op = .unOp .neg T x) (hx : E.ev x = some (.n k n)) : Yp P E σ o (.n k (k.wrap (0 - n))) := Yp.lits fun ρ hρ w => by
  simp [execOp, ho, hρ _ _ hx, Op.unary, Op.intArith]
theorem Yp.max (ho : o.op = .call { callee := .builtin .max, args := #[x, y], argTypes := #[T, T'] }) (hx : E.ev x = some (.n k m)) (hy : E.ev y = some (.n k n)) : Yp P E σ o (.n k (if m < n then n else m)) := Yp.lits fun ρ hρ w => by
  simp [execOp, ho, resolve, invoke, builtin, Builtin.max_, Builtin.max2, hρ _ _ hx, hρ _ _ hy]
theorem Yp.min (ho : o.op = .call { callee := .builtin .min, args := #[x, y], argTypes := #[T, T'] }) (hx : E.ev x = some (.n k m)) (hy : E.ev y = some (.n k n)) : Yp P E σ o (.n k (if n < m then n else m)) := Yp.lits fun ρ hρ w => by
  simp [execOp, ho, resolve, invoke, builtin, Builtin.min_, Builtin.min2, hρ _ _ hx, hρ _ _ hy]

theorem Yp.lenNil (ho : o.op = .call { callee := .builtin .len, args := #[x], argTypes := #[T] }) (hx : E.ev x = some (.lit (.slice none 0 0))) (hT : P.underlying T = some (.slice e)) : Yp P E σ o (.i 0) := Yp.lits fun ρ hρ w => by
  simp [execOp, ho, resolve, invoke, builtin, Builtin.len_, hρ _ _ hx, run_underlying hT, goInt]
theorem Yp.lenSl {α : Type} [Inhabited α] {sz : Nat} {c : α → List AV} {l : List α} (ho : o.op = .call { callee := .builtin .len, args := #[x], argTypes := #[T] }) (hx : E.ev x = some (.sl sz c l)) (hT : P.underlying T = some (.slice e)) : Yp P E σ o (.i (l.length : Int)) := fun A w ρ _ hρ => by
  obtain ⟨p, cap, u, hv, _⟩ := (hρ _ _ hx).slInv
  exact ⟨_, .lit _, fun w' _ => by simp [execOp, ho, resolve, invoke, builtin, Builtin.len_, hv, run_underlying hT, goInt]⟩
theorem Yp.lenRow {α : Type} [Inhabited α] {sz : Nat} {c : α → List AV} {l : List α} {t : TypeId} (i : Nat) (ho : o.op = .call { callee := .builtin .len, args := #[x], argTypes := #[T] }) (hx : E.ev x = some (.lit v)) (hσ : σ[i]? = some (.row v t sz c l)) (hT : P.underlying T = some (.slice e)) : Yp P E σ o (.i (l.length : Int)) := fun A w ρ hd hρ => by
  obtain ⟨us, h1, _⟩ := hd.1 _ (List.mem_of_getElem? hσ)
  obtain ⟨p, cap, hv, _⟩ := h1.len
  have hx' := (hρ _ _ hx).litEq
  exact ⟨_, .lit _, fun w' _ => by simp [execOp, ho, resolve, invoke, builtin, Builtin.len_, hx', hv, run_underlying hT, goInt]⟩
theorem Yp.lenStr {s : ByteArray} (ho : o.op = .call { callee := .builtin .len, args := #[x], argTypes := #[T] }) (hx : E.ev x = some (.s s)) (hT : P.underlying T = some .string) : Yp P E σ o (.i (s.size : Int)) := Yp.lits fun ρ hρ w => by
  simp [execOp, ho, resolve, invoke, builtin, Builtin.len_, hρ _ _ hx, goInt, run_underlying hT]

theorem Yp.func {fn : Fn} {fs cs : Array Operand} {as : List AV} (ho : o.op = .makeFunc fn fs cs) (h0 : fs = #[]) (hc : E.evl cs.toList = some as) : Yp P E σ o (.fn fn as) := fun A w ρ _ hρ => by
  have h := Env.evl_rel hρ hc
  exact ⟨_, .fn fn as _ h.1 h.2, fun w' _ => by
    have : cs.map ρ = (cs.toList.map ρ).toArray := by apply Array.ext'; simp
    simp [execOp, ho, Instr.makeFunc, h0, this]⟩
theorem Yp.extract {i : Nat} {cs : List AV} (ho : o.op = .extract x i) (hx : E.ev x = some (.tup cs)) (hv : cs[i]? = some av) : Yp P E σ o av := fun A w ρ _ hρ => by
  obtain ⟨us, h1, h2⟩ := (hρ _ _ hx).tupInv
  obtain ⟨v, h3, h4⟩ := h2.get hv
  exact ⟨v, h4, fun w' _ => by simp [execOp, ho, Instr.extract, h1, h3]⟩

theorem Yp.nilCheckP {a : Addr} (ho : o.op = .nilCheck x) (hx : E.ev x = some (.lit (.pointer (some a)))) : Yp P E σ o (.lit (.pointer (some a))) := Yp.lits fun ρ hρ w => by
  simp [execOp, ho, hρ _ _ hx]
theorem Yp.nilCheckF {cs : List AV} (ho : o.op = .nilCheck x) (hx : E.ev x = some (.fp cs)) : Yp P E σ o (.fp cs) := fun A w ρ _ hρ => by
  obtain ⟨b, of, us, h1, _⟩ := (hρ _ _ hx).fpInv
  exact ⟨ρ x, hρ _ _ hx, fun w' _ => by simp [execOp, ho, h1]⟩
theorem Yp.nilCheckR {k : Nat} (ho : o.op = .nilCheck x) (hx : E.ev x = some (.rp v k)) : Yp P E σ o (.rp v k) := fun A w ρ _ hρ => by
  obtain ⟨g, _, h1⟩ := (hρ _ _ hx).rpInv
  exact ⟨ρ x, hρ _ _ hx, fun w' _ => by simp [execOp, ho, h1]⟩

/-! ### addresses -/

theorem add0 (b of k : Nat) : (⟨b, of, none⟩ : Addr).add k = ⟨b, of + k, none⟩ := by unfold Addr.add; split <;> simp_all

theorem Yp.fieldP {fs : Array Field} {f : Field} {i b' of sz : Nat} (ho : o.op = .fieldAddr T x i) (hx : E.ev x = some (.lit (.pointer (some ⟨b', of, none⟩)))) (hT : P.underlying T = some (.struct fs)) (hf : fs[i]? = some f) (hs : (P.info? f.type).map (·.size) = some (sz + 1)) :
    Yp P E σ o (.lit (.pointer (some ⟨b', of + f.offset, none⟩))) := Yp.lits fun ρ hρ w => by
  obtain ⟨j, hj, hj'⟩ := Option.map_eq_some_iff.1 hs
  simp [execOp, ho, Instr.fieldAt, hρ _ _ hx, run_underlying hT, hf, Instr.sureAddr, fieldPlace, sizeOf, typeInfo, hj, hj', add0]
theorem Yp.fieldF {fs : Array Field} {f : Field} {i sz : Nat} {cs : List AV} (ho : o.op = .fieldAddr T x i) (hx : E.ev x = some (.fp cs)) (hT : P.underlying T = some (.struct fs)) (hf : fs[i]? = some f) (hs : (P.info? f.type).map (·.size) = some (sz + 1)) :
    Yp P E σ o (.fp (cs.drop f.offset)) := fun A w ρ _ hρ => by
  obtain ⟨j, hj, hj'⟩ := Option.map_eq_some_iff.1 hs
  obtain ⟨b, of, us, h1, hb, hA, hc, hr⟩ := (hρ _ _ hx).fpInv
  refine ⟨_, .fp _ b (of + f.offset) (us.drop f.offset) hb hA (hr.drop _).1 (fun j v hj => ?_) (hr.drop _).2, fun w' _ => by simp [execOp, ho, Instr.fieldAt, h1, run_underlying hT, hf, Instr.sureAddr, fieldPlace, sizeOf, typeInfo, hj, hj', add0]⟩
  rw [List.getElem?_drop] at hj
  rw [Nat.add_assoc]
  exact hc _ v hj
theorem Yp.fieldR {fs : Array Field} {f : Field} {i sz k : Nat} (ho : o.op = .fieldAddr T x i) (hx : E.ev x = some (.rp v k)) (hT : P.underlying T = some (.struct fs)) (hf : fs[i]? = some f) (hs : (P.info? f.type).map (·.size) = some (sz + 1)) :
    Yp P E σ o (.rp v (k + f.offset)) := fun A w ρ _ hρ => by
  obtain ⟨j, hj, hj'⟩ := Option.map_eq_some_iff.1 hs
  obtain ⟨g, h1, h2⟩ := (hρ _ _ hx).rpInv
  exact ⟨_, .rp v _ g h1, fun w' _ => by simp [execOp, ho, Instr.fieldAt, h2, run_underlying hT, hf, Instr.sureAddr, fieldPlace, sizeOf, typeInfo, hj, hj', add0]⟩

theorem Yp.indexSl {α : Type} [Inhabited α] {sz : Nat} {c : α → List AV} {l : List α} (ho : o.op = .indexAddr T x y) (hx : E.ev x = some (.sl sz c l)) (hy : E.ev y = some (.n k m)) (hT : P.underlying T = some (.slice e)) (hs : (P.info? e).map (·.size) = some sz)
    (hm : 0 ≤ m ∧ m < l.length) : Yp P E σ o (.fp (c l[m.toNat]!)) := fun A w ρ _ hρ => by
  obtain ⟨j, hj, hj'⟩ := Option.map_eq_some_iff.1 hs
  have hr := hρ _ _ hx
  obtain ⟨p, cap, _, hv, _⟩ := hr.slInv
  rw [hv] at hr
  obtain ⟨b, off, us, hp, hb, hA, hl, hc, hL⟩ := hr.slAt (i := m.toNat) (by omega)
  refine ⟨_, .fp _ b (off + m.toNat * sz) us hb hA hL.1 hc hL.2, fun w' _ => ?_⟩
  have hy' := (hρ _ _ hy).litEq
  simp [execOp, ho, Instr.indexAt, hv, hp, hy', run_underlying hT, sizeOf, typeInfo, hj, hj', add0, asIntOf, hm]
theorem Yp.indexRow {α : Type} [Inhabited α] {sz : Nat} {c : α → List AV} {l : List α} {t : TypeId} (i : Nat) (ho : o.op = .indexAddr T x y) (hx : E.ev x = some (.lit v)) (hσ : σ[i]? = some (.row v t sz c l)) (hy : E.ev y = some (.n k m)) (hT : P.underlying T = some (.slice e)) (hs : (P.info? e).map (·.size) = some sz)
    (hm : 0 ≤ m ∧ m < l.length) : Yp P E σ o (.rp v (m.toNat * sz)) := fun A w ρ hd hρ => by
  obtain ⟨j, hj, hj'⟩ := Option.map_eq_some_iff.1 hs
  obtain ⟨us, h1, _⟩ := hd.1 _ (List.mem_of_getElem? hσ)
  obtain ⟨g, cap, cur, hv, hg, _⟩ := h1.at (by omega)
  have hx' := (hρ _ _ hx).litEq
  have hy' := (hρ _ _ hy).litEq
  refine ⟨_, .rp v _ g hg, fun w' _ => ?_⟩
  simp [execOp, ho, Instr.indexAt, hx', hv, hy', run_underlying hT, sizeOf, typeInfo, hj, hj', add0, asIntOf, hm]
theorem Yp.indexP {b' of sz n' : Nat} (ho : o.op = .indexAddr T x y) (hx : E.ev x = some (.lit (.pointer (some ⟨b', of, none⟩)))) (hy : E.ev y = some (.n k m)) (hT : P.underlying T = some (.array n' e)) (hs : (P.info? e).map (·.size) = some sz)
    (hm : 0 ≤ m ∧ m < n') : Yp P E σ o (.lit (.pointer (some ⟨b', of + m.toNat * sz, none⟩))) := Yp.lits fun ρ hρ w => by
  obtain ⟨j, hj, hj'⟩ := Option.map_eq_some_iff.1 hs
  simp [execOp, ho, Instr.indexAt, hρ _ _ hx, hρ _ _ hy, run_underlying hT, sizeOf, typeInfo, hj, hj', add0, asIntOf, hm, Instr.sureAddr]
theorem Yp.indexR {k' sz n' : Nat} (ho : o.op = .indexAddr T x y) (hx : E.ev x = some (.rp v k')) (hy : E.ev y = some (.n k m)) (hT : P.underlying T = some (.array n' e)) (hs : (P.info? e).map (·.size) = some sz)
    (hm : 0 ≤ m ∧ m < n') : Yp P E σ o (.rp v (k' + m.toNat * sz)) := fun A w ρ _ hρ => by
  obtain ⟨j, hj, hj'⟩ := Option.map_eq_some_iff.1 hs
  obtain ⟨g, h1, h2⟩ := (hρ _ _ hx).rpInv
  have hy' := (hρ _ _ hy).litEq
  exact ⟨_, .rp v _ g h1, fun w' _ => by simp [execOp, ho, Instr.indexAt, h2, hy', run_underlying hT, sizeOf, typeInfo, hj, hj', add0, asIntOf, hm, Instr.sureAddr]⟩
theorem Yp.indexF {sz n' : Nat} {cs : List AV} (ho : o.op = .indexAddr T x y) (hx : E.ev x = some (.fp cs)) (hy : E.ev y = some (.n k m)) (hT : P.underlying T = some (.array n' e)) (hs : (P.info? e).map (·.size) = some sz)
    (hm : 0 ≤ m ∧ m < n') : Yp P E σ o (.fp (cs.drop (m.toNat * sz))) := fun A w ρ _ hρ => by
  obtain ⟨j, hj, hj'⟩ := Option.map_eq_some_iff.1 hs
  obtain ⟨b, of, us, h1, hb, hA, hc, hr⟩ := (hρ _ _ hx).fpInv
  have hy' := (hρ _ _ hy).litEq
  refine ⟨_, .fp _ b (of + m.toNat * sz) (us.drop (m.toNat * sz)) hb hA (hr.drop _).1 (fun j v hj => ?_) (hr.drop _).2, fun w' _ => by simp [execOp, ho, Instr.indexAt, h1, hy', run_underlying hT, sizeOf, typeInfo, hj, hj', add0, asIntOf, hm, Instr.sureAddr]⟩
  rw [List.getElem?_drop] at hj
  rw [Nat.add_assoc]
  exact hc _ v hj

/-! ### loads -/

/-- a type whose values lie in one cell -/
def isOne (P : Program) (T : TypeId) : Prop := ∃ d, P.underlying T = some d ∧ match d with | .struct _ | .array _ _ => False | _ => True

theorem run_isAgg_one (h : isOne P T) (w : World) : (isAgg T).run P w = .ok false w := by
  obtain ⟨d, hd, hm⟩ := h
  unfold isAgg
  cases d <;> first | exact hm.elim | simp [run_underlying hd]

theorem run_loadVar_one {w : World} {a : Addr} (h : isOne P T) (hc : w.cell? a = some v) : (loadVar T a).run P w = .ok v w := by
  unfold loadVar
  simp [run_isAgg_one h, load, Sem.run, hc]

/-- a type whose values lie in several cells -/
def isMany (P : Program) (T : TypeId) (k : Nat) : Prop := (∃ d, P.underlying T = some d ∧ match d with | .struct _ | .array _ _ => True | _ => False) ∧ (P.info? T).map (·.size) = some k

theorem run_isAgg_many {k : Nat} (h : isMany P T k) (w : World) : (isAgg T).run P w = .ok true w := by
  obtain ⟨⟨d, hd, hm⟩, _⟩ := h
  unfold isAgg
  cases d <;> first | exact hm.elim | simp [run_underlying hd]

theorem run_loadCellsFrom {w : World} (a : Addr) : ∀ (cs : List Value) (i : Nat) (acc : Array Value), (∀ j u, cs[j]? = some u → w.cell? (a.add (i + j)) = some u) → (loadCellsFrom a i cs.length acc).run P w = .ok (acc ++ cs.toArray) w
  | [], i, acc, _ => by simp [loadCellsFrom]
  | c :: cs, i, acc, h => by
    have h0 := h 0 c rfl
    rw [Nat.add_zero] at h0
    simp only [List.length_cons, loadCellsFrom]
    have ih := run_loadCellsFrom a cs (i + 1) (acc.push c) fun j u hj => by
      have := h (j + 1) u (by simpa using hj)
      rwa [show i + (j + 1) = i + 1 + j from by omega] at this
    simp [load, Sem.run, h0, ih]

theorem run_loadVar_many {w : World} {a : Addr} {cs : List Value} (h : isMany P T cs.length) (hc : ∀ j u, cs[j]? = some u → w.cell? (a.add j) = some u) : (loadVar T a).run P w = .ok (.agg cs.toArray) w := by
  obtain ⟨i, hi, hi'⟩ := Option.map_eq_some_iff.1 h.2
  have := run_loadCellsFrom (P := P) (w := w) a cs 0 #[] (by simpa using hc)
  unfold loadVar
  simp [run_isAgg_many h, sizeOf, typeInfo, hi, hi', loadCells, this]

theorem cell_same {w w' : World} {b o : Nat} (h : w'.heap[b]? = w.heap[b]?) : w'.cell? ⟨b, o, none⟩ = w.cell? ⟨b, o, none⟩ := by simp [World.cell?, h]

theorem Yp.loadF1 {cs : List AV} (ho : o.op = .load T x) (hx : E.ev x = some (.fp cs)) (hT : isOne P T) (ha : cs[0]? = some av) : Yp P E σ o av := fun A w ρ _ hρ => by
  obtain ⟨b, of, us, h1, hb, hA, hc, hr⟩ := (hρ _ _ hx).fpInv
  obtain ⟨v, h2, h3⟩ := hr.get ha
  refine ⟨v, h3, fun w' hw => ?_⟩
  have hcell : w'.cell? ⟨b, of, none⟩ = some v := by rw [cell_same (hw b hb (.inl hA.1))]; exact hc 0 v h2
  simp [execOp, ho, Instr.loadAt, h1, Instr.sureAddr, run_loadVar_one hT hcell]
theorem Yp.loadFN {cs : List AV} {n : Nat} (ho : o.op = .load T x) (hx : E.ev x = some (.fp cs)) (hT : isMany P T n) (hn : n ≤ cs.length) : Yp P E σ o (.agg (cs.take n)) := fun A w ρ _ hρ => by
  obtain ⟨b, of, us, h1, hb, hA, hc, hr⟩ := (hρ _ _ hx).fpInv
  refine ⟨_, Rel.aggL (hr.take n), fun w' hw => ?_⟩
  have hcell : ∀ j u, (us.take n)[j]? = some u → w'.cell? ((⟨b, of, none⟩ : Addr).add j) = some u := fun j u hj => by
    rw [add0, cell_same (hw b hb (.inl hA.1))]
    rw [List.getElem?_take] at hj
    split at hj
    · exact hc j u hj
    · cases hj
  have hl : (us.take n).length = n := by rw [List.length_take, hr.1]; omega
  simp [execOp, ho, Instr.loadAt, h1, Instr.sureAddr, run_loadVar_many (by rw [hl]; exact hT) hcell]

theorem Yp.loadB1 {b' of : Nat} {cs : List AV} {t : TypeId} (i : Nat) (ho : o.op = .load T x) (hx : E.ev x = some (.lit (.pointer (some ⟨b', of, none⟩)))) (hσ : σ[i]? = some (.box b' t cs)) (hT : isOne P T) (ha : cs[of]? = some av) : Yp P E σ o av := fun A w ρ hd hρ => by
  have hm := List.mem_of_getElem? hσ
  obtain ⟨us, h1, hr⟩ := hd.1 _ hm
  obtain ⟨v, h2, h3⟩ := RelL.get hr ha
  have hx' := (hρ _ _ hx).litEq
  refine ⟨v, h3, fun w' hw => ?_⟩
  have hcell : w'.cell? ⟨b', of, none⟩ = some v := by rw [cell_same (hw b' h1.lt (.inr (mem_blks.2 ⟨_, hm, rfl⟩)))]; exact h1.cell (by simpa using h2)
  simp [execOp, ho, Instr.loadAt, hx', Instr.sureAddr, run_loadVar_one hT hcell]
theorem Yp.loadBN {b' of n : Nat} {cs : List AV} {t : TypeId} (i : Nat) (ho : o.op = .load T x) (hx : E.ev x = some (.lit (.pointer (some ⟨b', of, none⟩)))) (hσ : σ[i]? = some (.box b' t cs)) (hT : isMany P T n) (hn : of + n ≤ cs.length) : Yp P E σ o (.agg ((cs.drop of).take n)) := fun A w ρ hd hρ => by
  have hm := List.mem_of_getElem? hσ
  obtain ⟨us, h1, hr⟩ := hd.1 _ hm
  have hx' := (hρ _ _ hx).litEq
  refine ⟨_, Rel.aggL ((RelL.drop of hr).take n), fun w' hw => ?_⟩
  have hcell : ∀ j u, ((us.drop of).take n)[j]? = some u → w'.cell? ((⟨b', of, none⟩ : Addr).add j) = some u := fun j u hj => by
    rw [add0, cell_same (hw b' h1.lt (.inr (mem_blks.2 ⟨_, hm, rfl⟩)))]
    rw [List.getElem?_take] at hj
    split at hj
    · rw [List.getElem?_drop] at hj
      exact h1.cell (by simpa using hj)
    · cases hj
  have hl : ((us.drop of).take n).length = n := by rw [List.length_take, List.length_drop, hr.1]; omega
  simp [execOp, ho, Instr.loadAt, hx', Instr.sureAddr, run_loadVar_many (by rw [hl]; exact hT) hcell]

theorem Yp.loadR1 {α : Type} [Inhabited α] {sz k of : Nat} {c : α → List AV} {l : List α} {t : TypeId} (i m : Nat) (ho : o.op = .load T x) (hx : E.ev x = some (.rp v k)) (hσ : σ[i]? = some (.row v t sz c l)) (hT : isOne P T) (hk : k = m * sz + of) (hm : m < l.length) (ha : (c l[m]!)[of]? = some av) : Yp P E σ o av := fun A w ρ hd hρ => by
  have hmem := List.mem_of_getElem? hσ
  obtain ⟨us, h1, h2, h3⟩ := hd.1 _ hmem
  obtain ⟨g, hg, hv⟩ := (hρ _ _ hx).rpInv
  obtain ⟨u, h4, h5⟩ := (h3 m hm).get ha
  refine ⟨u, h5, fun w' hw => ?_⟩
  rw [List.getElem?_take] at h4
  split at h4
  · rw [List.getElem?_drop] at h4
    have hcell : w'.cell? ⟨g, k, none⟩ = some u := by rw [cell_same (hw g (h1.lt hg) (.inr (mem_blks.2 ⟨_, hmem, hg⟩))), hk]; exact h1.cells hg _ u h4
    simp [execOp, ho, Instr.loadAt, hv, Instr.sureAddr, run_loadVar_one hT hcell]
  · cases h4
theorem Yp.loadRN {α : Type} [Inhabited α] {sz k of n : Nat} {c : α → List AV} {l : List α} {t : TypeId} (i m : Nat) (ho : o.op = .load T x) (hx : E.ev x = some (.rp v k)) (hσ : σ[i]? = some (.row v t sz c l)) (hT : isMany P T n) (hk : k = m * sz + of) (hm : m < l.length) (hn : of + n ≤ sz) : Yp P E σ o (.agg (((c l[m]!).drop of).take n)) := fun A w ρ hd hρ => by
  have hmem := List.mem_of_getElem? hσ
  obtain ⟨us, h1, h2, h3⟩ := hd.1 _ hmem
  obtain ⟨g, hg, hv⟩ := (hρ _ _ hx).rpInv
  have hL := h3 m hm
  refine ⟨_, Rel.aggL ((hL.drop of).take n), fun w' hw => ?_⟩
  have hcell : ∀ j u, ((((us.drop (m * sz)).take sz).drop of).take n)[j]? = some u → w'.cell? ((⟨g, k, none⟩ : Addr).add j) = some u := fun j u hj => by
    rw [add0, cell_same (hw g (h1.lt hg) (.inr (mem_blks.2 ⟨_, hmem, hg⟩))), hk]
    rw [List.getElem?_take] at hj
    split at hj
    · rw [List.getElem?_drop, List.getElem?_take] at hj
      split at hj
      · rw [List.getElem?_drop] at hj
        exact h1.cells hg _ u (by rw [Nat.add_assoc]; exact hj)
      · cases hj
    · cases hj
  have hl : ((((us.drop (m * sz)).take sz).drop of).take n).length = n := by rw [List.length_take, List.length_drop, hL.1, h2 m hm]; omega
  simp [execOp, ho, Instr.loadAt, hv, Instr.sureAddr, run_loadVar_many (by rw [hl]; exact hT) hcell]
end
end Go.Ab
