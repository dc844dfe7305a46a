/- The operations of a frame, one lemma each. Program-independent. -/
import Derived.Test.YtodeffidnipelaaEv
import Derived.WalkLawsBesides
namespace Go.Ev
open Go Go.RowKit

theorem wrap_in {n : Int} (h : -9223372036854775808 ≤ n ∧ n ≤ 9223372036854775807) : IntKind.i64.wrap n = n := IntWalk.i64_in n h

section
variable {P : Program} {E : Env} {o : Oper} {w : World} {T T' : TypeId} {x y z : Operand} {v u : Value} {m n : Int} {b : Bool}

theorem Yl.move (ho : o.op = .move x) (hx : E.ev x = some v) : Yl P E o w v := fun ρ hρ => by
  simp [execOp, ho, hρ _ _ hx]
theorem Yl.assign (ho : o.op = .assign x) (hx : E.ev x = some v) : Yl P E o w v := fun ρ hρ => by
  simp [execOp, ho, hρ _ _ hx]
theorem Yl.pickT (ho : o.op = .pick z x y) (hc : E.ev z = some (.bool true)) (hx : E.ev x = some v) : Yl P E o w v := fun ρ hρ => by
  simp [execOp, ho, hρ _ _ hx, hρ _ _ hc, asBool]
theorem Yl.pickF (ho : o.op = .pick z x y) (hc : E.ev z = some (.bool false)) (hx : E.ev y = some v) : Yl P E o w v := fun ρ hρ => by
  simp [execOp, ho, hρ _ _ hx, hρ _ _ hc, asBool]

theorem Yl.add (ho : o.op = .binOp .add T x y T') (hx : E.ev x = some (.int .i64 m)) (hy : E.ev y = some (.int .i64 n)) (h : -9223372036854775808 ≤ m + n ∧ m + n ≤ 9223372036854775807) : Yl P E o w (.int .i64 (m + n)) := fun ρ hρ => by
  simp [execOp, ho, hρ _ _ hx, hρ _ _ hy, eqGuard, binOp, Op.intArith, wrap_in h]
theorem Yl.sub (ho : o.op = .binOp .sub T x y T') (hx : E.ev x = some (.int .i64 m)) (hy : E.ev y = some (.int .i64 n)) (h : -9223372036854775808 ≤ m - n ∧ m - n ≤ 9223372036854775807) : Yl P E o w (.int .i64 (m - n)) := fun ρ hρ => by
  simp [execOp, ho, hρ _ _ hx, hρ _ _ hy, eqGuard, binOp, Op.intArith, wrap_in h]
theorem Yl.mul (ho : o.op = .binOp .mul T x y T') (hx : E.ev x = some (.int .i64 m)) (hy : E.ev y = some (.int .i64 n)) (h : -9223372036854775808 ≤ m * n ∧ m * n ≤ 9223372036854775807) : Yl P E o w (.int .i64 (m * n)) := fun ρ hρ => by
  simp [execOp, ho, hρ _ _ hx, hρ _ _ hy, eqGuard, binOp, Op.intArith, wrap_in h]
theorem Yl.quo (ho : o.op = .binOp .quo T x y T') (hx : E.ev x = some (.int .i64 m)) (hy : E.ev y = some (.int .i64 n)) (h : 0 ≤ m ∧ 0 < n ∧ m ≤ 9223372036854775807) : Yl P E o w (.int .i64 (m / n)) := fun ρ hρ => by
  have h0 : ¬ n = 0 := by omega
  have h1 : m.tdiv n = m / n := Int.tdiv_eq_ediv_of_nonneg h.1
  have h2 : 0 ≤ m / n := Int.ediv_nonneg h.1 (by omega)
  have h3 : m / n ≤ m := Int.ediv_le_self _ h.1
  simp [execOp, ho, hρ _ _ hx, hρ _ _ hy, eqGuard, binOp, Op.intDiv, h0, h1, wrap_in (show -9223372036854775808 ≤ m / n ∧ m / n ≤ 9223372036854775807 by omega)]
theorem Yl.rem (ho : o.op = .binOp .rem T x y T') (hx : E.ev x = some (.int .i64 m)) (hy : E.ev y = some (.int .i64 n)) (h : 0 ≤ m ∧ 0 < n) : Yl P E o w (.int .i64 (m % n)) := fun ρ hρ => by
  have h0 : ¬ n = 0 := by omega
  have h1 : m.tmod n = m % n := Int.tmod_eq_emod_of_nonneg h.1
  simp [execOp, ho, hρ _ _ hx, hρ _ _ hy, eqGuard, binOp, Op.intDiv, h0, h1]
theorem Yl.lss {k : IntKind} (ho : o.op = .binOp .lss T x y T') (hx : E.ev x = some (.int k m)) (hy : E.ev y = some (.int k n)) : Yl P E o w (.bool (decide (m < n))) := fun ρ hρ => by
  simp [execOp, ho, hρ _ _ hx, hρ _ _ hy, eqGuard, binOp, Op.intCmp]
theorem Yl.leq {k : IntKind} (ho : o.op = .binOp .leq T x y T') (hx : E.ev x = some (.int k m)) (hy : E.ev y = some (.int k n)) : Yl P E o w (.bool (decide (m ≤ n))) := fun ρ hρ => by
  simp [execOp, ho, hρ _ _ hx, hρ _ _ hy, eqGuard, binOp, Op.intCmp]
theorem Yl.gtr {k : IntKind} (ho : o.op = .binOp .gtr T x y T') (hx : E.ev x = some (.int k m)) (hy : E.ev y = some (.int k n)) : Yl P E o w (.bool (decide (n < m))) := fun ρ hρ => by
  simp [execOp, ho, hρ _ _ hx, hρ _ _ hy, eqGuard, binOp, Op.intCmp]
theorem Yl.geq {k : IntKind} (ho : o.op = .binOp .geq T x y T') (hx : E.ev x = some (.int k m)) (hy : E.ev y = some (.int k n)) : Yl P E o w (.bool (decide (n ≤ m))) := fun ρ hρ => by
  simp [execOp, ho, hρ _ _ hx, hρ _ _ hy, eqGuard, binOp, Op.intCmp]
theorem Yl.eql {k : IntKind} (ho : o.op = .binOp .eql T x y T') (hx : E.ev x = some (.int k m)) (hy : E.ev y = some (.int k n)) : Yl P E o w (.bool (decide (m = n))) := fun ρ hρ => by
  have : (m == n) = decide (m = n) := rfl
  simp [execOp, ho, hρ _ _ hx, hρ _ _ hy, eqGuard, binOp, Op.intCmp, this]
theorem Yl.neq {k : IntKind} (ho : o.op = .binOp .neq T x y T') (hx : E.ev x = some (.int k m)) (hy : E.ev y = some (.int k n)) : Yl P E o w (.bool (!decide (m = n))) := fun ρ hρ => by
  have : (m != n) = !decide (m = n) := rfl
  simp [execOp, ho, hρ _ _ hx, hρ _ _ hy, eqGuard, binOp, Op.intCmp, this]
theorem Yl.not (ho : o.op = .unOp .not T x) (hx : E.ev x = some (.bool b)) : Yl P E o w (.bool (!b)) := fun ρ hρ => by
  simp [execOp, ho, hρ _ _ hx, Op.unary]

theorem Yl.len {e : TypeId} {a : Option Addr} {l c : Nat} (ho : o.op = .call { callee := .builtin .len, args := #[x], argTypes := #[T] }) (hx : E.ev x = some (.slice a l c)) (hT : P.underlying T = some (.slice e)) :
    Yl P E o w (.int .i64 l) := fun ρ hρ => by
  simp [execOp, ho, resolve, invoke, builtin, Builtin.len_, hρ _ _ hx, run_underlying hT, goInt]

theorem Yl.max (ho : o.op = .call { callee := .builtin .max, args := #[x, y], argTypes := #[T, T'] }) (hx : E.ev x = some (.int .i64 m)) (hy : E.ev y = some (.int .i64 n)) : Yl P E o w (.int .i64 (if m < n then n else m)) := fun ρ hρ => by
  simp [execOp, ho, resolve, invoke, builtin, Builtin.max_, Builtin.max2, hρ _ _ hx, hρ _ _ hy]
theorem Yl.min (ho : o.op = .call { callee := .builtin .min, args := #[x, y], argTypes := #[T, T'] }) (hx : E.ev x = some (.int .i64 m)) (hy : E.ev y = some (.int .i64 n)) : Yl P E o w (.int .i64 (if n < m then n else m)) := fun ρ hρ => by
  simp [execOp, ho, resolve, invoke, builtin, Builtin.min_, Builtin.min2, hρ _ _ hx, hρ _ _ hy]

theorem Yl.func {fn : Fn} {fs cs : Array Operand} (cv : Array Value) (ho : o.op = .makeFunc fn fs cs) (h0 : fs = #[]) (hc : ∀ ρ : Operand → Value, (∀ x u, E.ev x = some u → ρ x = u) → cs.map ρ = cv) : Yl P E o w (.func fn #[] cv) := fun ρ hρ => by
  simp [execOp, ho, Instr.makeFunc, h0, hc ρ hρ]

theorem Yl.extract {i : Nat} {vs : Array Value} (ho : o.op = .extract x i) (hx : E.ev x = some (.tuple vs)) (hv : vs[i]? = some v) : Yl P E o w v := fun ρ hρ => by
  simp [execOp, ho, Instr.extract, hρ _ _ hx, hv]

/-- the field's offset (in cells) in a struct none of whose fields is of no size -/
theorem Yl.fieldAddr {fs : Array Field} {f : Field} {i b' of : Nat} {sz : Nat} (ho : o.op = .fieldAddr T x i) (hx : E.ev x = some (.pointer (some ⟨b', of, none⟩))) (hT : P.underlying T = some (.struct fs)) (hf : fs[i]? = some f) (hs : (P.info? f.type).map (·.size) = some (sz + 1)) :
    Yl P E o w (.pointer (some ⟨b', of + f.offset, none⟩)) := fun ρ hρ => by
  obtain ⟨j, hj, hj'⟩ := Option.map_eq_some_iff.1 hs
  have hadd : ∀ k, (⟨b', of, none⟩ : Addr).add k = ⟨b', of + k, none⟩ := fun k => by unfold Addr.add; split <;> simp_all
  simp [execOp, ho, Instr.fieldAt, hρ _ _ hx, run_underlying hT, hf, Instr.sureAddr, fieldPlace, sizeOf, typeInfo, hj, hj', hadd]

theorem Yl.indexAddr {e : TypeId} {a : Option Addr} {b' of l c k sz : Nat} (ho : o.op = .indexAddr T x y) (hx : E.ev x = some (.slice a l c)) (hy : E.ev y = some (.int .i64 m)) (hT : P.underlying T = some (.slice e)) (hs : (P.info? e).map (·.size) = some sz)
    (ha : a = some ⟨b', of, none⟩) (hm : m = (k : Int)) (hk : k < l) :
    Yl P E o w (.pointer (some ⟨b', of + k * sz, none⟩)) := fun ρ hρ => by
  obtain ⟨j, hj, hj'⟩ := Option.map_eq_some_iff.1 hs
  have hadd : ∀ k, (⟨b', of, none⟩ : Addr).add k = ⟨b', of + k, none⟩ := fun k => by unfold Addr.add; split <;> simp_all
  subst ha
  subst hm
  simp [execOp, ho, Instr.indexAt, hρ _ _ hx, hρ _ _ hy, run_underlying hT, sizeOf, typeInfo, hj, hj', hadd, asIntOf, hk]
theorem Yl.indexAddr1 {e : TypeId} {a : Option Addr} {b' of l c k : Nat} (ho : o.op = .indexAddr T x y) (hx : E.ev x = some (.slice a l c)) (hy : E.ev y = some (.int .i64 m)) (hT : P.underlying T = some (.slice e)) (hs : (P.info? e).map (·.size) = some 1)
    (ha : a = some ⟨b', of, none⟩) (hm : m = (k : Int)) (hk : k < l) : Yl P E o w (.pointer (some ⟨b', of + k, none⟩)) := by
  have := Yl.indexAddr (w := w) ho hx hy hT hs ha hm hk
  rwa [Nat.mul_one] at this

/-- a type whose values lie in one cell -/
def isOne (P : Program) (T : TypeId) : Prop := ∃ d, P.underlying T = some d ∧ match d with | .struct _ | .array _ _ => False | _ => True

theorem run_isAgg_one (h : isOne P T) (w : World) : (isAgg T).run P w = .ok false w := by
  obtain ⟨d, hd, hm⟩ := h
  unfold isAgg
  cases d <;> first | exact hm.elim | simp [run_underlying hd]

theorem run_loadVar_one {a : Addr} (h : isOne P T) (hc : w.cell? a = some v) : (loadVar T a).run P w = .ok v w := by
  unfold loadVar
  simp [run_isAgg_one h, load, Sem.run, hc]

theorem Yl.load {a : Addr} (ho : o.op = .load T x) (hx : E.ev x = some (.pointer (some a))) (hT : isOne P T) (hc : w.cell? a = some v) : Yl P E o w v := fun ρ hρ => by
  simp [execOp, ho, Instr.loadAt, hρ _ _ hx, Instr.sureAddr, run_loadVar_one hT hc]

/-- a type whose values lie in several cells -/
def isMany (P : Program) (T : TypeId) (k : Nat) : Prop := (∃ d, P.underlying T = some d ∧ match d with | .struct _ | .array _ _ => True | _ => False) ∧ (P.info? T).map (·.size) = some k

theorem run_isAgg_many {k : Nat} (h : isMany P T k) (w : World) : (isAgg T).run P w = .ok true w := by
  obtain ⟨⟨d, hd, hm⟩, _⟩ := h
  unfold isAgg
  cases d <;> first | exact hm.elim | simp [run_underlying hd]

theorem run_loadCellsFrom (a : Addr) : ∀ (cs : List Value) (i : Nat) (acc : Array Value), (∀ j u, cs[j]? = some u → w.cell? (a.add (i + j)) = some u) → (loadCellsFrom a i cs.length acc).run P w = .ok (acc ++ cs.toArray) w
  | [], i, acc, _ => by simp [loadCellsFrom]
  | c :: cs, i, acc, h => by
    have h0 := h 0 c rfl
    rw [Nat.add_zero] at h0
    simp only [List.length_cons, loadCellsFrom]
    have ih := run_loadCellsFrom a cs (i + 1) (acc.push c) fun j u hj => by
      have := h (j + 1) u (by simpa using hj)
      rwa [show i + (j + 1) = i + 1 + j from by omega] at this
    simp [load, Sem.run, h0, ih]

theorem run_loadVar_many {a : Addr} {cs : List Value} (h : isMany P T cs.length) (hc : ∀ j u, cs[j]? = some u → w.cell? (a.add j) = some u) : (loadVar T a).run P w = .ok (.agg cs.toArray) w := by
  obtain ⟨i, hi, hi'⟩ := Option.map_eq_some_iff.1 h.2
  have := run_loadCellsFrom (P := P) (w := w) a cs 0 #[] (by simpa using hc)
  unfold loadVar
  simp [run_isAgg_many h, sizeOf, typeInfo, hi, hi', loadCells, this]

theorem Yl.loadAgg {a : Addr} {cs : List Value} (ho : o.op = .load T x) (hx : E.ev x = some (.pointer (some a))) (hT : isMany P T cs.length) (hc : ∀ j u, cs[j]? = some u → w.cell? (a.add j) = some u) : Yl P E o w (.agg cs.toArray) := fun ρ hρ => by
  simp [execOp, ho, Instr.loadAt, hρ _ _ hx, Instr.sureAddr, run_loadVar_many hT hc]

/-- f is a function with a body -/
def fnOk (P : Program) (f : FuncId) : Prop := ∃ fn, P.funcs[f]? = some fn ∧ (fn.name == "runtime.NumGoroutine") = false ∧ fn.body.isNone = false

theorem run_callFunc_ok {f : FuncId} (hf : fnOk P f) (args : Array Value) : (callFunc f args).run P w = .ok (.enter f args) w := by
  obtain ⟨fn, h1, h2, h3⟩ := hf
  have h2' : ¬ fn.name = "runtime.NumGoroutine" := by simpa using h2
  have h3' : ¬ fn.body = none := by
    intro h
    rw [h] at h3
    cases h3
  simp [callFunc, program, Sem.run, h1, h2', h3']

/-- a call of a function of the program -/
theorem Yc.func {f : FuncId} {xs : Array Operand} {ts : Array TypeId} (args : Array Value) (ho : o.op = .call { callee := .value (.func f), args := xs, argTypes := ts }) (hf : fnOk P f)
    (hc : ∀ ρ : Operand → Value, (∀ x u, E.ev x = some u → ρ x = u) → xs.map ρ = args) : Yc P E o w f args := fun ρ hρ => by
  have h1 : ρ (.func f) = .func (.func f) #[] #[] := hρ _ _ rfl
  have h2 := hc ρ hρ
  simp [execOp, ho, resolve, h1, h2, Deferred.ofValue, invoke, run_callFunc_ok hf]

/-- a call of a function value -/
theorem Yc.closure {f : FuncId} {xs : Array Operand} {ts : Array TypeId} {cap : Array Value} (args : Array Value) (ho : o.op = .call { callee := .value x, args := xs, argTypes := ts }) (hx : E.ev x = some (.func (.func f) #[] cap)) (hf : fnOk P f)
    (hc : ∀ ρ : Operand → Value, (∀ x u, E.ev x = some u → ρ x = u) → xs.map ρ ++ cap = args) : Yc P E o w f args := fun ρ hρ => by
  have h1 := hρ _ _ hx
  have h2 := hc ρ hρ
  simp [execOp, ho, resolve, h1, Deferred.ofValue, invoke, h2, run_callFunc_ok hf]
end
end Go.Ev
