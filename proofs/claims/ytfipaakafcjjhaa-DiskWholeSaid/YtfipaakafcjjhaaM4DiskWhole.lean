/- Merged: Ab1, Ab2, Ab3, Ab4, Ab5, Ab6, Ab7, Ab8, Br. -/
import Derived.OrdersHeld
import Derived.WalkKit
import Derived.KernelRfl
import Derived.Maps.AppendAt
import Derived.WalkLawsBesides
import Derived.Laws.Tables
import Derived.Laws.PanicsMore
import Derived.Great.BuildSlice
import Derived.Laws.MakeOwn
import Derived.Lib.SliceRun
import Derived.RangeFuncLeaves
import Derived.RangeFuncNested
import Derived.Laws.BytesArg
import Derived.Lib.MakeNoZero
import Derived.RangeFuncBound
import Derived.Shelf.Abstract
import Derived.TacticsIn
import Derived.OwnWalkIn
import Derived.Test.YtfipaakafcjjhaaM3DiskWhole
section
set_option linter.unusedSectionVars false
set_option linter.unusedVariables false
set_option linter.unusedSimpArgs false
namespace Go.Ab
open Go Go.RowKit

/-- What a slot or a cell holds: a plain value; a slice that reads as0 a list and is not written; a place at which cells lie that are not written; cell k of an own slice; an aggregate; a tuple; a function. -/
inductive AV : Type 1
  | lit (v : Value)
  | sl {α : Type} [Inhabited α] (sz : Nat) (c : α → List AV) (l : List α)
  | fp (cs : List AV)
  | rp (v : Value) (k : Nat)
  | agg (cs : List AV)
  | tup (vs : List AV)
  | fn (f : Fn) (caps : List AV)

/-- the block of a slice that has room -/
def rblk : Value → Option Nat
  | .slice (some a) _ (_ + 1) => some a.block
  | _ => none

/-- v is a slice of n elements of sz cells over a row of its own (of type T), at its head; its cells are us. -/
def RowIs (w : World) (v : Value) (T : TypeId) (sz n : Nat) (us : List Value) : Prop :=
  us.length = n * sz ∧ ((∃ p, v = .slice p 0 0 ∧ n = 0) ∨
    ∃ g cap cur, v = .slice (some ⟨g, 0, none⟩) n (cap + 1) ∧ w.heap[g]? = some (.cells cur T (0, 0)) ∧ n ≤ cap + 1 ∧ cap + 1 ≤ maxLen ∧ cur.size = (cap + 1) * sz ∧ cur.toList.take (n * sz) = us)

theorem RowIs.lt {w : World} {v : Value} {T : TypeId} {sz n : Nat} {us : List Value} (h : RowIs w v T sz n us) {b : Nat} (hb : rblk v = some b) : b < w.heap.size := by
  rcases h.2 with ⟨p, rfl, _⟩ | ⟨g, cap, cur, rfl, hg, _⟩
  · cases p <;> cases hb
  · cases hb
    exact (Array.getElem?_eq_some_iff.1 hg).1

theorem RowIs.kept {w w' : World} {v : Value} {T : TypeId} {sz n : Nat} {us : List Value} (h : RowIs w v T sz n us) (hb : ∀ b, rblk v = some b → w'.heap[b]? = w.heap[b]?) : RowIs w' v T sz n us := by
  refine ⟨h.1, ?_⟩
  rcases h.2 with h1 | ⟨g, cap, cur, rfl, q1, q2⟩
  · exact .inl h1
  · exact .inr ⟨g, cap, cur, rfl, (hb g rfl).trans q1, q2⟩

inductive Rel (A : Nat → Prop) (w : World) : AV → Value → Prop
  | lit (v : Value) : Rel A w (.lit v) v
  | sl {α : Type} [Inhabited α] (sz : Nat) (c : α → List AV) (l : List α) (p : Option Addr) (cap : Nat) (u : Nat → Nat → Value)
      (hl : l.length ≤ 9223372036854775807) (hcap : l.length ≤ cap) (hz : ∀ i, i < l.length → (c l[i]!).length = sz)
      (hc : ∀ i, i < l.length → ∃ b off, p = some ⟨b, off, none⟩ ∧ b < w.heap.size ∧ A b ∧ ∀ j, j < sz → w.cell? ⟨b, off + i * sz + j, none⟩ = some (u i j))
      (hr : ∀ i j a, i < l.length → (c l[i]!)[j]? = some a → Rel A w a (u i j)) : Rel A w (.sl sz c l) (.slice p l.length cap)
  | fp (cs : List AV) (b o : Nat) (us : List Value) (hb : b < w.heap.size) (hA : A b) (hl : us.length = cs.length)
      (hc : ∀ j v, us[j]? = some v → w.cell? ⟨b, o + j, none⟩ = some v) (hr : ∀ (j : Nat) a v, cs[j]? = some a → us[j]? = some v → Rel A w a v) : Rel A w (.fp cs) (.pointer (some ⟨b, o, none⟩))
  | rp (v : Value) (k g : Nat) (h : rblk v = some g) : Rel A w (.rp v k) (.pointer (some ⟨g, k, none⟩))
  | agg (cs : List AV) (us : List Value) (hl : us.length = cs.length) (hr : ∀ (j : Nat) a v, cs[j]? = some a → us[j]? = some v → Rel A w a v) : Rel A w (.agg cs) (.agg us.toArray)
  | tup (cs : List AV) (us : List Value) (hl : us.length = cs.length) (hr : ∀ (j : Nat) a v, cs[j]? = some a → us[j]? = some v → Rel A w a v) : Rel A w (.tup cs) (.tuple us.toArray)
  | fn (f : Fn) (cs : List AV) (us : List Value) (hl : us.length = cs.length) (hr : ∀ (j : Nat) a v, cs[j]? = some a → us[j]? = some v → Rel A w a v) : Rel A w (.fn f cs) (.func f #[] us.toArray)

theorem Rel.mono {A A' : Nat → Prop} {w w' : World} {a : AV} {v : Value} (h : Rel A w a v) (hk : ∀ b, b < w.heap.size → A b → A' b ∧ w'.heap[b]? = w.heap[b]?) : Rel A' w' a v := by
  have hsz : ∀ b, b < w.heap.size → A b → b < w'.heap.size := fun b hb hA => by
    have h1 := (hk b hb hA).2
    rw [Array.getElem?_eq_getElem hb] at h1
    exact (Array.getElem?_eq_some_iff.1 h1).1
  have hcell : ∀ b o, b < w.heap.size → A b → w'.cell? ⟨b, o, none⟩ = w.cell? ⟨b, o, none⟩ := fun b o hb hA => by
    simp [World.cell?, (hk b hb hA).2]
  induction h with
  | lit v => exact .lit v
  | sl sz c l p cap u hl hcap hz hc hr ih =>
    refine .sl sz c l p cap u hl hcap hz (fun i hi => ?_) ih
    obtain ⟨b, off, h1, h2, h3, h4⟩ := hc i hi
    exact ⟨b, off, h1, hsz b h2 h3, (hk b h2 h3).1, fun j hj => by rw [hcell b _ h2 h3]; exact h4 j hj⟩
  | fp cs b o us hb hA hl hc hr ih => exact .fp cs b o us (hsz b hb hA) (hk b hb hA).1 hl (fun j v hj => by rw [hcell b _ hb hA]; exact hc j v hj) ih
  | rp v k g h => exact .rp v k g h
  | agg cs us hl hr ih => exact .agg cs us hl ih
  | tup cs us hl hr ih => exact .tup cs us hl ih
  | fn f cs us hl hr ih => exact .fn f cs us hl ih

def RelL (A : Nat → Prop) (w : World) (as0 : List AV) (us : List Value) : Prop := us.length = as0.length ∧ ∀ (j : Nat) a v, as0[j]? = some a → us[j]? = some v → Rel A w a v

theorem RelL.mono {A A' : Nat → Prop} {w w' : World} {as0 : List AV} {us : List Value} (h : RelL A w as0 us) (hk : ∀ b, b < w.heap.size → A b → A' b ∧ w'.heap[b]? = w.heap[b]?) : RelL A' w' as0 us := ⟨h.1, fun j a v h1 h2 => (h.2 j a v h1 h2).mono hk⟩

theorem Rel.litEq {A : Nat → Prop} {w : World} {u v : Value} (h : Rel A w (.lit u) v) : v = u := by
  generalize ha : AV.lit u = a at h
  cases h with
  | lit v => cases ha; rfl
  | _ => cases ha

/-- Block b is a row of cells of type T that may be written. -/
def Blk (w : World) (b : Nat) (cs : Array Value) (T : TypeId) : Prop := w.heap[b]? = some (.cells cs T (0, 0))
theorem Blk.lt {w : World} {b : Nat} {cs : Array Value} {T : TypeId} (h : Blk w b cs T) : b < w.heap.size := (Array.getElem?_eq_some_iff.1 h).1
theorem Blk.cell {w : World} {b : Nat} {cs : Array Value} {T : TypeId} (h : Blk w b cs T) {i : Nat} {v : Value} (hv : cs[i]? = some v) : w.cell? ⟨b, i, none⟩ = some v := by
  unfold Blk at h
  simp [World.cell?, h, hv]

/-- What the function owns: a variable of several cells; a slice whose elements' cells are c x. -/
inductive Res : Type 1
  | box (b : Nat) (T : TypeId) (cs : List AV)
  | row {α : Type} [Inhabited α] (v : Value) (T : TypeId) (sz : Nat) (c : α → List AV) (l : List α)

def Res.blk : Res → Option Nat
  | .box b _ _ => some b
  | @Res.row _ _ v _ _ _ _ => rblk v

def Res.ok (A : Nat → Prop) (w : World) : Res → Prop
  | .box b T cs => ∃ us : List Value, Blk w b us.toArray T ∧ RelL A w cs us
  | @Res.row _ _ v T sz c l => ∃ us : List Value, RowIs w v T sz l.length us ∧ (∀ i, i < l.length → (c l[i]!).length = sz) ∧ ∀ i, i < l.length → RelL A w (c l[i]!) ((us.drop (i * sz)).take sz)

def blks (σ : List Res) : List Nat := σ.filterMap Res.blk
theorem mem_blks {σ : List Res} {b : Nat} : b ∈ blks σ ↔ ∃ r ∈ σ, r.blk = some b := by simp [blks]

theorem Res.ok.lt {A : Nat → Prop} {w : World} {r : Res} (h : r.ok A w) {b : Nat} (hb : r.blk = some b) : b < w.heap.size := by
  cases r with
  | box b' T cs => obtain ⟨us, h1, _⟩ := h; cases hb; exact h1.lt
  | row v T sz c l => obtain ⟨us, h1, _⟩ := h; exact h1.lt hb

theorem Res.ok.mono {A A' : Nat → Prop} {w w' : World} {r : Res} (h : r.ok A w) (hk : ∀ b, b < w.heap.size → A b → A' b ∧ w'.heap[b]? = w.heap[b]?) (hb : ∀ b, r.blk = some b → w'.heap[b]? = w.heap[b]?) : r.ok A' w' := by
  cases r with
  | box b T cs =>
    obtain ⟨us, h1, h2⟩ := h
    exact ⟨us, (hb b rfl).trans h1, h2.mono hk⟩
  | row v T sz c l =>
    obtain ⟨us, h1, h2, h3⟩ := h
    exact ⟨us, h1.kept hb, h2, fun i h4 => (h3 i h4).mono hk⟩

/-- Blocks outside X are as0 they were. -/
structure Kp (X : List Nat) (w w' : World) : Prop where
  os : w'.os = w.os
  tape : w'.tape = w.tape
  output : w'.output = w.output
  size : w.heap.size ≤ w'.heap.size
  block : ∀ k, k < w.heap.size → k ∉ X → w'.heap[k]? = w.heap[k]?

theorem Kp.refl (X : List Nat) (w : World) : Kp X w w := ⟨rfl, rfl, rfl, Nat.le_refl _, fun _ _ _ => rfl⟩
theorem Kp.trans {X Y : List Nat} {w w1 w2 : World} (h : Kp X w w1) (h' : Kp Y w1 w2) (hY : ∀ b, b ∈ Y → b < w.heap.size → b ∈ X) : Kp X w w2 :=
  ⟨h'.os.trans h.os, h'.tape.trans h.tape, h'.output.trans h.output, Nat.le_trans h.size h'.size, fun k hk hX =>
    (h'.block k (Nat.lt_of_lt_of_le hk h.size) (fun hy => hX (hY k hy hk))).trans (h.block k hk hX)⟩
theorem Kp.drew (w : World) : Kp [] w w.drew := ⟨rfl, rfl, rfl, Nat.le_refl _, fun _ _ _ => rfl⟩
theorem Kp.below {w w' : World} (h : Kp [] w w') : Below w.heap.size w w' := ⟨h.os, h.tape, h.output, h.size, fun k hk => h.block k hk (by simp)⟩
theorem Kp.ofBelow {w w' : World} (h : Below w.heap.size w w') : Kp [] w w' := ⟨h.os, h.tape, h.output, h.size, fun k hk _ => h.block k hk⟩

/-- Where the function began: its world, the blocks whose data it was given, the blocks that it was given to own. -/
structure Cx where
  w0 : World
  A0 : Nat → Prop
  O0 : List Nat

/-- The blocks in which data may lie that are not written. -/
def al (C : Cx) (σ : List Res) (b : Nat) : Prop := (C.A0 b ∨ b ∈ C.O0 ∨ C.w0.heap.size ≤ b) ∧ b ∉ blks σ

structure Good (C : Cx) (σ : List Res) (w : World) : Prop where
  kept : Kp C.O0 C.w0 w
  res : ∀ r ∈ σ, r.ok (al C σ) w
  dis : (blks σ).Nodup
  own : ∀ b ∈ blks σ, b ∈ C.O0 ∨ C.w0.heap.size ≤ b

/-- From one state of memory to the next; blocks outside X are as0 they were. -/
structure Tr (C : Cx) (X : List Nat) (σ : List Res) (w : World) (σ' : List Res) (w' : World) : Prop where
  good : Good C σ' w'
  kp : Kp X w w'
  al : ∀ b, b < w.heap.size → al C σ b → al C σ' b ∧ b ∉ X

theorem Tr.keep {C : Cx} {X : List Nat} {σ σ' : List Res} {w w' : World} (t : Tr C X σ w σ' w') : ∀ b, b < w.heap.size → Ab.al C σ b → Ab.al C σ' b ∧ w'.heap[b]? = w.heap[b]? :=
  fun b hb h => ⟨(t.al b hb h).1, t.kp.block b hb (t.al b hb h).2⟩

/-! ### Frames -/

abbrev Env := List (Nat × AV)

def Env.get : Env → Nat → Option AV
  | [], _ => none
  | (k, v) :: E, t => match Nat.beq k t with
    | true => some v
    | false => Env.get E t

def Env.ev (E : Env) : Operand → Option AV
  | .tmp t => Env.get E t
  | .const v => some (.lit v)
  | .global g => some (.lit (.pointer (some ⟨g, 0, none⟩)))
  | .func f => some (.fn (.func f) [])

theorem Env.get_hit (E : Env) (d : Nat) (v : AV) : Env.get ((d, v) :: E) d = some v := by
  have h : Nat.beq d d = true := Nat.beq_refl d
  simp only [Env.get, h]

theorem Env.get_miss (E : Env) {d t : Nat} (v : AV) (h : d ≠ t) : Env.get ((d, v) :: E) t = Env.get E t := by
  have h' : Nat.beq d t = false := by
    cases hb : Nat.beq d t with
    | false => rfl
    | true => exact absurd (Nat.eq_of_beq_eq_true hb) h
  simp only [Env.get, h']

/-- The slots hold what E says. -/
def Slots (A : Nat → Prop) (w : World) (E : Env) (tmps : Array Value) : Prop := ∀ t av, Env.get E t = some av → ∃ v, tmps[t]? = some v ∧ Rel A w av v

/-- The only calls deferred are marks of ranges over functions, whose rounds deferred none. -/
def Dq (C : Cx) (σ : List Res) (a : Act) (w : World) : Prop := ∃ Ds : List Nat, a.defers = Ds.map (fun D => { target := .collected D, args := #[] }) ∧ Ds.Nodup ∧
  ∀ D ∈ Ds, D < w.heap.size ∧ C.w0.heap.size ≤ D ∧ D ∉ blks σ ∧ w.heap[D]? = some (.deferred (some []))
theorem Dq.nil {C : Cx} {σ : List Res} {a : Act} {w : World} (h : a.defers = []) : Dq C σ a w := ⟨[], h, List.nodup_nil, fun _ h => by cases h⟩
theorem Dq.step {C : Cx} {σ σ' : List Res} {a : Act} {w w' : World} (h : Dq C σ a w) (hk : ∀ b, b < w.heap.size → al C σ b → al C σ' b ∧ w'.heap[b]? = w.heap[b]?) : Dq C σ' a w' := by
  obtain ⟨Ds, h1, h2, h3⟩ := h
  refine ⟨Ds, h1, h2, fun D hD => ?_⟩
  obtain ⟨q1, q2, q3, q4⟩ := h3 D hD
  obtain ⟨p1, p2⟩ := hk D q1 ⟨.inr (.inr q2), q3⟩
  have p3 := p2.trans q4
  exact ⟨(Array.getElem?_eq_some_iff.1 p3).1, q2, p1.2, p3⟩

structure Sim (C : Cx) (n : Nat) (E : Env) (σ : List Res) (a : Act) (w : World) : Prop where
  defers : Dq C σ a w
  size : a.tmps.size = n
  slots : Slots (al C σ) w E a.tmps
  good : Good C σ w

/-- what operands are -/
def Ops (A : Nat → Prop) (w : World) (E : Env) (ρ : Operand → Value) : Prop := ∀ x u, E.ev x = some u → Rel A w u (ρ x)

section
variable {C : Cx} {n : Nat} {E E' : Env} {σ σ' : List Res} {a : Act} {w w' : World} {x : Operand} {v : Value} {av : AV} {d : Nat} {A : Nat → Prop}

theorem Slots.ops (h : Slots A w E a.tmps) : Ops A w E a.eval := fun x u hx => by
  cases x with
  | tmp t =>
    obtain ⟨v, h1, h2⟩ := h t u hx
    simpa [Act.eval, h1] using h2
  | const u =>
    simp only [Env.ev, Option.some.injEq] at hx
    subst hx
    exact .lit _
  | global g =>
    simp only [Env.ev, Option.some.injEq] at hx
    subst hx
    exact .lit _
  | func f =>
    simp only [Env.ev, Option.some.injEq] at hx
    subst hx
    exact .fn _ [] [] rfl (fun j a v h => by cases h)

theorem Slots.put (h : Slots A w E a.tmps) (hd : d < a.tmps.size) (hv : Rel A w av v) : Slots A w ((d, av) :: E) (a.put (some d) v).tmps := fun t u ht => by
  by_cases hdt : d = t
  · subst hdt
    rw [Env.get_hit] at ht
    cases ht
    exact ⟨v, by simp [Act.put, hd], hv⟩
  · rw [Env.get_miss _ _ hdt] at ht
    obtain ⟨v', h1, h2⟩ := h t u ht
    exact ⟨v', by simp [Act.put, Array.getElem?_setIfInBounds_ne hdt, h1], h2⟩

theorem Slots.past (h : Slots A w E a.tmps) (hd : Env.get E d = none) (v : Value) : Slots A w E (a.put (some d) v).tmps := fun t u ht => by
  have hdt : d ≠ t := fun e => by rw [← e, hd] at ht; cases ht
  obtain ⟨v', h1, h2⟩ := h t u ht
  exact ⟨v', by simp [Act.put, Array.getElem?_setIfInBounds_ne hdt, h1], h2⟩

theorem Sim.put (h : Sim C n E σ a w) (hd : Nat.blt d n = true) (hv : Rel (al C σ) w av v) : Sim C n ((d, av) :: E) σ (a.put (some d) v) w :=
  ⟨h.defers, by simpa [Act.put] using h.size, h.slots.put (by rw [h.size]; simpa [Nat.blt_eq] using hd) hv, h.good⟩

theorem Sim.put_none (h : Sim C n E σ a w) (v : Value) : Sim C n E σ (a.put none v) w := h

theorem Sim.tr {X : List Nat} (h : Sim C n E σ a w) (t : Tr C X σ w σ' w') : Sim C n E σ' a w' :=
  ⟨h.defers.step t.keep, h.size, fun i u hi => let ⟨v, h1, h2⟩ := h.slots i u hi; ⟨v, h1, h2.mono t.keep⟩, t.good⟩

/-- Every entry of E is one of E'. -/
def Sub (E E' : Env) : Prop := ∀ t v, Env.get E t = some v → Env.get E' t = some v

theorem Sub.nil : Sub [] E := fun _ _ h => by cases h
theorem Sub.cons (h : Env.get E' d = some av) (hs : Sub E E') : Sub ((d, av) :: E) E' := fun t u ht => by
  by_cases hdt : d = t
  · subst hdt
    rw [Env.get_hit] at ht
    cases ht
    exact h
  · rw [Env.get_miss _ _ hdt] at ht
    exact hs t u ht
theorem Sub.refl : Sub E E := fun _ _ h => h
theorem Sub.trans {E1 E2 E3 : Env} (h : Sub E1 E2) (h' : Sub E2 E3) : Sub E1 E3 := fun t u ht => h' t u (h t u ht)

theorem Sim.sub (h : Sim C n E' σ a w) (hs : Sub E E') : Sim C n E σ a w := ⟨h.defers, h.size, fun t v ht => h.slots t v (hs t v ht), h.good⟩
end

/-! ### What operations do -/

/-- The resources hold, and no data lie in their blocks. -/
def Hd (A : Nat → Prop) (σ : List Res) (w : World) : Prop := (∀ r ∈ σ, r.ok A w) ∧ ∀ b ∈ blks σ, ¬ A b

theorem Good.hd {C : Cx} {σ : List Res} {w : World} (h : Good C σ w) : Hd (al C σ) σ w := ⟨h.res, fun _ hb hA => hA.2 hb⟩

section
variable (P : Program) (E : Env) (σ : List Res) (o : Oper)

/-- The operation yields av and leaves the world as0 it is, now and as0 long as0 nothing is written that it reads. -/
def Yp (av : AV) : Prop := ∀ (A : Nat → Prop) (w : World) (ρ : Operand → Value), Hd A σ w → Ops A w E ρ →
  ∃ v, Rel A w av v ∧ ∀ w' : World, (∀ b, b < w.heap.size → (A b ∨ b ∈ blks σ) → w'.heap[b]? = w.heap[b]?) → (execOp ρ o).run P w' = .ok (.value v) w'

/-- The operation yields something, and the state is one of N. -/
def Yv (C : Cx) (X : List Nat) (N : AV → List Res → Prop) : Prop := ∀ (w : World) (ρ : Operand → Value), Good C σ w → Ops (al C σ) w E ρ →
  ∃ v w' av σ', N av σ' ∧ Tr C X σ w σ' w' ∧ (execOp ρ o).run P w = .ok (.value v) w' ∧ Rel (al C σ') w' av v

/-- The operation yields nothing, and the resources are σ'. -/
def Yu (C : Cx) (X : List Nat) (σ' : List Res) : Prop := ∀ (w : World) (ρ : Operand → Value), Good C σ w → Ops (al C σ) w E ρ →
  ∃ w', Tr C X σ w σ' w' ∧ (execOp ρ o).run P w = .ok .skip w'

/-- The operation calls function f, whose results are of Φ. -/
def Yc (C : Cx) (X : List Nat) (N : AV → List Res → Prop) : Prop := ∀ (w : World) (ρ : Operand → Value), Good C σ w → Ops (al C σ) w E ρ →
  ∃ f args, (execOp ρ o).run P w = .ok (.enter f args) w ∧ Calls P f args w fun e w' => ∃ v av σ', e = .returned v ∧ N av σ' ∧ Tr C X σ w σ' w' ∧ Rel (al C σ') w' av v

/-- Is the operation wanted? -/
def Wants (ops : Array Oper) : Option Bool :=
  match o.guard with
  | none => some true
  | some (j, want) => match (ops[j]?).bind (·.dst) with
    | none => none
    | some t => match Env.get E t with
      | some (.lit (.bool b)) => some (b == want)
      | some (.lit (.tuple _)) => some false
      | _ => none
end

theorem Wants.spec {A : Nat → Prop} {w : World} {E : Env} {o : Oper} {ops : Array Oper} {tmps : Array Value} {b : Bool} (h : Slots A w E tmps) (hw : Wants E o ops = some b) : Region.wanted o (yielded ops tmps) = b := by
  unfold Wants at hw
  unfold Region.wanted
  cases hg : o.guard with
  | none => rw [hg] at hw; simpa using hw
  | some gw =>
    obtain ⟨j, want⟩ := gw
    rw [hg] at hw
    simp only at hw ⊢
    cases ht : (ops[j]?).bind (·.dst) with
    | none => rw [ht] at hw; cases hw
    | some t =>
      rw [ht] at hw
      simp only at hw
      cases he : Env.get E t with
      | none => rw [he] at hw; cases hw
      | some u =>
        obtain ⟨v, hv, hr⟩ := h t u he
        rw [he] at hw
        have hy : yielded ops tmps j = match v with | .bool b => some b | _ => none := by
          unfold yielded
          rw [ht]
          simp only [Option.bind_some, hv]
          cases v <;> rfl
        cases u with
        | lit u =>
          have hvu := hr.litEq
          subst hvu
          cases v <;> simp only at hw hy <;> first | (cases hw; done) | skip
          · rw [hy]; simpa using hw
          · rw [hy]; simp at hw; simp [← hw]
        | _ => cases hw

/-! ### Regions in the order of the text -/

def Q0 (C : Cx) (n : Nat) (K : Env → List Res → Prop) : Exit → Act → World → Prop := fun e a w => e = .normal ∧ ∃ E σ, Sim C n E σ a w ∧ K E σ
def Q1 (C : Cx) (n : Nat) (K : Env → List Res → Prop) (ds : List Deferred) : Exit → Act → World → Prop := fun e a w => e = .normal ∧ a.defers = ds ∧ ∃ E σ, Sim C n E σ a w ∧ K E σ

def RW (P : Program) (C : Cx) (n : Nat) (ops : Array Oper) (K : Env → List Res → Prop) (rest : List Oper) (E : Env) (σ : List Res) : Prop :=
  ∀ a w, Sim C n E σ a w → wpList P ops (Q1 C n K a.defers) rest a w

section
variable {P : Program} {C : Cx} {n : Nat} {ops : Array Oper} {K : Env → List Res → Prop} {rest : List Oper} {E E' : Env} {σ σ' : List Res} {o : Oper} {av : AV} {d : Nat} {X : List Nat} {N : AV → List Res → Prop}

theorem RW.nil (h : K E σ) : RW P C n ops K [] E σ := fun _ _ ha => ⟨rfl, rfl, E, σ, ha, h⟩

theorem RW.p (hg : Wants E o ops = some true) (hd : o.dst = some d) (hn : Nat.blt d n = true) (hr : Yp P E σ o av) (next : RW P C n ops K rest ((d, av) :: E) σ) : RW P C n ops K (o :: rest) E σ := by
  intro a w ha
  refine wpList_step fun K' hK => ?_
  rw [if_pos (Wants.spec ha.slots hg)]
  unfold Oper.wp
  obtain ⟨v, h1, h2⟩ := hr _ w a.eval ha.good.hd ha.slots.ops
  rw [h2 w (fun _ _ _ => rfl)]
  show K' (a.put o.dst v) w
  rw [hd]
  exact hK _ _ (next _ _ (ha.put hn h1))

theorem RW.v (hg : Wants E o ops = some true) (hd : o.dst = some d) (hn : Nat.blt d n = true) (hr : Yv P E σ o C X N) (next : ∀ av σ', N av σ' → RW P C n ops K rest ((d, av) :: E) σ') : RW P C n ops K (o :: rest) E σ := by
  intro a w ha
  refine wpList_step fun K' hK => ?_
  rw [if_pos (Wants.spec ha.slots hg)]
  unfold Oper.wp
  obtain ⟨v, w', av, σ', h1, h2, h3, h4⟩ := hr w a.eval ha.good ha.slots.ops
  rw [h3]
  show K' (a.put o.dst v) w'
  rw [hd]
  exact hK _ _ (next _ _ h1 _ _ ((ha.tr h2).put hn h4))

theorem RW.u (hg : Wants E o ops = some true) (hd : o.dst = none) (hr : Yu P E σ o C X σ') (next : RW P C n ops K rest E σ') : RW P C n ops K (o :: rest) E σ := by
  intro a w ha
  refine wpList_step fun K' hK => ?_
  rw [if_pos (Wants.spec ha.slots hg)]
  unfold Oper.wp
  obtain ⟨w', h2, h3⟩ := hr w a.eval ha.good ha.slots.ops
  rw [h3]
  show K' (a.put o.dst undef) w'
  rw [hd]
  exact hK _ _ (next _ _ (ha.tr h2))

theorem RW.skip (hg : Wants E o ops = some false) (hd : o.dst = some d) (hn : Nat.blt d n = true) (next : RW P C n ops K rest ((d, .lit undef) :: E) σ) : RW P C n ops K (o :: rest) E σ := by
  intro a w ha
  refine wpList_step fun K' hK => ?_
  rw [if_neg (by rw [Wants.spec ha.slots hg]; exact Bool.false_ne_true), hd]
  exact hK _ _ (next _ _ (ha.put hn (.lit _)))

theorem RW.skip' (hg : Wants E o ops = some false) (hd : o.dst = none) (next : RW P C n ops K rest E σ) : RW P C n ops K (o :: rest) E σ := by
  intro a w ha
  refine wpList_step fun K' hK => ?_
  rw [if_neg (by rw [Wants.spec ha.slots hg]; exact Bool.false_ne_true), hd]
  exact hK _ _ (next _ _ ha)

theorem RW.c (hg : Wants E o ops = some true) (hd : o.dst = some d) (hn : Nat.blt d n = true) (hr : Yc P E σ o C X N) (next : ∀ av σ', N av σ' → RW P C n ops K rest ((d, av) :: E) σ') : RW P C n ops K (o :: rest) E σ := by
  intro a w ha
  refine wpList_step fun K' hK => ?_
  rw [if_pos (Wants.spec ha.slots hg)]
  unfold Oper.wp
  obtain ⟨f, args, h1, h2⟩ := hr w a.eval ha.good ha.slots.ops
  rw [h1]
  refine Calls.mono h2 fun e w' he => ?_
  obtain ⟨v, av, σ', rfl, h3, h4, h5⟩ := he
  show K' (a.put o.dst v) w'
  rw [hd]
  exact hK _ _ (next _ _ h3 _ _ ((ha.tr h4).put hn h5))

theorem RW.c' (hg : Wants E o ops = some true) (hd : o.dst = none) (hr : Yc P E σ o C X N) (next : ∀ av σ', N av σ' → RW P C n ops K rest E σ') : RW P C n ops K (o :: rest) E σ := by
  intro a w ha
  refine wpList_step fun K' hK => ?_
  rw [if_pos (Wants.spec ha.slots hg)]
  unfold Oper.wp
  obtain ⟨f, args, h1, h2⟩ := hr w a.eval ha.good ha.slots.ops
  rw [h1]
  refine Calls.mono h2 fun e w' he => ?_
  obtain ⟨v, av, σ', rfl, h3, h4, h5⟩ := he
  show K' (a.put o.dst v) w'
  rw [hd]
  exact hK _ _ (next _ _ h3 _ _ (ha.tr h4))
end

/-! ### Regions that draw their order -/

/-- What stands at the beginning of a region: world w1, data in A1, resources σS that the region does not write. -/
structure Bs (X : List Nat) (A1 : Nat → Prop) (w1 : World) (σS : List Res) : Prop where
  hd : Hd A1 σS w1
  nA : ∀ b, A1 b → b ∉ X
  nS : ∀ b ∈ blks σS, b ∉ X

def S1 (X : List Nat) (w1 w : World) : Prop := w1.heap.size ≤ w.heap.size ∧ ∀ b, b < w1.heap.size → b ∉ X → w.heap[b]? = w1.heap[b]?

def RH (P : Program) (C : Cx) (n : Nat) (ops : Array Oper) (X : List Nat) (A1 : Nat → Prop) (w1 : World) (K : Env → List Res → Prop) (fuel : Nat) (listed : Array Bool) (Eb E : Env) (σ : List Res) : Prop :=
  ∀ a w, Sim C n E σ a w → Slots A1 w1 Eb a.tmps → S1 X w1 w → (∀ b, b < w1.heap.size → A1 b → al C σ b) → wpAnyH P .any ops (Q0 C n K) (S1 X w1) fuel listed a w

/-- Operation number i is carried out. -/
def RO (P : Program) (C : Cx) (n : Nat) (ops : Array Oper) (X : List Nat) (A1 : Nat → Prop) (w1 : World) (K : Env → List Res → Prop) (fuel : Nat) (listed : Array Bool) (i : Nat) (Eb E : Env) (σ : List Res) : Prop :=
  ∀ a w, Sim C n E σ a w → Slots A1 w1 Eb a.tmps → S1 X w1 w → (∀ b, b < w1.heap.size → A1 b → al C σ b) →
    wpOp P ops (Q0 C n K) i (fun a' w' => S1 X w1 w' ∧ wpAnyH P .any ops (Q0 C n K) (S1 X w1) fuel (listed.setIfInBounds i true) a' w') a w

section
variable {P : Program} {C : Cx} {n : Nat} {ops : Array Oper} {X X' : List Nat} {A1 : Nat → Prop} {w1 : World} {σS : List Res} {K : Env → List Res → Prop} {fuel : Nat} {listed : Array Bool} {i : Nat} {Eb E : Env} {σ σ' : List Res} {o : Oper} {av : AV} {d : Nat} {N : AV → List Res → Prop}

theorem RH.done (hr : Region.ready .any ops listed = []) (h : K E σ) : RH P C n ops X A1 w1 K fuel listed Eb E σ := fun _ _ ha _ _ _ => wpAnyH_done hr ⟨rfl, E, σ, ha, h⟩ _

theorem RH.take (i : Nat) (hi : ops[i]? = some o) (hf : (Region.noSelect ops && Region.free .any ops listed i && (Region.ready .any ops listed).contains i) = true)
    (hg : Wants E o ops = some true) (hd : o.dst = some d) (hn : Nat.blt d n = true) (hB : Bs X A1 w1 σS) (hy : Yp P Eb σS o av)
    (next : RH P C n ops X A1 w1 K fuel (listed.setIfInBounds i true) ((d, av) :: Eb) ((d, av) :: E) σ) : RH P C n ops X A1 w1 K (fuel + 1) listed Eb E σ := by
  intro a w ha hb hS hA
  simp only [Bool.and_eq_true] at hf
  obtain ⟨⟨h1, h2⟩, h3⟩ := hf
  obtain ⟨v, h4, h5⟩ := hy A1 w1 a.eval hB.hd hb.ops
  refine wpAnyH_take hi h1 h2 h3 (fun c a w h => by cases h.1) (.inl ⟨Wants.spec ha.slots hg, fun w' hw' => h5 w' (fun b hb hc => hw'.2 b hb (hc.elim (hB.nA b) (hB.nS b)))⟩) hS ?_
  rw [hd]
  have hlt : d < a.tmps.size := by rw [ha.size]; simpa [Nat.blt_eq] using hn
  exact next _ _ (ha.put hn (h4.mono fun b hb hc => ⟨hA b hb hc, hS.2 b hb (hB.nA b hc)⟩)) (hb.put hlt h4) hS hA

theorem RH.pass (i : Nat) (hi : ops[i]? = some o) (hf : (Region.noSelect ops && Region.free .any ops listed i && (Region.ready .any ops listed).contains i) = true)
    (hg : Wants E o ops = some false) (hd : o.dst = some d) (hn : Nat.blt d n = true)
    (next : RH P C n ops X A1 w1 K fuel (listed.setIfInBounds i true) ((d, .lit undef) :: Eb) ((d, .lit undef) :: E) σ) : RH P C n ops X A1 w1 K (fuel + 1) listed Eb E σ := by
  intro a w ha hb hS hA
  simp only [Bool.and_eq_true] at hf
  obtain ⟨⟨h1, h2⟩, h3⟩ := hf
  refine wpAnyH_take hi h1 h2 h3 (fun c a w h => by cases h.1) (.inr ⟨Wants.spec ha.slots hg, rfl⟩) hS ?_
  rw [hd]
  have hlt : d < a.tmps.size := by rw [ha.size]; simpa [Nat.blt_eq] using hn
  exact next _ _ (ha.put hn (.lit _)) (hb.put hlt (.lit _)) hS hA

theorem RH.one (i : Nat) (hr : Region.ready .any ops listed = [i]) (h : RO P C n ops X A1 w1 K fuel listed i Eb E σ) : RH P C n ops X A1 w1 K (fuel + 1) listed Eb E σ := fun a w ha hb hS hA =>
  wpAnyH_all hr (by simp) fun j hj => by
    rw [List.mem_singleton] at hj
    subst hj
    exact h a w ha hb hS hA

theorem RH.two (i j : Nat) (hr : Region.ready .any ops listed = [i, j]) (h : RO P C n ops X A1 w1 K fuel listed i Eb E σ) (h' : RO P C n ops X A1 w1 K fuel listed j Eb E σ) : RH P C n ops X A1 w1 K (fuel + 1) listed Eb E σ := fun a w ha hb hS hA =>
  wpAnyH_all hr (by simp) fun k hk => by
    rcases List.mem_cons.1 hk with rfl | hk
    · exact h a w ha hb hS hA
    · rw [List.mem_singleton] at hk
      subst hk
      exact h' a w ha hb hS hA

theorem RH.three (i j k : Nat) (hr : Region.ready .any ops listed = [i, j, k]) (h : RO P C n ops X A1 w1 K fuel listed i Eb E σ) (h' : RO P C n ops X A1 w1 K fuel listed j Eb E σ) (h'' : RO P C n ops X A1 w1 K fuel listed k Eb E σ) : RH P C n ops X A1 w1 K (fuel + 1) listed Eb E σ := fun a w ha hb hS hA =>
  wpAnyH_all hr (by simp) fun l hl => by
    rcases List.mem_cons.1 hl with rfl | hl
    · exact h a w ha hb hS hA
    · rcases List.mem_cons.1 hl with rfl | hl
      · exact h' a w ha hb hS hA
      · rw [List.mem_singleton] at hl
        subst hl
        exact h'' a w ha hb hS hA

theorem S1.step {w w' : World} (h : S1 X w1 w) (hk : Kp X' w w') (hX : ∀ b ∈ X', b ∈ X) : S1 X w1 w' :=
  ⟨Nat.le_trans h.1 hk.size, fun b hb hn => (hk.block b (Nat.lt_of_lt_of_le hb h.1) (fun hx => hn (hX b hx))).trans (h.2 b hb hn)⟩

theorem RO.p (hi : ops[i]? = some o) (hg : Wants E o ops = some true) (hd : o.dst = some d) (hn : Nat.blt d n = true) (he : Env.get Eb d = none) (hr : Yp P E σ o av)
    (next : RH P C n ops X A1 w1 K fuel (listed.setIfInBounds i true) Eb ((d, av) :: E) σ) : RO P C n ops X A1 w1 K fuel listed i Eb E σ := by
  intro a w ha hb hS hA
  unfold wpOp
  rw [hi]
  show if Region.wanted o (yielded ops a.tmps) = true then _ else _
  rw [if_pos (Wants.spec ha.slots hg)]
  refine .inl ?_
  unfold Oper.wp
  obtain ⟨v, h1, h2⟩ := hr _ w a.eval ha.good.hd ha.slots.ops
  rw [h2 w (fun _ _ _ => rfl)]
  show S1 X w1 w ∧ wpAnyH P .any ops (Q0 C n K) (S1 X w1) fuel (listed.setIfInBounds i true) (a.put o.dst v) w
  rw [hd]
  exact ⟨hS, next _ _ (ha.put hn h1) (hb.past he v) hS hA⟩

theorem RO.v (hi : ops[i]? = some o) (hg : Wants E o ops = some true) (hd : o.dst = some d) (hn : Nat.blt d n = true) (he : Env.get Eb d = none) (hr : Yv P E σ o C X' N) (hX : ∀ b ∈ X', b ∈ X)
    (next : ∀ av σ', N av σ' → RH P C n ops X A1 w1 K fuel (listed.setIfInBounds i true) Eb ((d, av) :: E) σ') : RO P C n ops X A1 w1 K fuel listed i Eb E σ := by
  intro a w ha hb hS hA
  unfold wpOp
  rw [hi]
  show if Region.wanted o (yielded ops a.tmps) = true then _ else _
  rw [if_pos (Wants.spec ha.slots hg)]
  refine .inl ?_
  unfold Oper.wp
  obtain ⟨v, w', av, σ', h1, h2, h3, h4⟩ := hr w a.eval ha.good ha.slots.ops
  rw [h3]
  show S1 X w1 w' ∧ wpAnyH P .any ops (Q0 C n K) (S1 X w1) fuel (listed.setIfInBounds i true) (a.put o.dst v) w'
  rw [hd]
  have hS' := hS.step h2.kp hX
  exact ⟨hS', next _ _ h1 _ _ ((ha.tr h2).put hn h4) (hb.past he v) hS' (fun b hb hc => (h2.al b (Nat.lt_of_lt_of_le hb hS.1) (hA b hb hc)).1)⟩

theorem RO.u (hi : ops[i]? = some o) (hg : Wants E o ops = some true) (hd : o.dst = none) (hr : Yu P E σ o C X' σ') (hX : ∀ b ∈ X', b ∈ X)
    (next : RH P C n ops X A1 w1 K fuel (listed.setIfInBounds i true) Eb E σ') : RO P C n ops X A1 w1 K fuel listed i Eb E σ := by
  intro a w ha hb hS hA
  unfold wpOp
  rw [hi]
  show if Region.wanted o (yielded ops a.tmps) = true then _ else _
  rw [if_pos (Wants.spec ha.slots hg)]
  refine .inl ?_
  unfold Oper.wp
  obtain ⟨w', h2, h3⟩ := hr w a.eval ha.good ha.slots.ops
  rw [h3]
  show S1 X w1 w' ∧ wpAnyH P .any ops (Q0 C n K) (S1 X w1) fuel (listed.setIfInBounds i true) (a.put o.dst undef) w'
  rw [hd]
  have hS' := hS.step h2.kp hX
  exact ⟨hS', next _ _ (ha.tr h2) hb hS' (fun b hb hc => (h2.al b (Nat.lt_of_lt_of_le hb hS.1) (hA b hb hc)).1)⟩

theorem RO.skip (hi : ops[i]? = some o) (hg : Wants E o ops = some false) (hd : o.dst = some d) (hn : Nat.blt d n = true) (he : Env.get Eb d = none)
    (next : RH P C n ops X A1 w1 K fuel (listed.setIfInBounds i true) Eb ((d, .lit undef) :: E) σ) : RO P C n ops X A1 w1 K fuel listed i Eb E σ := by
  intro a w ha hb hS hA
  unfold wpOp
  rw [hi]
  show if Region.wanted o (yielded ops a.tmps) = true then _ else _
  rw [if_neg (by rw [Wants.spec ha.slots hg]; exact Bool.false_ne_true), hd]
  exact ⟨hS, next _ _ (ha.put hn (.lit _)) (hb.past he _) hS hA⟩

theorem RO.skip' (hi : ops[i]? = some o) (hg : Wants E o ops = some false) (hd : o.dst = none)
    (next : RH P C n ops X A1 w1 K fuel (listed.setIfInBounds i true) Eb E σ) : RO P C n ops X A1 w1 K fuel listed i Eb E σ := by
  intro a w ha hb hS hA
  unfold wpOp
  rw [hi]
  show if Region.wanted o (yielded ops a.tmps) = true then _ else _
  rw [if_neg (by rw [Wants.spec ha.slots hg]; exact Bool.false_ne_true), hd]
  exact ⟨hS, next _ _ ha hb hS hA⟩

theorem RO.c (hi : ops[i]? = some o) (hg : Wants E o ops = some true) (hd : o.dst = some d) (hn : Nat.blt d n = true) (he : Env.get Eb d = none) (hr : Yc P E σ o C X' N) (hX : ∀ b ∈ X', b ∈ X)
    (next : ∀ av σ', N av σ' → RH P C n ops X A1 w1 K fuel (listed.setIfInBounds i true) Eb ((d, av) :: E) σ') : RO P C n ops X A1 w1 K fuel listed i Eb E σ := by
  intro a w ha hb hS hA
  unfold wpOp
  rw [hi]
  show if Region.wanted o (yielded ops a.tmps) = true then _ else _
  rw [if_pos (Wants.spec ha.slots hg)]
  refine .inl ?_
  unfold Oper.wp
  obtain ⟨f, args, h1, h2⟩ := hr w a.eval ha.good ha.slots.ops
  rw [h1]
  refine Calls.mono h2 fun e w' hr => ?_
  obtain ⟨v, av, σ', rfl, h3, h4, h5⟩ := hr
  show S1 X w1 w' ∧ wpAnyH P .any ops (Q0 C n K) (S1 X w1) fuel (listed.setIfInBounds i true) (a.put o.dst v) w'
  rw [hd]
  have hS' := hS.step h4.kp hX
  exact ⟨hS', next _ _ h3 _ _ ((ha.tr h4).put hn h5) (hb.past he v) hS' (fun b hb hc => (h4.al b (Nat.lt_of_lt_of_le hb hS.1) (hA b hb hc)).1)⟩

theorem RO.c' (hi : ops[i]? = some o) (hg : Wants E o ops = some true) (hd : o.dst = none) (hr : Yc P E σ o C X' N) (hX : ∀ b ∈ X', b ∈ X)
    (next : ∀ av σ', N av σ' → RH P C n ops X A1 w1 K fuel (listed.setIfInBounds i true) Eb E σ') : RO P C n ops X A1 w1 K fuel listed i Eb E σ := by
  intro a w ha hb hS hA
  unfold wpOp
  rw [hi]
  show if Region.wanted o (yielded ops a.tmps) = true then _ else _
  rw [if_pos (Wants.spec ha.slots hg)]
  refine .inl ?_
  unfold Oper.wp
  obtain ⟨f, args, h1, h2⟩ := hr w a.eval ha.good ha.slots.ops
  rw [h1]
  refine Calls.mono h2 fun e w' hr => ?_
  obtain ⟨v, av, σ', rfl, h3, h4, h5⟩ := hr
  show S1 X w1 w' ∧ wpAnyH P .any ops (Q0 C n K) (S1 X w1) fuel (listed.setIfInBounds i true) (a.put o.dst v) w'
  rw [hd]
  have hS' := hS.step h4.kp hX
  exact ⟨hS', next _ _ h3 _ _ (ha.tr h4) hb hS' (fun b hb hc => (h4.al b (Nat.lt_of_lt_of_le hb hS.1) (hA b hb hc)).1)⟩
end

/-! ### Code -/

def CW (P : Program) (C : Cx) (n : Nat) (c : Code) (Q : Exit → Env → List Res → Prop) (E : Env) (σ : List Res) : Prop :=
  ∀ a w, Sim C n E σ a w → c.wp P (fun e a' w' => ∃ E' σ', Sim C n E' σ' a' w' ∧ Q e E' σ') a w

def SeqQ (P : Program) (C : Cx) (n : Nat) (y : Code) (Q : Exit → Env → List Res → Prop) : Exit → Env → List Res → Prop
  | .normal, E, σ => CW P C n y Q E σ
  | e, E, σ => Q e E σ

def CutQ (K : Env → List Res → Prop) (Q : Exit → Env → List Res → Prop) : Exit → Env → List Res → Prop
  | .normal, E, σ => K E σ
  | e, E, σ => Q e E σ

def BlockQ (id : Nat) (Q : Exit → Env → List Res → Prop) : Exit → Env → List Res → Prop
  | .exit id', E, σ => match Nat.beq id' id with
    | true => Q .normal E σ
    | false => Q (.exit id') E σ
  | e, E, σ => Q e E σ

def LoopQ {α : Type 1} (R : α → Nat → Env → List Res → Prop) (k : Nat) (Q : Exit → Env → List Res → Prop) : Exit → Env → List Res → Prop
  | .normal, E, σ => ∃ x k', k' < k ∧ R x k' E σ
  | e, E, σ => Q e E σ

section
variable {P : Program} {C : Cx} {n : Nat} {c x y : Code} {Q Q' : Exit → Env → List Res → Prop} {E E' : Env} {σ σ' : List Res}

theorem CW.weak (h : CW P C n c Q E σ) (hs : Sub E E') : CW P C n c Q E' σ := fun a w ha => h a w (ha.sub hs)

theorem CW.mono (h : CW P C n c Q E σ) (hq : ∀ e E σ, Q e E σ → Q' e E σ) : CW P C n c Q' E σ := fun a w ha =>
  wp_mono (h a w ha) fun _ _ _ ⟨E', σ', h1, h2⟩ => ⟨E', σ', h1, hq _ _ _ h2⟩

theorem CW.seq (h : CW P C n x (SeqQ P C n y Q) E σ) : CW P C n (.seq x y) Q E σ := fun a w ha => by
  refine wp_seq (wp_mono (h a w ha) fun e a' w' ⟨E', σ', h1, h2⟩ => ?_)
  cases e with
  | normal => exact h2 a' w' h1
  | _ => exact ⟨E', σ', h1, h2⟩

/-- What stands behind is shown once, of all that K says. -/
theorem CW.cut (K : Env → List Res → Prop) (first : CW P C n c (CutQ K Q) E σ) (rest : ∀ E σ, K E σ → Q .normal E σ) : CW P C n c Q E σ :=
  CW.mono first fun e E σ h => by cases e <;> first | exact rest E σ h | exact h

theorem CW.block {id : Nat} (h : CW P C n c (BlockQ id Q) E σ) : CW P C n (.block id c) Q E σ := fun a w ha => by
  refine wp_block (wp_mono (h a w ha) fun e a' w' ⟨E', σ', h1, h2⟩ => ?_)
  cases e with
  | exit id' =>
    simp only [BlockQ] at h2
    simp only [Exit.inBlock]
    split
    · rename_i he
      subst he
      have hb : Nat.beq id' id' = true := Nat.beq_refl _
      simp only [hb] at h2
      exact ⟨E', σ', h1, h2⟩
    · rename_i he
      have hb : Nat.beq id' id = false := by
        cases hb : Nat.beq id' id with
        | false => rfl
        | true => exact absurd (Nat.eq_of_beq_eq_true hb) he
      simp only [hb] at h2
      exact ⟨E', σ', h1, h2⟩
  | _ => exact ⟨E', σ', h1, h2⟩

theorem CW.exit {id : Nat} (h : Q (.exit id) E σ) : CW P C n (.exit id) Q E σ := fun _ _ ha => wp_exit ⟨E, σ, ha, h⟩
theorem CW.ret (h : Q .ret E σ) : CW P C n .ret Q E σ := fun _ _ ha => wp_ret ⟨E, σ, ha, h⟩
theorem CW.skip (h : Q .normal E σ) : CW P C n .skip Q E σ := fun _ _ ha => wp_skip ⟨E, σ, ha, h⟩

theorem ev_bool {a : Act} {w : World} {cnd : Operand} {b : Bool} (ha : Sim C n E σ a w) (hc : E.ev cnd = some (.lit (.bool b))) : a.eval cnd = .bool b := by
  exact (ha.slots.ops _ _ hc).litEq

theorem CW.cond {cnd : Operand} {b : Bool} (hc : E.ev cnd = some (.lit (.bool b))) (ht : b = true → CW P C n x Q E σ) (hf : b = false → CW P C n y Q E σ) : CW P C n (.cond cnd x y) Q E σ := fun a w ha => by
  have he := ev_bool ha hc
  cases b with
  | true => exact wp_cond_true he (ht rfl a w ha)
  | false => exact wp_cond_false he (hf rfl a w ha)
theorem CW.condT {cnd : Operand} (hc : E.ev cnd = some (.lit (.bool true))) (ht : CW P C n x Q E σ) : CW P C n (.cond cnd x y) Q E σ := fun a w ha => wp_cond_true (ev_bool ha hc) (ht a w ha)
theorem CW.condF {cnd : Operand} (hc : E.ev cnd = some (.lit (.bool false))) (ht : CW P C n y Q E σ) : CW P C n (.cond cnd x y) Q E σ := fun a w ha => wp_cond_false (ev_bool ha hc) (ht a w ha)

/-- R x k E σ: the loop begins a round with k to go. -/
theorem CW.loop {α : Type 1} (R : α → Nat → Env → List Res → Prop) (x0 : α) (k0 : Nat) (h0 : R x0 k0 E σ)
    (h : ∀ x k E σ, R x k E σ → CW P C n c (LoopQ R k Q) E σ) : CW P C n (.loop c) Q E σ := fun a w ha => by
  intro b kk cs
  have key : ∀ k a w, (∃ x E σ, R x k E σ ∧ Sim C n E σ a w) →
      ∃ e a' w', (∃ E' σ', Sim C n E' σ' a' w' ∧ Q e E' σ') ∧ Arrives P (lone (b.at a (.code c :: .inLoop c :: kk)) cs w) b kk cs e a' w' := by
    intro k
    induction k using Nat.strongRecOn with
    | _ k ih =>
      intro a w ⟨x, E, σ, hR, hE⟩
      obtain ⟨e, a₁, w₁, ⟨E', σ', hE', hq⟩, harr⟩ := h x k E σ hR a w hE b (.inLoop c :: kk) cs
      cases e with
      | normal =>
        obtain ⟨x', k', hlt, hR'⟩ := hq
        obtain ⟨e₂, a₂, w₂, hq₂, harr₂⟩ := ih k' hlt a₁ w₁ ⟨x', E', σ', hR', hE'⟩
        exact ⟨e₂, a₂, w₂, hq₂, .of_steps (Steps.trans harr (.one step_inLoop)) harr₂⟩
      | exit id => exact ⟨_, a₁, w₁, ⟨E', σ', hE', hq⟩, .pass (x := .inLoop c) rfl (fun _ _ => .inl (by simp)) harr⟩
      | goto l => exact ⟨_, a₁, w₁, ⟨E', σ', hE', hq⟩, .pass (x := .inLoop c) rfl (fun _ _ => .inl (by simp)) harr⟩
      | ret => exact ⟨_, a₁, w₁, ⟨E', σ', hE', hq⟩, .pass (x := .inLoop c) rfl (fun _ _ => .inl (by simp)) harr⟩
      | panic ch => exact ⟨_, a₁, w₁, ⟨E', σ', hE', hq⟩, .pass (x := .inLoop c) rfl (fun _ _ => .inl (by simp)) harr⟩
      | outgrown => exact ⟨_, a₁, w₁, ⟨E', σ', hE', hq⟩, .pass (x := .inLoop c) rfl (fun _ _ => .inl (by simp)) harr⟩
  obtain ⟨e, a', w', hq, harr⟩ := key k0 a w ⟨x0, E, σ, h0, ha⟩
  exact ⟨e, a', w', hq, .of_steps (.one step_loop) harr⟩

theorem CW.region {id : Nat} {l : List Oper} (h : RW P C n l.toArray (fun E' σ' => Q .normal E' σ') l E σ) : CW P C n (.region id l.toArray false) Q E σ := fun a w ha => by
  refine wp_mono (wp_region_lit (h a w ha)) fun e a' w' ⟨he, _, E', σ', h1, h2⟩ => ?_
  subst he
  exact ⟨E', σ', h1, h2⟩

theorem Good.drew {w : World} (h : Good C σ w) : Good C σ w.drew :=
  ⟨h.kept.trans (Kp.drew w) (by simp), fun r hr => (h.res r hr).mono (fun b _ hA => ⟨hA, rfl⟩) (fun _ _ => rfl), h.dis, h.own⟩

theorem Sim.drew {a : Act} {w : World} (h : Sim C n E σ a w) : Sim C n E σ a w.drew :=
  ⟨h.defers, h.size, fun i u hi => let ⟨v, h1, h2⟩ := h.slots i u hi; ⟨v, h1, h2.mono fun _ _ hA => ⟨hA, rfl⟩⟩, h.good.drew⟩

/-- X: the blocks that the region writes; σS: resources whose blocks are none of those. -/
theorem CW.draw {id : Nat} {l : List Oper} (N : Nat) (hN : l.toArray.size = N) (X : List Nat) (σS : List Res) (hX : ∀ b ∈ X, b ∈ blks σ) (hS : ∀ r ∈ σS, r ∈ σ) (hd : (blks σ).Nodup → ∀ b ∈ blks σS, b ∉ X) (hm : P.follows .mixedOrders = true)
    (h : ∀ A1 w1, Bs X A1 w1 σS → RH P C n l.toArray X A1 w1 (fun E' σ' => Q .normal E' σ') N (Array.replicate N false) E E σ) : CW P C n (.region id l.toArray true) Q E σ := fun a w ha => by
  subst hN
  have hb : Bs X (al C σ) w.drew σS := ⟨⟨fun r hr => ha.drew.good.res r (hS r hr), fun b hb hA => hA.2 (by
      obtain ⟨r, h1, h2⟩ := mem_blks.1 hb
      exact mem_blks.2 ⟨r, hS r h1, h2⟩)⟩, fun b hA hx => hA.2 (hX b hx), hd ha.good.dis⟩
  refine wp_mono (wp_region_held (S := S1 X w.drew) hm (h _ _ hb a w.drew ha.drew ha.drew.slots ⟨Nat.le_refl _, fun _ _ _ => rfl⟩ (fun b _ h => h))) fun e a' w' ⟨he, E', σ', h1, h2⟩ => ?_
  subst he
  exact ⟨E', σ', h1, h2⟩

/-! ### What is known, said otherwise -/

theorem blks_sub {σ σ' : List Res} (h : ∀ r ∈ σ', r ∈ σ) : ∀ b ∈ blks σ', b ∈ blks σ := fun b hb => by
  obtain ⟨r, h1, h2⟩ := mem_blks.1 hb
  exact mem_blks.2 ⟨r, h r h1, h2⟩

theorem Sim.less {a : Act} {w : World} (h : Sim C n E σ a w) (hs : List.Sublist σ' σ) : Sim C n E σ' a w := by
  have hm : ∀ r ∈ σ', r ∈ σ := fun r hr => hs.subset hr
  have hal : ∀ b, al C σ b → al C σ' b := fun b hb => ⟨hb.1, fun hx => hb.2 (blks_sub hm b hx)⟩
  exact ⟨h.defers.step (fun b _ hA => ⟨hal b hA, rfl⟩), h.size, fun i u hi => let ⟨v, h1, h2⟩ := h.slots i u hi; ⟨v, h1, h2.mono fun b _ hA => ⟨hal b hA, rfl⟩⟩,
    ⟨h.good.kept, fun r hr => (h.good.res r (hm r hr)).mono (fun b _ hA => ⟨hal b hA, rfl⟩) (fun _ _ => rfl), h.good.dis.sublist (hs.filterMap _), fun b hb => h.good.own b (blks_sub hm b hb)⟩⟩

theorem Sim.perm {a : Act} {w : World} (h : Sim C n E σ a w) (hp : List.Perm σ σ') : Sim C n E σ' a w := by
  have hb : ∀ b, b ∈ blks σ' ↔ b ∈ blks σ := fun b => (hp.filterMap _).symm.mem_iff
  have hal : ∀ b, al C σ b → al C σ' b := fun b hA => ⟨hA.1, fun hx => hA.2 ((hb b).1 hx)⟩
  exact ⟨h.defers.step (fun b _ hA => ⟨hal b hA, rfl⟩), h.size, fun i u hi => let ⟨v, h1, h2⟩ := h.slots i u hi; ⟨v, h1, h2.mono fun b _ hA => ⟨hal b hA, rfl⟩⟩,
    ⟨h.good.kept, fun r hr => (h.good.res r (hp.mem_iff.2 hr)).mono (fun b _ hA => ⟨hal b hA, rfl⟩) (fun _ _ => rfl), (hp.filterMap _).nodup_iff.1 h.good.dis, fun b hx => h.good.own b ((hb b).1 hx)⟩⟩

theorem CW.less (hs : List.Sublist σ' σ) (h : CW P C n c Q E σ') : CW P C n c Q E σ := fun a w ha => h a w (ha.less hs)
theorem CW.perm (hs : List.Perm σ σ') (h : CW P C n c Q E σ') : CW P C n c Q E σ := fun a w ha => h a w (ha.perm hs)
end
end Go.Ab
end
section
set_option linter.unusedSectionVars false
set_option linter.unusedVariables false
set_option linter.unusedSimpArgs false
namespace Go.Ab
open Go Go.RowKit

/-- integers wrapped to 64 bits -/
def w64 (n : Int) : Int := IntKind.i64.wrap n
theorem w64_eq {n : Int} (h : -9223372036854775808 ≤ n ∧ n ≤ 9223372036854775807) : w64 n = n := IntWalk.i64_in n h
def bAnd (k : IntKind) (x y : Int) : Int := k.wrap ((BitVec.ofInt k.bits x &&& BitVec.ofInt k.bits y).toNat)
def bOr (k : IntKind) (x y : Int) : Int := k.wrap ((BitVec.ofInt k.bits x ||| BitVec.ofInt k.bits y).toNat)
def bXor (k : IntKind) (x y : Int) : Int := k.wrap ((BitVec.ofInt k.bits x ^^^ BitVec.ofInt k.bits y).toNat)
def bClr (k : IntKind) (x y : Int) : Int := k.wrap ((BitVec.ofInt k.bits x &&& ~~~ BitVec.ofInt k.bits y).toNat)
def bShl (k : IntKind) (x y : Int) : Int := k.wrap (x * 2 ^ (min y.toNat k.bits))
def bShr (k : IntKind) (x y : Int) : Int := x.fdiv (2 ^ (min y.toNat k.bits))

abbrev AV.i (n : Int) : AV := .lit (.int .i64 n)
abbrev AV.n (k : IntKind) (n : Int) : AV := .lit (.int k n)
abbrev AV.b (b : Bool) : AV := .lit (.bool b)
abbrev AV.s (s : ByteArray) : AV := .lit (.string s)

section
variable {A : Nat → Prop} {w : World} {as0 bs : List AV} {us vs : List Value} {a : AV} {v : Value}
theorem RelL.nil : RelL A w [] [] := ⟨rfl, fun j a v h => by cases h⟩
theorem RelL.cons (h : Rel A w a v) (hs : RelL A w as0 us) : RelL A w (a :: as0) (v :: us) := by
  refine ⟨by simp [hs.1], fun j x y h1 h2 => ?_⟩
  cases j with
  | zero => simp at h1 h2; subst h1 h2; exact h
  | succ j => exact hs.2 j x y (by simpa using h1) (by simpa using h2)
theorem RelL.head (h : RelL A w (a :: as0) us) : ∃ v us', us = v :: us' ∧ Rel A w a v ∧ RelL A w as0 us' := by
  match us, h with
  | [], h => exact absurd h.1 (by simp)
  | v :: us', h => exact ⟨v, us', rfl, h.2 0 a v rfl rfl, by simpa using h.1, fun j x y h1 h2 => h.2 (j + 1) x y (by simpa using h1) (by simpa using h2)⟩
theorem RelL.app (h : RelL A w as0 us) (h' : RelL A w bs vs) : RelL A w (as0 ++ bs) (us ++ vs) := by
  refine ⟨by simp [h.1, h'.1], fun j x y h1 h2 => ?_⟩
  rw [List.getElem?_append] at h1 h2
  rw [h.1] at h2
  split at h1
  · rw [if_pos (by assumption)] at h2; exact h.2 j x y h1 h2
  · rw [if_neg (by assumption)] at h2; exact h'.2 _ x y h1 h2
theorem RelL.take (n : Nat) (h : RelL A w as0 us) : RelL A w (as0.take n) (us.take n) := by
  refine ⟨by simp [h.1], fun j x y h1 h2 => ?_⟩
  rw [List.getElem?_take] at h1 h2
  split at h1
  · rw [if_pos (by assumption)] at h2; exact h.2 j x y h1 h2
  · cases h1
theorem RelL.drop (n : Nat) (h : RelL A w as0 us) : RelL A w (as0.drop n) (us.drop n) := by
  refine ⟨by simp [h.1], fun j x y h1 h2 => ?_⟩
  rw [List.getElem?_drop] at h1 h2
  exact h.2 _ x y h1 h2
theorem RelL.get (h : RelL A w as0 us) {j : Nat} (hj : as0[j]? = some a) : ∃ v, us[j]? = some v ∧ Rel A w a v := by
  have hlt : j < us.length := by rw [h.1]; exact (List.getElem?_eq_some_iff.1 hj).1
  exact ⟨us[j], List.getElem?_eq_getElem hlt, h.2 j a _ hj (List.getElem?_eq_getElem hlt)⟩
theorem RelL.set {j : Nat} (h : RelL A w as0 us) (hr : Rel A w a v) : RelL A w (as0.set j a) (us.set j v) := by
  refine ⟨by simp [h.1], fun i x y h1 h2 => ?_⟩
  rw [List.getElem?_set] at h1 h2
  split at h1
  · rename_i hji
    rw [if_pos hji] at h2
    split at h1
    · rw [if_pos (by rw [h.1]; assumption)] at h2
      cases h1; cases h2
      exact hr
    · cases h1
  · rw [if_neg (by assumption)] at h2
    exact h.2 i x y h1 h2
theorem RelL.lits (us : List Value) : RelL A w (us.map .lit) us := ⟨by simp, fun j a v h1 h2 => by
  rw [List.getElem?_map, h2] at h1
  cases h1
  exact .lit v⟩
theorem Rel.aggL {cs : List AV} (h : RelL A w cs us) : Rel A w (.agg cs) (.agg us.toArray) := .agg cs us h.1 h.2
theorem Rel.tupL {cs : List AV} (h : RelL A w cs us) : Rel A w (.tup cs) (.tuple us.toArray) := .tup cs us h.1 h.2
end

section
variable {A : Nat → Prop} {w : World} {v : Value} {cs : List AV}
theorem Rel.aggInv (h : Rel A w (.agg cs) v) : ∃ us : List Value, v = .agg us.toArray ∧ RelL A w cs us := by
  generalize ha : AV.agg cs = a at h
  cases h with
  | agg cs us hl hr => cases ha; exact ⟨us, rfl, hl, hr⟩
  | _ => cases ha
theorem Rel.tupInv (h : Rel A w (.tup cs) v) : ∃ us : List Value, v = .tuple us.toArray ∧ RelL A w cs us := by
  generalize ha : AV.tup cs = a at h
  cases h with
  | tup cs us hl hr => cases ha; exact ⟨us, rfl, hl, hr⟩
  | _ => cases ha
theorem Rel.fnInv {f : Fn} (h : Rel A w (.fn f cs) v) : ∃ us : List Value, v = .func f #[] us.toArray ∧ RelL A w cs us := by
  generalize ha : AV.fn f cs = a at h
  cases h with
  | fn f cs us hl hr => cases ha; exact ⟨us, rfl, hl, hr⟩
  | _ => cases ha
theorem Rel.fpInv (h : Rel A w (.fp cs) v) : ∃ b o us, v = .pointer (some ⟨b, o, none⟩) ∧ b < w.heap.size ∧ A b ∧ (∀ (j : Nat) u, us[j]? = some u → w.cell? ⟨b, o + j, none⟩ = some u) ∧ RelL A w cs us := by
  generalize ha : AV.fp cs = a at h
  cases h with
  | fp cs b o us hb hA hl hc hr => cases ha; exact ⟨b, o, us, rfl, hb, hA, hc, hl, hr⟩
  | _ => cases ha
theorem Rel.rpInv {u : Value} {k : Nat} (h : Rel A w (.rp u k) v) : ∃ g, rblk u = some g ∧ v = .pointer (some ⟨g, k, none⟩) := by
  generalize ha : AV.rp u k = a at h
  cases h with
  | rp u k g h => cases ha; exact ⟨g, h, rfl⟩
  | _ => cases ha
theorem Rel.slInv {α : Type} [Inhabited α] {sz : Nat} {c : α → List AV} {l : List α} (h : Rel A w (.sl sz c l) v) : ∃ p cap, ∃ u : Nat → Nat → Value, v = .slice p l.length cap ∧ l.length ≤ 9223372036854775807 ∧ l.length ≤ cap ∧ (∀ i, i < l.length → (c l[i]!).length = sz) ∧
    (∀ i, i < l.length → ∃ b off, p = some ⟨b, off, none⟩ ∧ b < w.heap.size ∧ A b ∧ ∀ j, j < sz → w.cell? ⟨b, off + i * sz + j, none⟩ = some (u i j)) ∧ ∀ i j a, i < l.length → (c l[i]!)[j]? = some a → Rel A w a (u i j) := by
  generalize ha : AV.sl sz c l = a at h
  cases h with
  | sl sz c l p cap u hl hcap hz hc hr =>
    cases ha
    exact ⟨p, cap, u, rfl, hl, hcap, hz, hc, hr⟩
  | _ => cases ha
/-- the cells of an element -/
theorem Rel.slAt {α : Type} [Inhabited α] {sz : Nat} {c : α → List AV} {l : List α} {p : Option Addr} {n cap : Nat} (h : Rel A w (.sl sz c l) (.slice p n cap)) {i : Nat} (hi : i < l.length) :
    ∃ b off us, p = some ⟨b, off, none⟩ ∧ b < w.heap.size ∧ A b ∧ us.length = sz ∧ (∀ (j : Nat) u, us[j]? = some u → w.cell? ⟨b, off + i * sz + j, none⟩ = some u) ∧ RelL A w (c l[i]!) us := by
  obtain ⟨p', cap', u, hv, _, _, h1, h2, h3⟩ := h.slInv
  cases hv
  obtain ⟨b, off, hp, hb, hA, hc⟩ := h2 i hi
  refine ⟨b, off, (List.range sz).map (u i), hp, hb, hA, by simp, fun j v hj => ?_, by rw [List.length_map, List.length_range, h1 i hi], fun j a v ha hv => ?_⟩
  · rw [List.getElem?_map] at hj
    by_cases hlt : j < sz
    · rw [List.getElem?_range hlt] at hj
      cases hj
      exact hc j hlt
    · rw [List.getElem?_eq_none (by simpa using hlt)] at hj
      cases hj
  · have hlt : j < sz := by rw [← h1 i hi]; exact (List.getElem?_eq_some_iff.1 ha).1
    rw [List.getElem?_map, List.getElem?_range hlt] at hv
    cases hv
    exact h3 i j a hi ha
end

theorem RowIs.len {w : World} {v : Value} {T : TypeId} {sz n : Nat} {us : List Value} (h : RowIs w v T sz n us) : ∃ p cap, v = .slice p n cap ∧ n ≤ cap := by
  rcases h.2 with ⟨p, rfl, rfl⟩ | ⟨g, cap, cur, rfl, hg, h1, _⟩
  · exact ⟨p, 0, rfl, Nat.le_refl _⟩
  · exact ⟨_, _, rfl, h1⟩
theorem RowIs.at {w : World} {v : Value} {T : TypeId} {sz n : Nat} {us : List Value} (h : RowIs w v T sz n us) (hn : 0 < n) : ∃ g cap cur, v = .slice (some ⟨g, 0, none⟩) n (cap + 1) ∧ rblk v = some g ∧ Blk w g cur T ∧ n ≤ cap + 1 ∧ cap + 1 ≤ maxLen ∧ cur.size = (cap + 1) * sz ∧ cur.toList.take (n * sz) = us := by
  rcases h.2 with ⟨p, rfl, rfl⟩ | ⟨g, cap, cur, rfl, hg, h1⟩
  · cases hn
  · exact ⟨g, cap, cur, rfl, rfl, hg, h1⟩
theorem RowIs.cells {w : World} {v : Value} {T : TypeId} {sz n : Nat} {us : List Value} (h : RowIs w v T sz n us) {g : Nat} (hg : rblk v = some g) : ∀ (j : Nat) u, us[j]? = some u → w.cell? ⟨g, j, none⟩ = some u := fun j u hj => by
  rcases h.2 with ⟨p, rfl, rfl⟩ | ⟨g', cap, cur, rfl, q1, _, _, _, q2⟩
  · cases p <;> cases hg
  · cases hg
    rw [← q2, List.getElem?_take] at hj
    split at hj
    · exact Blk.cell q1 (by simpa using hj)
    · cases hj

def Env.evl (E : Env) : List Operand → Option (List AV)
  | [] => some []
  | x :: xs => match E.ev x, Env.evl E xs with
    | some a, some as0 => some (a :: as0)
    | _, _ => none
theorem Env.evl_rel {A : Nat → Prop} {w : World} {E : Env} {ρ : Operand → Value} (h : Ops A w E ρ) : ∀ {xs : List Operand} {as0 : List AV}, E.evl xs = some as0 → RelL A w as0 (xs.map ρ)
  | [], as0, he => by cases he; exact RelL.nil
  | x :: xs, as0, he => by
    unfold Env.evl at he
    cases h1 : E.ev x with
    | none => rw [h1] at he; cases he
    | some a =>
      cases h2 : E.evl xs with
      | none => rw [h1, h2] at he; cases he
      | some as' =>
        rw [h1, h2] at he
        cases he
        exact RelL.cons (h x a h1) (Env.evl_rel h h2)

section
variable {P : Program} {E : Env} {σ : List Res} {o : Oper} {T T' e : TypeId} {x y z : Operand} {av bv : AV} {v u : Value} {m n : Int} {b : Bool} {k : IntKind}

theorem Yp.lits (h : ∀ ρ : Operand → Value, (∀ x u, E.ev x = some (.lit u) → ρ x = u) → ∀ w, (execOp ρ o).run P w = .ok (.value v) w) : Yp P E σ o (.lit v) := fun A w ρ _ hρ =>
  ⟨v, .lit v, fun w' _ => h ρ (fun x u hx => (hρ x _ hx).litEq) w'⟩

theorem Yp.eq (h : Yp P E σ o av) (he : av = bv) : Yp P E σ o bv := he ▸ h

theorem Yp.move (ho : o.op = .move x) (hx : E.ev x = some av) : Yp P E σ o av := fun A w ρ _ hρ =>
  ⟨ρ x, hρ _ _ hx, fun w' _ => by simp [execOp, ho]⟩
theorem Yp.assign (ho : o.op = .assign x) (hx : E.ev x = some av) : Yp P E σ o av := fun A w ρ _ hρ =>
  ⟨ρ x, hρ _ _ hx, fun w' _ => by simp [execOp, ho]⟩
theorem Yp.pickT (ho : o.op = .pick z x y) (hc : E.ev z = some (.b true)) (hx : E.ev x = some av) : Yp P E σ o av := fun A w ρ _ hρ =>
  ⟨ρ x, hρ _ _ hx, fun w' _ => by simp [execOp, ho, (hρ _ _ hc).litEq, asBool]⟩
theorem Yp.pickF (ho : o.op = .pick z x y) (hc : E.ev z = some (.b false)) (hx : E.ev y = some av) : Yp P E σ o av := fun A w ρ _ hρ =>
  ⟨ρ y, hρ _ _ hx, fun w' _ => by simp [execOp, ho, (hρ _ _ hc).litEq, asBool]⟩

theorem Yp.add (ho : o.op = .binOp .add T x y T') (hx : E.ev x = some (.n k m)) (hy : E.ev y = some (.n k n)) : Yp P E σ o (.n k (k.wrap (m + n))) := Yp.lits fun ρ hρ w => by
  simp [execOp, ho, hρ _ _ hx, hρ _ _ hy, eqGuard, binOp, Op.intArith]
theorem Yp.sub (ho : o.op = .binOp .sub T x y T') (hx : E.ev x = some (.n k m)) (hy : E.ev y = some (.n k n)) : Yp P E σ o (.n k (k.wrap (m - n))) := Yp.lits fun ρ hρ w => by
  simp [execOp, ho, hρ _ _ hx, hρ _ _ hy, eqGuard, binOp, Op.intArith]
theorem Yp.mul (ho : o.op = .binOp .mul T x y T') (hx : E.ev x = some (.n k m)) (hy : E.ev y = some (.n k n)) : Yp P E σ o (.n k (k.wrap (m * n))) := Yp.lits fun ρ hρ w => by
  simp [execOp, ho, hρ _ _ hx, hρ _ _ hy, eqGuard, binOp, Op.intArith]
theorem Yp.quo (ho : o.op = .binOp .quo T x y T') (hx : E.ev x = some (.n k m)) (hy : E.ev y = some (.n k n)) (h : n ≠ 0) : Yp P E σ o (.n k (k.wrap (m.tdiv n))) := Yp.lits fun ρ hρ w => by
  simp [execOp, ho, hρ _ _ hx, hρ _ _ hy, eqGuard, binOp, Op.intDiv, h]
theorem Yp.rem (ho : o.op = .binOp .rem T x y T') (hx : E.ev x = some (.n k m)) (hy : E.ev y = some (.n k n)) (h : n ≠ 0) : Yp P E σ o (.n k (m.tmod n)) := Yp.lits fun ρ hρ w => by
  simp [execOp, ho, hρ _ _ hx, hρ _ _ hy, eqGuard, binOp, Op.intDiv, h]
theorem Yp.and (ho : o.op = .binOp .and T x y T') (hx : E.ev x = some (.n k m)) (hy : E.ev y = some (.n k n)) : Yp P E σ o (.n k (bAnd k m n)) := Yp.lits fun ρ hρ w => by
  simp [execOp, ho, hρ _ _ hx, hρ _ _ hy, eqGuard, binOp, Op.intBits, bAnd]
theorem Yp.or (ho : o.op = .binOp .or T x y T') (hx : E.ev x = some (.n k m)) (hy : E.ev y = some (.n k n)) : Yp P E σ o (.n k (bOr k m n)) := Yp.lits fun ρ hρ w => by
  simp [execOp, ho, hρ _ _ hx, hρ _ _ hy, eqGuard, binOp, Op.intBits, bOr]
theorem Yp.xor (ho : o.op = .binOp .xor T x y T') (hx : E.ev x = some (.n k m)) (hy : E.ev y = some (.n k n)) : Yp P E σ o (.n k (bXor k m n)) := Yp.lits fun ρ hρ w => by
  simp [execOp, ho, hρ _ _ hx, hρ _ _ hy, eqGuard, binOp, Op.intBits, bXor]
theorem Yp.andNot (ho : o.op = .binOp .andNot T x y T') (hx : E.ev x = some (.n k m)) (hy : E.ev y = some (.n k n)) : Yp P E σ o (.n k (bClr k m n)) := Yp.lits fun ρ hρ w => by
  simp [execOp, ho, hρ _ _ hx, hρ _ _ hy, eqGuard, binOp, Op.intBits, bClr]
theorem Yp.shl {k' : IntKind} (ho : o.op = .binOp .shl T x y T') (hx : E.ev x = some (.n k m)) (hy : E.ev y = some (.n k' n)) (h : 0 ≤ n) : Yp P E σ o (.n k (bShl k m n)) := Yp.lits fun ρ hρ w => by
  have : ¬ n < 0 := by omega
  simp [execOp, ho, hρ _ _ hx, hρ _ _ hy, eqGuard, binOp, Op.shift, bShl, this]
theorem Yp.shr {k' : IntKind} (ho : o.op = .binOp .shr T x y T') (hx : E.ev x = some (.n k m)) (hy : E.ev y = some (.n k' n)) (h : 0 ≤ n) : Yp P E σ o (.n k (bShr k m n)) := Yp.lits fun ρ hρ w => by
  have : ¬ n < 0 := by omega
  simp [execOp, ho, hρ _ _ hx, hρ _ _ hy, eqGuard, binOp, Op.shift, bShr, this]
theorem Yp.lss (ho : o.op = .binOp .lss T x y T') (hx : E.ev x = some (.n k m)) (hy : E.ev y = some (.n k n)) : Yp P E σ o (.b (decide (m < n))) := Yp.lits fun ρ hρ w => by
  simp [execOp, ho, hρ _ _ hx, hρ _ _ hy, eqGuard, binOp, Op.intCmp]
theorem Yp.leq (ho : o.op = .binOp .leq T x y T') (hx : E.ev x = some (.n k m)) (hy : E.ev y = some (.n k n)) : Yp P E σ o (.b (decide (m ≤ n))) := Yp.lits fun ρ hρ w => by
  simp [execOp, ho, hρ _ _ hx, hρ _ _ hy, eqGuard, binOp, Op.intCmp]
theorem Yp.gtr (ho : o.op = .binOp .gtr T x y T') (hx : E.ev x = some (.n k m)) (hy : E.ev y = some (.n k n)) : Yp P E σ o (.b (decide (n < m))) := Yp.lits fun ρ hρ w => by
  simp [execOp, ho, hρ _ _ hx, hρ _ _ hy, eqGuard, binOp, Op.intCmp]
theorem Yp.geq (ho : o.op = .binOp .geq T x y T') (hx : E.ev x = some (.n k m)) (hy : E.ev y = some (.n k n)) : Yp P E σ o (.b (decide (n ≤ m))) := Yp.lits fun ρ hρ w => by
  simp [execOp, ho, hρ _ _ hx, hρ _ _ hy, eqGuard, binOp, Op.intCmp]
theorem Yp.eql (ho : o.op = .binOp .eql T x y T') (hx : E.ev x = some (.n k m)) (hy : E.ev y = some (.n k n)) : Yp P E σ o (.b (decide (m = n))) := Yp.lits fun ρ hρ w => by
  have : (m == n) = decide (m = n) := rfl
  simp [execOp, ho, hρ _ _ hx, hρ _ _ hy, eqGuard, binOp, Op.intCmp, this]
theorem Yp.neq (ho : o.op = .binOp .neq T x y T') (hx : E.ev x = some (.n k m)) (hy : E.ev y = some (.n k n)) : Yp P E σ o (.b (!decide (m = n))) := Yp.lits fun ρ hρ w => by
  have : (m != n) = !decide (m = n) := rfl
  simp [execOp, ho, hρ _ _ hx, hρ _ _ hy, eqGuard, binOp, Op.intCmp, this]
theorem Yp.not (ho : o.op = .unOp .not T x) (hx : E.ev x = some (.b b)) : Yp P E σ o (.b (!b)) := Yp.lits fun ρ hρ w => by
  simp [execOp, ho, hρ _ _ hx, Op.unary]
theorem Yp.neg (ho : o.op = .unOp .neg T x) (hx : E.ev x = some (.n k n)) : Yp P E σ o (.n k (k.wrap (0 - n))) := Yp.lits fun ρ hρ w => by
  simp [execOp, ho, hρ _ _ hx, Op.unary, Op.intArith]
theorem Yp.max (ho : o.op = .call { callee := .builtin .max, args := #[x, y], argTypes := #[T, T'] }) (hx : E.ev x = some (.n k m)) (hy : E.ev y = some (.n k n)) : Yp P E σ o (.n k (if m < n then n else m)) := Yp.lits fun ρ hρ w => by
  simp [execOp, ho, resolve, invoke, builtin, Builtin.max_, Builtin.max2, hρ _ _ hx, hρ _ _ hy]
theorem Yp.min (ho : o.op = .call { callee := .builtin .min, args := #[x, y], argTypes := #[T, T'] }) (hx : E.ev x = some (.n k m)) (hy : E.ev y = some (.n k n)) : Yp P E σ o (.n k (if n < m then n else m)) := Yp.lits fun ρ hρ w => by
  simp [execOp, ho, resolve, invoke, builtin, Builtin.min_, Builtin.min2, hρ _ _ hx, hρ _ _ hy]

theorem Yp.lenNil (ho : o.op = .call { callee := .builtin .len, args := #[x], argTypes := #[T] }) (hx : E.ev x = some (.lit (.slice none 0 0))) (hT : P.underlying T = some (.slice e)) : Yp P E σ o (.i 0) := Yp.lits fun ρ hρ w => by
  simp [execOp, ho, resolve, invoke, builtin, Builtin.len_, hρ _ _ hx, run_underlying hT, goInt]
theorem Yp.lenSl {α : Type} [Inhabited α] {sz : Nat} {c : α → List AV} {l : List α} (ho : o.op = .call { callee := .builtin .len, args := #[x], argTypes := #[T] }) (hx : E.ev x = some (.sl sz c l)) (hT : P.underlying T = some (.slice e)) : Yp P E σ o (.i (l.length : Int)) := fun A w ρ _ hρ => by
  obtain ⟨p, cap, u, hv, _⟩ := (hρ _ _ hx).slInv
  exact ⟨_, .lit _, fun w' _ => by simp [execOp, ho, resolve, invoke, builtin, Builtin.len_, hv, run_underlying hT, goInt]⟩
theorem Yp.lenRow {α : Type} [Inhabited α] {sz : Nat} {c : α → List AV} {l : List α} {t : TypeId} (i : Nat) (ho : o.op = .call { callee := .builtin .len, args := #[x], argTypes := #[T] }) (hx : E.ev x = some (.lit v)) (hσ : σ[i]? = some (.row v t sz c l)) (hT : P.underlying T = some (.slice e)) : Yp P E σ o (.i (l.length : Int)) := fun A w ρ hd hρ => by
  obtain ⟨us, h1, _⟩ := hd.1 _ (List.mem_of_getElem? hσ)
  obtain ⟨p, cap, hv, _⟩ := h1.len
  have hx' := (hρ _ _ hx).litEq
  exact ⟨_, .lit _, fun w' _ => by simp [execOp, ho, resolve, invoke, builtin, Builtin.len_, hx', hv, run_underlying hT, goInt]⟩
theorem Yp.lenStr {s : ByteArray} (ho : o.op = .call { callee := .builtin .len, args := #[x], argTypes := #[T] }) (hx : E.ev x = some (.s s)) (hT : P.underlying T = some .string) : Yp P E σ o (.i (s.size : Int)) := Yp.lits fun ρ hρ w => by
  simp [execOp, ho, resolve, invoke, builtin, Builtin.len_, hρ _ _ hx, goInt, run_underlying hT]

theorem Yp.func {fn : Fn} {fs cs : Array Operand} {as0 : List AV} (ho : o.op = .makeFunc fn fs cs) (h0 : fs = #[]) (hc : E.evl cs.toList = some as0) : Yp P E σ o (.fn fn as0) := fun A w ρ _ hρ => by
  have h := Env.evl_rel hρ hc
  exact ⟨_, .fn fn as0 _ h.1 h.2, fun w' _ => by
    have : cs.map ρ = (cs.toList.map ρ).toArray := by apply Array.ext'; simp
    simp [execOp, ho, Instr.makeFunc, h0, this]⟩
theorem Yp.extract {i : Nat} {cs : List AV} (ho : o.op = .extract x i) (hx : E.ev x = some (.tup cs)) (hv : cs[i]? = some av) : Yp P E σ o av := fun A w ρ _ hρ => by
  obtain ⟨us, h1, h2⟩ := (hρ _ _ hx).tupInv
  obtain ⟨v, h3, h4⟩ := h2.get hv
  exact ⟨v, h4, fun w' _ => by simp [execOp, ho, Instr.extract, h1, h3]⟩

theorem Yp.nilCheckP {a : Addr} (ho : o.op = .nilCheck x) (hx : E.ev x = some (.lit (.pointer (some a)))) : Yp P E σ o (.lit (.pointer (some a))) := Yp.lits fun ρ hρ w => by
  simp [execOp, ho, hρ _ _ hx]
theorem Yp.nilCheckF {cs : List AV} (ho : o.op = .nilCheck x) (hx : E.ev x = some (.fp cs)) : Yp P E σ o (.fp cs) := fun A w ρ _ hρ => by
  obtain ⟨b, of, us, h1, _⟩ := (hρ _ _ hx).fpInv
  exact ⟨ρ x, hρ _ _ hx, fun w' _ => by simp [execOp, ho, h1]⟩
theorem Yp.nilCheckR {k : Nat} (ho : o.op = .nilCheck x) (hx : E.ev x = some (.rp v k)) : Yp P E σ o (.rp v k) := fun A w ρ _ hρ => by
  obtain ⟨g, _, h1⟩ := (hρ _ _ hx).rpInv
  exact ⟨ρ x, hρ _ _ hx, fun w' _ => by simp [execOp, ho, h1]⟩

/-! ### addresses -/

theorem add0 (b of k : Nat) : (⟨b, of, none⟩ : Addr).add k = ⟨b, of + k, none⟩ := by unfold Addr.add; split <;> simp_all

theorem Yp.fieldP {fs : Array Field} {f : Field} {i b' of sz : Nat} (ho : o.op = .fieldAddr T x i) (hx : E.ev x = some (.lit (.pointer (some ⟨b', of, none⟩)))) (hT : P.underlying T = some (.struct fs)) (hf : fs[i]? = some f) (hs : (P.info? f.type).map (·.size) = some (sz + 1)) :
    Yp P E σ o (.lit (.pointer (some ⟨b', of + f.offset, none⟩))) := Yp.lits fun ρ hρ w => by
  obtain ⟨j, hj, hj'⟩ := Option.map_eq_some_iff.1 hs
  simp [execOp, ho, Instr.fieldAt, hρ _ _ hx, run_underlying hT, hf, Instr.sureAddr, fieldPlace, sizeOf, typeInfo, hj, hj', add0]
theorem Yp.fieldF {fs : Array Field} {f : Field} {i sz : Nat} {cs : List AV} (ho : o.op = .fieldAddr T x i) (hx : E.ev x = some (.fp cs)) (hT : P.underlying T = some (.struct fs)) (hf : fs[i]? = some f) (hs : (P.info? f.type).map (·.size) = some (sz + 1)) :
    Yp P E σ o (.fp (cs.drop f.offset)) := fun A w ρ _ hρ => by
  obtain ⟨j, hj, hj'⟩ := Option.map_eq_some_iff.1 hs
  obtain ⟨b, of, us, h1, hb, hA, hc, hr⟩ := (hρ _ _ hx).fpInv
  refine ⟨_, .fp _ b (of + f.offset) (us.drop f.offset) hb hA (hr.drop _).1 (fun j v hj => ?_) (hr.drop _).2, fun w' _ => by simp [execOp, ho, Instr.fieldAt, h1, run_underlying hT, hf, Instr.sureAddr, fieldPlace, sizeOf, typeInfo, hj, hj', add0]⟩
  rw [List.getElem?_drop] at hj
  rw [Nat.add_assoc]
  exact hc _ v hj
theorem Yp.fieldR {fs : Array Field} {f : Field} {i sz k : Nat} (ho : o.op = .fieldAddr T x i) (hx : E.ev x = some (.rp v k)) (hT : P.underlying T = some (.struct fs)) (hf : fs[i]? = some f) (hs : (P.info? f.type).map (·.size) = some (sz + 1)) :
    Yp P E σ o (.rp v (k + f.offset)) := fun A w ρ _ hρ => by
  obtain ⟨j, hj, hj'⟩ := Option.map_eq_some_iff.1 hs
  obtain ⟨g, h1, h2⟩ := (hρ _ _ hx).rpInv
  exact ⟨_, .rp v _ g h1, fun w' _ => by simp [execOp, ho, Instr.fieldAt, h2, run_underlying hT, hf, Instr.sureAddr, fieldPlace, sizeOf, typeInfo, hj, hj', add0]⟩

theorem Yp.indexSl {α : Type} [Inhabited α] {sz : Nat} {c : α → List AV} {l : List α} (ho : o.op = .indexAddr T x y) (hx : E.ev x = some (.sl sz c l)) (hy : E.ev y = some (.n k m)) (hT : P.underlying T = some (.slice e)) (hs : (P.info? e).map (·.size) = some sz)
    (hm : 0 ≤ m ∧ m < l.length) : Yp P E σ o (.fp (c l[m.toNat]!)) := fun A w ρ _ hρ => by
  obtain ⟨j, hj, hj'⟩ := Option.map_eq_some_iff.1 hs
  have hr := hρ _ _ hx
  obtain ⟨p, cap, _, hv, _⟩ := hr.slInv
  rw [hv] at hr
  obtain ⟨b, off, us, hp, hb, hA, hl, hc, hL⟩ := hr.slAt (i := m.toNat) (by omega)
  refine ⟨_, .fp _ b (off + m.toNat * sz) us hb hA hL.1 hc hL.2, fun w' _ => ?_⟩
  have hy' := (hρ _ _ hy).litEq
  simp [execOp, ho, Instr.indexAt, hv, hp, hy', run_underlying hT, sizeOf, typeInfo, hj, hj', add0, asIntOf, hm]
theorem Yp.indexRow {α : Type} [Inhabited α] {sz : Nat} {c : α → List AV} {l : List α} {t : TypeId} (i : Nat) (ho : o.op = .indexAddr T x y) (hx : E.ev x = some (.lit v)) (hσ : σ[i]? = some (.row v t sz c l)) (hy : E.ev y = some (.n k m)) (hT : P.underlying T = some (.slice e)) (hs : (P.info? e).map (·.size) = some sz)
    (hm : 0 ≤ m ∧ m < l.length) : Yp P E σ o (.rp v (m.toNat * sz)) := fun A w ρ hd hρ => by
  obtain ⟨j, hj, hj'⟩ := Option.map_eq_some_iff.1 hs
  obtain ⟨us, h1, _⟩ := hd.1 _ (List.mem_of_getElem? hσ)
  obtain ⟨g, cap, cur, hv, hg, _⟩ := h1.at (by omega)
  have hx' := (hρ _ _ hx).litEq
  have hy' := (hρ _ _ hy).litEq
  refine ⟨_, .rp v _ g hg, fun w' _ => ?_⟩
  simp [execOp, ho, Instr.indexAt, hx', hv, hy', run_underlying hT, sizeOf, typeInfo, hj, hj', add0, asIntOf, hm]
theorem Yp.indexP {b' of sz n' : Nat} (ho : o.op = .indexAddr T x y) (hx : E.ev x = some (.lit (.pointer (some ⟨b', of, none⟩)))) (hy : E.ev y = some (.n k m)) (hT : P.underlying T = some (.array n' e)) (hs : (P.info? e).map (·.size) = some sz)
    (hm : 0 ≤ m ∧ m < n') : Yp P E σ o (.lit (.pointer (some ⟨b', of + m.toNat * sz, none⟩))) := Yp.lits fun ρ hρ w => by
  obtain ⟨j, hj, hj'⟩ := Option.map_eq_some_iff.1 hs
  simp [execOp, ho, Instr.indexAt, hρ _ _ hx, hρ _ _ hy, run_underlying hT, sizeOf, typeInfo, hj, hj', add0, asIntOf, hm, Instr.sureAddr]
theorem Yp.indexR {k' sz n' : Nat} (ho : o.op = .indexAddr T x y) (hx : E.ev x = some (.rp v k')) (hy : E.ev y = some (.n k m)) (hT : P.underlying T = some (.array n' e)) (hs : (P.info? e).map (·.size) = some sz)
    (hm : 0 ≤ m ∧ m < n') : Yp P E σ o (.rp v (k' + m.toNat * sz)) := fun A w ρ _ hρ => by
  obtain ⟨j, hj, hj'⟩ := Option.map_eq_some_iff.1 hs
  obtain ⟨g, h1, h2⟩ := (hρ _ _ hx).rpInv
  have hy' := (hρ _ _ hy).litEq
  exact ⟨_, .rp v _ g h1, fun w' _ => by simp [execOp, ho, Instr.indexAt, h2, hy', run_underlying hT, sizeOf, typeInfo, hj, hj', add0, asIntOf, hm, Instr.sureAddr]⟩
theorem Yp.indexF {sz n' : Nat} {cs : List AV} (ho : o.op = .indexAddr T x y) (hx : E.ev x = some (.fp cs)) (hy : E.ev y = some (.n k m)) (hT : P.underlying T = some (.array n' e)) (hs : (P.info? e).map (·.size) = some sz)
    (hm : 0 ≤ m ∧ m < n') : Yp P E σ o (.fp (cs.drop (m.toNat * sz))) := fun A w ρ _ hρ => by
  obtain ⟨j, hj, hj'⟩ := Option.map_eq_some_iff.1 hs
  obtain ⟨b, of, us, h1, hb, hA, hc, hr⟩ := (hρ _ _ hx).fpInv
  have hy' := (hρ _ _ hy).litEq
  refine ⟨_, .fp _ b (of + m.toNat * sz) (us.drop (m.toNat * sz)) hb hA (hr.drop _).1 (fun j v hj => ?_) (hr.drop _).2, fun w' _ => by simp [execOp, ho, Instr.indexAt, h1, hy', run_underlying hT, sizeOf, typeInfo, hj, hj', add0, asIntOf, hm, Instr.sureAddr]⟩
  rw [List.getElem?_drop] at hj
  rw [Nat.add_assoc]
  exact hc _ v hj

/-! ### loads -/

/-- a type whose values lie in one cell -/
def isOne (P : Program) (T : TypeId) : Prop := ∃ d, P.underlying T = some d ∧ match d with | .struct _ | .array _ _ => False | _ => True

theorem run_isAgg_one (h : isOne P T) (w : World) : (isAgg T).run P w = .ok false w := by
  obtain ⟨d, hd, hm⟩ := h
  unfold isAgg
  cases d <;> first | exact hm.elim | simp [run_underlying hd]

theorem run_loadVar_one {w : World} {a : Addr} (h : isOne P T) (hc : w.cell? a = some v) : (loadVar T a).run P w = .ok v w := by
  unfold loadVar
  simp [run_isAgg_one h, load, Sem.run, hc]

/-- a type whose values lie in several cells -/
def isMany (P : Program) (T : TypeId) (k : Nat) : Prop := (∃ d, P.underlying T = some d ∧ match d with | .struct _ | .array _ _ => True | _ => False) ∧ (P.info? T).map (·.size) = some k

theorem run_isAgg_many {k : Nat} (h : isMany P T k) (w : World) : (isAgg T).run P w = .ok true w := by
  obtain ⟨⟨d, hd, hm⟩, _⟩ := h
  unfold isAgg
  cases d <;> first | exact hm.elim | simp [run_underlying hd]

theorem run_loadCellsFrom {w : World} (a : Addr) : ∀ (cs : List Value) (i : Nat) (acc : Array Value), (∀ j u, cs[j]? = some u → w.cell? (a.add (i + j)) = some u) → (loadCellsFrom a i cs.length acc).run P w = .ok (acc ++ cs.toArray) w
  | [], i, acc, _ => by simp [loadCellsFrom]
  | c :: cs, i, acc, h => by
    have h0 := h 0 c rfl
    rw [Nat.add_zero] at h0
    simp only [List.length_cons, loadCellsFrom]
    have ih := run_loadCellsFrom a cs (i + 1) (acc.push c) fun j u hj => by
      have := h (j + 1) u (by simpa using hj)
      rwa [show i + (j + 1) = i + 1 + j from by omega] at this
    simp [load, Sem.run, h0, ih]

theorem run_loadVar_many {w : World} {a : Addr} {cs : List Value} (h : isMany P T cs.length) (hc : ∀ j u, cs[j]? = some u → w.cell? (a.add j) = some u) : (loadVar T a).run P w = .ok (.agg cs.toArray) w := by
  obtain ⟨i, hi, hi'⟩ := Option.map_eq_some_iff.1 h.2
  have := run_loadCellsFrom (P := P) (w := w) a cs 0 #[] (by simpa using hc)
  unfold loadVar
  simp [run_isAgg_many h, sizeOf, typeInfo, hi, hi', loadCells, this]

theorem cell_same {w w' : World} {b o : Nat} (h : w'.heap[b]? = w.heap[b]?) : w'.cell? ⟨b, o, none⟩ = w.cell? ⟨b, o, none⟩ := by simp [World.cell?, h]

theorem Yp.loadF1 {cs : List AV} (ho : o.op = .load T x) (hx : E.ev x = some (.fp cs)) (hT : isOne P T) (ha : cs[0]? = some av) : Yp P E σ o av := fun A w ρ _ hρ => by
  obtain ⟨b, of, us, h1, hb, hA, hc, hr⟩ := (hρ _ _ hx).fpInv
  obtain ⟨v, h2, h3⟩ := hr.get ha
  refine ⟨v, h3, fun w' hw => ?_⟩
  have hcell : w'.cell? ⟨b, of, none⟩ = some v := by rw [cell_same (hw b hb (.inl hA))]; exact hc 0 v h2
  simp [execOp, ho, Instr.loadAt, h1, Instr.sureAddr, run_loadVar_one hT hcell]
theorem Yp.loadFN {cs : List AV} {n : Nat} (ho : o.op = .load T x) (hx : E.ev x = some (.fp cs)) (hT : isMany P T n) (hn : n ≤ cs.length) : Yp P E σ o (.agg (cs.take n)) := fun A w ρ _ hρ => by
  obtain ⟨b, of, us, h1, hb, hA, hc, hr⟩ := (hρ _ _ hx).fpInv
  refine ⟨_, Rel.aggL (hr.take n), fun w' hw => ?_⟩
  have hcell : ∀ j u, (us.take n)[j]? = some u → w'.cell? ((⟨b, of, none⟩ : Addr).add j) = some u := fun j u hj => by
    rw [add0, cell_same (hw b hb (.inl hA))]
    rw [List.getElem?_take] at hj
    split at hj
    · exact hc j u hj
    · cases hj
  have hl : (us.take n).length = n := by rw [List.length_take, hr.1]; omega
  simp [execOp, ho, Instr.loadAt, h1, Instr.sureAddr, run_loadVar_many (by rw [hl]; exact hT) hcell]

theorem Yp.loadB1 {b' of : Nat} {cs : List AV} {t : TypeId} (i : Nat) (ho : o.op = .load T x) (hx : E.ev x = some (.lit (.pointer (some ⟨b', of, none⟩)))) (hσ : σ[i]? = some (.box b' t cs)) (hT : isOne P T) (ha : cs[of]? = some av) : Yp P E σ o av := fun A w ρ hd hρ => by
  have hm := List.mem_of_getElem? hσ
  obtain ⟨us, h1, hr⟩ := hd.1 _ hm
  obtain ⟨v, h2, h3⟩ := RelL.get hr ha
  have hx' := (hρ _ _ hx).litEq
  refine ⟨v, h3, fun w' hw => ?_⟩
  have hcell : w'.cell? ⟨b', of, none⟩ = some v := by rw [cell_same (hw b' h1.lt (.inr (mem_blks.2 ⟨_, hm, rfl⟩)))]; exact h1.cell (by simpa using h2)
  simp [execOp, ho, Instr.loadAt, hx', Instr.sureAddr, run_loadVar_one hT hcell]
theorem Yp.loadBN {b' of n : Nat} {cs : List AV} {t : TypeId} (i : Nat) (ho : o.op = .load T x) (hx : E.ev x = some (.lit (.pointer (some ⟨b', of, none⟩)))) (hσ : σ[i]? = some (.box b' t cs)) (hT : isMany P T n) (hn : of + n ≤ cs.length) : Yp P E σ o (.agg ((cs.drop of).take n)) := fun A w ρ hd hρ => by
  have hm := List.mem_of_getElem? hσ
  obtain ⟨us, h1, hr⟩ := hd.1 _ hm
  have hx' := (hρ _ _ hx).litEq
  refine ⟨_, Rel.aggL ((RelL.drop of hr).take n), fun w' hw => ?_⟩
  have hcell : ∀ j u, ((us.drop of).take n)[j]? = some u → w'.cell? ((⟨b', of, none⟩ : Addr).add j) = some u := fun j u hj => by
    rw [add0, cell_same (hw b' h1.lt (.inr (mem_blks.2 ⟨_, hm, rfl⟩)))]
    rw [List.getElem?_take] at hj
    split at hj
    · rw [List.getElem?_drop] at hj
      exact h1.cell (by simpa using hj)
    · cases hj
  have hl : ((us.drop of).take n).length = n := by rw [List.length_take, List.length_drop, hr.1]; omega
  simp [execOp, ho, Instr.loadAt, hx', Instr.sureAddr, run_loadVar_many (by rw [hl]; exact hT) hcell]

theorem Yp.loadR1 {α : Type} [Inhabited α] {sz k of : Nat} {c : α → List AV} {l : List α} {t : TypeId} (i m : Nat) (ho : o.op = .load T x) (hx : E.ev x = some (.rp v k)) (hσ : σ[i]? = some (.row v t sz c l)) (hT : isOne P T) (hk : k = m * sz + of) (hm : m < l.length) (ha : (c l[m]!)[of]? = some av) : Yp P E σ o av := fun A w ρ hd hρ => by
  have hmem := List.mem_of_getElem? hσ
  obtain ⟨us, h1, h2, h3⟩ := hd.1 _ hmem
  obtain ⟨g, hg, hv⟩ := (hρ _ _ hx).rpInv
  obtain ⟨u, h4, h5⟩ := (h3 m hm).get ha
  refine ⟨u, h5, fun w' hw => ?_⟩
  rw [List.getElem?_take] at h4
  split at h4
  · rw [List.getElem?_drop] at h4
    have hcell : w'.cell? ⟨g, k, none⟩ = some u := by rw [cell_same (hw g (h1.lt hg) (.inr (mem_blks.2 ⟨_, hmem, hg⟩))), hk]; exact h1.cells hg _ u h4
    simp [execOp, ho, Instr.loadAt, hv, Instr.sureAddr, run_loadVar_one hT hcell]
  · cases h4
theorem Yp.loadRN {α : Type} [Inhabited α] {sz k of n : Nat} {c : α → List AV} {l : List α} {t : TypeId} (i m : Nat) (ho : o.op = .load T x) (hx : E.ev x = some (.rp v k)) (hσ : σ[i]? = some (.row v t sz c l)) (hT : isMany P T n) (hk : k = m * sz + of) (hm : m < l.length) (hn : of + n ≤ sz) : Yp P E σ o (.agg (((c l[m]!).drop of).take n)) := fun A w ρ hd hρ => by
  have hmem := List.mem_of_getElem? hσ
  obtain ⟨us, h1, h2, h3⟩ := hd.1 _ hmem
  obtain ⟨g, hg, hv⟩ := (hρ _ _ hx).rpInv
  have hL := h3 m hm
  refine ⟨_, Rel.aggL ((hL.drop of).take n), fun w' hw => ?_⟩
  have hcell : ∀ j u, ((((us.drop (m * sz)).take sz).drop of).take n)[j]? = some u → w'.cell? ((⟨g, k, none⟩ : Addr).add j) = some u := fun j u hj => by
    rw [add0, cell_same (hw g (h1.lt hg) (.inr (mem_blks.2 ⟨_, hmem, hg⟩))), hk]
    rw [List.getElem?_take] at hj
    split at hj
    · rw [List.getElem?_drop, List.getElem?_take] at hj
      split at hj
      · rw [List.getElem?_drop] at hj
        exact h1.cells hg _ u (by rw [Nat.add_assoc]; exact hj)
      · cases hj
    · cases hj
  have hl : ((((us.drop (m * sz)).take sz).drop of).take n).length = n := by rw [List.length_take, List.length_drop, hL.1, h2 m hm]; omega
  simp [execOp, ho, Instr.loadAt, hv, Instr.sureAddr, run_loadVar_many (by rw [hl]; exact hT) hcell]
end
end Go.Ab
end
section
set_option linter.unusedSectionVars false
set_option linter.unusedVariables false
set_option linter.unusedSimpArgs false
namespace Go.Ab
open Go Go.RowKit

theorem blks_cons (r : Res) (σ : List Res) : blks (r :: σ) = r.blk.toList ++ blks σ := by
  unfold blks
  rw [List.filterMap_cons]
  cases r.blk <;> simp
theorem blks_app (σ τ : List Res) : blks (σ ++ τ) = blks σ ++ blks τ := by simp [blks]

theorem tr_new {C : Cx} {σ : List Res} {w w' : World} {r : Res} (h : Good C σ w) (hk : Kp [] w w') (hr : r.blk = none ∨ r.blk = some w.heap.size) (hok : r.ok (al C (r :: σ)) w') : Tr C [] σ w (r :: σ) w' := by
  have hlt : ∀ b ∈ blks σ, b < w.heap.size := fun b hb => by
    obtain ⟨s, h1, h2⟩ := mem_blks.1 hb
    exact (h.res s h1).lt h2
  have hal : ∀ b, b < w.heap.size → al C σ b → al C (r :: σ) b := fun b hb hA => ⟨hA.1, fun hx => by
    rw [blks_cons] at hx
    rcases List.mem_append.1 hx with hx | hx
    · rcases hr with hr | hr <;> rw [hr] at hx <;> simp at hx
      omega
    · exact hA.2 hx⟩
  have hsame : ∀ b, b < w.heap.size → w'.heap[b]? = w.heap[b]? := fun b hb => hk.block b hb (by simp)
  refine ⟨⟨h.kept.trans hk (by simp), fun s hs => ?_, ?_, fun b hb => ?_⟩, hk, fun b hb hA => ⟨hal b hb hA, by simp⟩⟩
  · rcases List.mem_cons.1 hs with rfl | hs
    · exact hok
    · exact (h.res s hs).mono (fun b hb hA => ⟨hal b hb hA, hsame b hb⟩) (fun b hb => hsame b ((h.res s hs).lt hb))
  · rw [blks_cons]
    rcases hr with hr | hr
    · rw [hr]; simpa using h.dis
    · rw [hr]
      simp only [Option.toList_some, List.cons_append, List.nil_append, List.nodup_cons]
      exact ⟨fun hx => by have := hlt _ hx; omega, h.dis⟩
  · rw [blks_cons] at hb
    rcases List.mem_append.1 hb with hx | hx
    · rcases hr with hr | hr <;> rw [hr] at hx <;> simp at hx
      exact .inr (by rw [hx]; exact h.kept.size)
    · exact h.own b hx

theorem set_split {σ : List Res} {i : Nat} {r r' : Res} (h : σ[i]? = some r) : σ = σ.take i ++ r :: σ.drop (i + 1) ∧ σ.set i r' = σ.take i ++ r' :: σ.drop (i + 1) := by
  obtain ⟨hi, hr⟩ := List.getElem?_eq_some_iff.1 h
  refine ⟨?_, List.set_eq_take_append_cons_drop .. |>.trans (by rw [if_pos hi])⟩
  rw [← hr, ← List.drop_eq_getElem_cons hi, List.take_append_drop]

theorem blks_set {σ : List Res} {i : Nat} {r r' : Res} (h : σ[i]? = some r) (hb : r'.blk = r.blk) : blks (σ.set i r') = blks σ := by
  obtain ⟨q1, q2⟩ := set_split (r' := r') h
  have e : blks σ = blks (σ.take i ++ r :: σ.drop (i + 1)) := congrArg blks q1
  rw [q2, e]
  simp [blks_app, blks_cons, hb]

/-- Resource i is another one now: in the same block, in a new one, or in none. -/
theorem tr_upd {C : Cx} {σ : List Res} {w w' : World} {r r' : Res} {i : Nat} (h : Good C σ w) (hi : σ[i]? = some r) (hk : Kp r.blk.toList w w') (hr : r'.blk = r.blk ∨ r'.blk = some w.heap.size) (hok : r'.ok (al C (σ.set i r')) w') : Tr C r.blk.toList σ w (σ.set i r') w' := by
  obtain ⟨h1, h2⟩ := set_split (r' := r') hi
  generalize σ.take i = σ1 at h1 h2
  generalize σ.drop (i + 1) = σ2 at h1 h2
  rw [h2] at hok ⊢
  clear h2 hi
  subst h1
  have hlt : ∀ b ∈ blks (σ1 ++ r :: σ2), b < w.heap.size := fun b hb => by
    obtain ⟨s, h1, h2⟩ := mem_blks.1 hb
    exact (h.res s h1).lt h2
  have hb0 : blks (σ1 ++ r :: σ2) = blks σ1 ++ (r.blk.toList ++ blks σ2) := by rw [blks_app, blks_cons]
  have hb1 : blks (σ1 ++ r' :: σ2) = blks σ1 ++ (r'.blk.toList ++ blks σ2) := by rw [blks_app, blks_cons]
  have hmem : ∀ b, b ∈ blks (σ1 ++ r' :: σ2) → b ∈ blks (σ1 ++ r :: σ2) ∨ b = w.heap.size := fun b hb => by
    rw [hb1] at hb
    rw [hb0]
    simp only [List.mem_append] at hb ⊢
    rcases hb with hb | hb | hb
    · exact .inl (.inl hb)
    · rcases hr with hr | hr <;> rw [hr] at hb
      · exact .inl (.inr (.inl hb))
      · simp at hb; exact .inr hb
    · exact .inl (.inr (.inr hb))
  have hal : ∀ b, b < w.heap.size → al C (σ1 ++ r :: σ2) b → al C (σ1 ++ r' :: σ2) b := fun b hb hA => ⟨hA.1, fun hx => by
    rcases hmem b hx with h | h
    · exact hA.2 h
    · omega⟩
  have hnr : ∀ b, al C (σ1 ++ r :: σ2) b → b ∉ r.blk.toList := fun b hA hx => hA.2 (by rw [hb0]; simp [List.mem_append, hx])
  have hother : ∀ s, s ∈ σ1 ∨ s ∈ σ2 → ∀ b, s.blk = some b → b ∉ r.blk.toList := fun s hs b hb hx => by
    have hd := h.dis
    rw [hb0] at hd
    rcases hs with hs | hs
    · exact (List.nodup_append.1 hd).2.2 b (mem_blks.2 ⟨s, hs, hb⟩) b (List.mem_append_left _ hx) rfl
    · exact (List.nodup_append.1 (List.nodup_append.1 hd).2.1).2.2 b hx b (mem_blks.2 ⟨s, hs, hb⟩) rfl
  refine ⟨⟨h.kept.trans hk (fun b hb hlt0 => ?_), fun s hs => ?_, ?_, fun b hb => ?_⟩, hk, fun b hb hA => ⟨hal b hb hA, hnr b hA⟩⟩
  · have : b ∈ blks (σ1 ++ r :: σ2) := by rw [hb0]; simp [List.mem_append, hb]
    rcases h.own b this with h | h
    · exact h
    · omega
  · have hs' : s = r' ∨ s ∈ σ1 ∨ s ∈ σ2 := by
      simp only [List.mem_append, List.mem_cons] at hs
      rcases hs with h | h | h
      · exact .inr (.inl h)
      · exact .inl h
      · exact .inr (.inr h)
    rcases hs' with rfl | hs'
    · exact hok
    · have hm : s ∈ σ1 ++ r :: σ2 := by rcases hs' with h | h <;> simp [h]
      exact (h.res s hm).mono (fun b hb hA => ⟨hal b hb hA, hk.block b hb (hnr b hA)⟩) (fun b hb => hk.block b ((h.res s hm).lt hb) (hother s hs' b hb))
  · have hd := h.dis
    rcases hr with hr | hr
    · rw [hb1, hr, ← hb0]; exact hd
    · rw [hb1, hr]
      rw [hb0] at hd
      have hn1 : w.heap.size ∉ blks σ1 := fun hx => by have := hlt w.heap.size (by rw [hb0]; simp [List.mem_append, hx]); omega
      have hn2 : w.heap.size ∉ blks σ2 := fun hx => by have := hlt w.heap.size (by rw [hb0]; simp [List.mem_append, hx]); omega
      obtain ⟨d1, d2, d3⟩ := List.nodup_append.1 hd
      obtain ⟨d4, d5, d6⟩ := List.nodup_append.1 d2
      refine List.nodup_append.2 ⟨d1, ?_, fun a ha b hb hab => ?_⟩
      · simp only [Option.toList_some, List.cons_append, List.nil_append, List.nodup_cons]
        exact ⟨hn2, d5⟩
      · subst hab
        simp only [Option.toList_some, List.cons_append, List.nil_append, List.mem_cons] at hb
        rcases hb with rfl | hb
        · exact hn1 ha
        · exact d3 a ha a (List.mem_append_right _ hb) rfl
  · rcases hmem b hb with h1 | h1
    · exact h.own b h1
    · exact .inr (by rw [h1]; exact h.kept.size)

theorem al_new {C : Cx} {σ : List Res} {w : World} {r : Res} (h : r.blk = none ∨ r.blk = some w.heap.size) : ∀ b, b < w.heap.size → al C σ b → al C (r :: σ) b := fun b hb hA => ⟨hA.1, fun hx => by
  rw [blks_cons] at hx
  rcases List.mem_append.1 hx with hx | hx
  · rcases h with h | h <;> rw [h] at hx <;> simp at hx
    omega
  · exact hA.2 hx⟩

theorem kp_alloc (w : World) (x : Obj) : Kp [] w (w.alloc x) := ⟨rfl, rfl, rfl, by simp, fun k hk _ => heap_alloc_old w x hk⟩
theorem kp_alloc' (w : World) (x : Obj) : Kp [] w (w.drew.alloc x) := ⟨rfl, rfl, rfl, by simp, fun k hk _ => heap_alloc_old w.drew x hk⟩

theorem relL_new {C : Cx} {σ : List Res} {w w' : World} {r : Res} {as0 : List AV} {us : List Value} (hr : RelL (al C σ) w as0 us) (h : r.blk = none ∨ r.blk = some w.heap.size) (hk : Kp [] w w') : RelL (al C (r :: σ)) w' as0 us :=
  hr.mono fun b hb hA => ⟨al_new h b hb hA, hk.block b hb (by simp)⟩

/-- the cells of what an operand holds -/
def acells : AV → List AV
  | .agg cs => cs
  | a => [a]
def acell1 : AV → Bool
  | .lit v => v.oneCell'
  | .tup _ => false
  | .agg _ => false
  | _ => true
def aplain : AV → Bool
  | .agg cs => cs.all acell1
  | a => acell1 a

theorem oneCell_cells {v : Value} (h : v.oneCell' = true) : v.cells = #[v] := by cases v <;> first | rfl | cases h
theorem Rel.one {A : Nat → Prop} {w : World} {a : AV} {v : Value} (h : Rel A w a v) (h1 : acell1 a = true) : v.oneCell' = true := by
  cases h with
  | lit v => exact h1
  | agg => cases h1
  | tup => cases h1
  | _ => rfl
theorem RelL.one {A : Nat → Prop} {w : World} {as0 : List AV} {us : List Value} (h : RelL A w as0 us) (h1 : as0.all acell1 = true) : ∀ v ∈ us, v.oneCell' = true := fun v hv => by
  obtain ⟨j, hj, rfl⟩ := List.getElem_of_mem hv
  have hlt : j < as0.length := by rw [← h.1]; exact hj
  exact (h.2 j as0[j] us[j] (List.getElem?_eq_getElem hlt) (List.getElem?_eq_getElem hj)).one (List.all_eq_true.1 h1 _ (List.getElem_mem hlt))
theorem Rel.cells {A : Nat → Prop} {w : World} {a : AV} {v : Value} (h : Rel A w a v) (h1 : aplain a = true) : RelL A w (acells a) v.cells.toList ∧ ∀ u ∈ v.cells.toList, u.oneCell' = true := by
  by_cases ha : ∃ cs, a = .agg cs
  · obtain ⟨cs, rfl⟩ := ha
    obtain ⟨us, rfl, h2⟩ := h.aggInv
    exact ⟨by simpa [Value.cells, acells] using h2, by simpa [Value.cells] using h2.one h1⟩
  · have hc : acell1 a = true := by
      cases a <;> first | exact h1 | (exact absurd ⟨_, rfl⟩ ha)
    have hac : acells a = [a] := by
      cases a <;> first | rfl | (exact absurd ⟨_, rfl⟩ ha)
    have h2 := h.one hc
    rw [hac, oneCell_cells h2]
    refine ⟨⟨rfl, fun j x y hx hy => ?_⟩, fun u hu => by simp at hu; rw [hu]; exact h2⟩
    cases j with
    | zero => simp at hx hy; subst hx hy; exact h
    | succ j => simp at hx

/-- what can be stored -/
def Pw (σ : List Res) (a : AV) : Prop := ∀ (A : Nat → Prop) (w : World) (v : Value), Hd A σ w → Rel A w a v → RelL A w (acells a) v.cells.toList ∧ ∀ u ∈ v.cells.toList, u.oneCell' = true
def PwL (σ : List Res) (as0 : List AV) : Prop := ∀ (A : Nat → Prop) (w : World) (us : List Value), Hd A σ w → RelL A w as0 us → ∀ u ∈ us, u.oneCell' = true
theorem Pw.p {σ : List Res} {a : AV} (h : aplain a = true) : Pw σ a := fun _ _ _ _ hr => hr.cells h
theorem own_one {σ : List Res} {A : Nat → Prop} {w : World} {v : Value} {T : TypeId} {sz : Nat} {α : Type} [Inhabited α] {c : α → List AV} {l : List α} (i : Nat) (hσ : σ[i]? = some (.row v T sz c l)) (hd : Hd A σ w) : v.oneCell' = true := by
  obtain ⟨us, h1, _⟩ := hd.1 _ (List.mem_of_getElem? hσ)
  obtain ⟨p, cap, rfl, _⟩ := h1.len
  rfl
theorem Pw.own {σ : List Res} {v : Value} {T : TypeId} {sz : Nat} {α : Type} [Inhabited α] {c : α → List AV} {l : List α} (i : Nat) (hσ : σ[i]? = some (.row v T sz c l)) : Pw σ (.lit v) := fun A w u hd hr => by
  have h1 := own_one i hσ hd
  rw [hr.litEq, oneCell_cells h1]
  exact ⟨RelL.cons (.lit v) RelL.nil, fun x hx => by simp at hx; rw [hx]; exact h1⟩
theorem PwL.nil {σ : List Res} : PwL σ [] := fun A w us _ hr u hu => by
  have : us = [] := List.eq_nil_of_length_eq_zero (by simpa using hr.1)
  subst this; simp at hu
theorem PwL.p {σ : List Res} {a : AV} {as0 : List AV} (h : acell1 a = true) (hs : PwL σ as0) : PwL σ (a :: as0) := fun A w us hd hr u hu => by
  obtain ⟨v, us', rfl, h1, h2⟩ := hr.head
  rcases List.mem_cons.1 hu with rfl | hu
  · exact h1.one h
  · exact hs A w us' hd h2 u hu
theorem PwL.own {σ : List Res} {v : Value} {T : TypeId} {sz : Nat} {α : Type} [Inhabited α] {c : α → List AV} {l : List α} {as0 : List AV} (i : Nat) (hσ : σ[i]? = some (.row v T sz c l)) (hs : PwL σ as0) : PwL σ (.lit v :: as0) := fun A w us hd hr u hu => by
  obtain ⟨v', us', rfl, h1, h2⟩ := hr.head
  rcases List.mem_cons.1 hu with rfl | hu
  · rw [h1.litEq]; exact own_one i hσ hd
  · exact hs A w us' hd h2 u hu
theorem Pw.agg {σ : List Res} {as0 : List AV} (h : PwL σ as0) : Pw σ (.agg as0) := fun A w v hd hr => by
  obtain ⟨us, rfl, h2⟩ := hr.aggInv
  exact ⟨by simpa [Value.cells, acells] using h2, by simpa [Value.cells] using h A w us hd h2⟩

section
variable {P : Program} {E : Env} {σ : List Res} {o : Oper} {T T' e : TypeId} {x y z : Operand} {av bv : AV} {v u : Value} {m n : Int} {b : Bool} {k : IntKind} {C : Cx} {X : List Nat}

/-! ### new variables -/

theorem Yv.alloc {zs : List Value} (ho : o.op = .alloc T) (hz : (P.info? T).bind (fun i => i.zero.map (·.cells)) = some zs.toArray) : Yv P E σ o C [] (fun a σ' => ∃ b, a = .lit (.pointer (some ⟨b, 0, none⟩)) ∧ σ' = .box b T (zs.map .lit) :: σ) := fun w ρ hg _ => by
  obtain ⟨i, h1, h2⟩ := Option.bind_eq_some_iff.1 hz
  obtain ⟨zv, h3, h4⟩ := Option.map_eq_some_iff.1 h2
  refine ⟨_, w.alloc (.cells zs.toArray T), _, _, ⟨w.heap.size, rfl, rfl⟩, tr_new hg (kp_alloc w _) (.inr rfl) ⟨zs, heap_alloc_new w _, RelL.lits _⟩, ?_, .lit _⟩
  simp [execOp, ho, Instr.alloc, zeroValue, typeInfo, h1, h3, newVar, newRow, h4]

theorem Yv.box (ho : o.op = .box T x) (hx : E.ev x = some av) (h1 : Pw σ av) : Yv P E σ o C [] (fun a σ' => ∃ b, a = .lit (.pointer (some ⟨b, 0, none⟩)) ∧ σ' = .box b T (acells av) :: σ) := fun w ρ hg hρ => by
  have hr := (h1 _ _ _ hg.hd (hρ _ _ hx)).1
  refine ⟨_, w.alloc (.cells (ρ x).cells T), _, _, ⟨w.heap.size, rfl, rfl⟩, tr_new hg (kp_alloc w _) (.inr rfl) ⟨(ρ x).cells.toList, heap_alloc_new w _, relL_new hr (.inr rfl) (kp_alloc w _)⟩, ?_, .lit _⟩
  simp [execOp, ho, Instr.box, newVar, newRow]

/-! ### stores -/

theorem run_store {w : World} {g of : Nat} {cur : Array Value} {t : TypeId} {a : Value} {sz : Nat} (hs : (P.info? T).map (·.size) = some sz) (hb : Blk w g cur t) (hsz : a.cells.size = sz) (h1 : ∀ u ∈ a.cells.toList, u.oneCell' = true) (hlt : of + sz ≤ cur.size) :
    (Instr.storeAt T (.pointer (some ⟨g, of, none⟩)) a).run P w = .ok () (w.setRow g (cur.toList.take of ++ a.cells.toList ++ cur.toList.drop (of + sz)).toArray) := by
  obtain ⟨j, hj, hj'⟩ := Option.map_eq_some_iff.1 hs
  have := run_storeCells_at P g of t a.cells.toList 0 cur w hb (by rw [Array.length_toList, hsz]; omega) h1
  rw [Array.length_toList, hsz, Nat.add_zero] at this
  simp only [Instr.storeAt, Instr.sureAddr, storeVar, Sem.run_bind, sizeOf, typeInfo]
  simp [hj, hj', hsz, this]

theorem kp_setRow (w : World) (g : Nat) (cs : Array Value) : Kp [g] w (w.setRow g cs) := ⟨rfl, rfl, rfl, by simp, fun k _ hk => setRow_other w g k _ (fun e => hk (by simp [e]))⟩

theorem Yu.storeB {g of sz : Nat} {cs : List AV} {t : TypeId} (i : Nat) (ho : o.op = .store T x y) (hx : E.ev x = some (.lit (.pointer (some ⟨g, of, none⟩)))) (hy : E.ev y = some av) (hσ : σ[i]? = some (.box g t cs)) (hs : (P.info? T).map (·.size) = some sz) (hp : Pw σ av) (hsz : (acells av).length = sz) (hlt : of + sz ≤ cs.length) :
    Yu P E σ o C [g] (σ.set i (.box g t (cs.take of ++ acells av ++ cs.drop (of + sz)))) := fun w ρ hg hρ => by
  obtain ⟨us, h1, h2⟩ := hg.res _ (List.mem_of_getElem? hσ)
  obtain ⟨h3, h4⟩ := hp _ _ _ hg.hd (hρ _ _ hy)
  have hx' := (hρ _ _ hx).litEq
  have h5 : (ρ y).cells.size = sz := by rw [← Array.length_toList, h3.1, hsz]
  have hrun := run_store (P := P) (T := T) (of := of) (a := ρ y) hs h1 h5 h4 (by simp; rw [h2.1]; exact hlt)
  refine ⟨w.setRow g (us.take of ++ (ρ y).cells.toList ++ us.drop (of + sz)).toArray, tr_upd hg hσ (kp_setRow w g _) (.inl rfl) ⟨us.take of ++ (ρ y).cells.toList ++ us.drop (of + sz), ?_, ?_⟩, ?_⟩
  · have := setRow_heap w g us.toArray (us.take of ++ (ρ y).cells.toList ++ us.drop (of + sz)).toArray t (0, 0) h1
    exact this
  · have hal : ∀ b, b < w.heap.size → al C σ b → al C (σ.set i (.box g t (cs.take of ++ acells av ++ cs.drop (of + sz)))) b ∧ (w.setRow g (us.take of ++ (ρ y).cells.toList ++ us.drop (of + sz)).toArray).heap[b]? = w.heap[b]? := fun b hb hA => by
      have hbk := blks_set (r' := Res.box g t (cs.take of ++ acells av ++ cs.drop (of + sz))) hσ rfl
      refine ⟨⟨hA.1, by rw [hbk]; exact hA.2⟩, setRow_other w g b _ (fun e => hA.2 (mem_blks.2 ⟨_, List.mem_of_getElem? hσ, by rw [← e]; rfl⟩))⟩
    exact (((h2.take of).app h3).app (h2.drop (of + sz))).mono hal
  · simp [execOp, ho, hx', hrun]

theorem take_drop_app {α : Type} (a b c : List α) (i n : Nat) (hi : i + n ≤ a.length) : ((a ++ b ++ c).drop i).take n = (a.drop i).take n := by
  rw [List.append_assoc, List.drop_append_of_le_length (by omega), List.take_append_of_le_length (by rw [List.length_drop]; omega)]

theorem Yu.storeR {α : Type} [Inhabited α] {kk of sz n m : Nat} {c : α → List AV} {l : List α} {t : TypeId} (i : Nat) (q : α) (ho : o.op = .store T x y) (hx : E.ev x = some (.rp v kk)) (hy : E.ev y = some av) (hσ : σ[i]? = some (.row v t sz c l)) (hs : (P.info? T).map (·.size) = some n) (hp : aplain av = true) (hn : (acells av).length = n)
    (hk : kk = m * sz + of) (hm : m < l.length) (hlt : of + n ≤ sz) (hq : c q = (c l[m]!).take of ++ acells av ++ (c l[m]!).drop (of + n)) :
    Yu P E σ o C (Option.toList (rblk v)) (σ.set i (.row v t sz c (l.set m q))) := fun w ρ hg hρ => by
  obtain ⟨us, h1, h2, h3⟩ := hg.res _ (List.mem_of_getElem? hσ)
  obtain ⟨h4, h5⟩ := (hρ _ _ hy).cells hp
  obtain ⟨g, hgb, hv⟩ := (hρ _ _ hx).rpInv
  obtain ⟨g', cap, cur, hv', hgb', hB, q1, q2, q3, q4⟩ := h1.at (by omega)
  have hgg : g' = g := by rw [hgb'] at hgb; exact Option.some.inj hgb
  subst hgg
  have h6' : (ρ y).cells.toList.length = n := by rw [h4.1, hn]
  have h6 : (ρ y).cells.size = n := by rw [← Array.length_toList, h6']
  have hmz : m * sz + sz ≤ l.length * sz := by rw [← Nat.succ_mul]; exact Nat.mul_le_mul_right _ hm
  have hcz : l.length * sz ≤ (cap + 1) * sz := Nat.mul_le_mul_right _ q1
  have hul := h1.1
  have hrun := run_store (P := P) (T := T) (of := kk) (a := ρ y) hs hB h6 h5 (by rw [q3, hk]; omega)
  have hlen : us.length = l.length * sz := h1.1
  have hmz2 : ∀ j, j < l.length → j * sz + sz ≤ us.length := fun j hj => by rw [hlen, ← Nat.succ_mul]; exact Nat.mul_le_mul_right _ hj
  have hpart : ∀ b, al C (σ.set i (.row v t sz c (l.set m q))) b ↔ al C σ b := fun b => by
    have hbk := blks_set (r' := Res.row v t sz c (l.set m q)) hσ rfl
    unfold al
    rw [hbk]
  have hal : ∀ b, b < w.heap.size → al C σ b → al C (σ.set i (.row v t sz c (l.set m q))) b ∧ (w.setRow g' (cur.toList.take kk ++ (ρ y).cells.toList ++ cur.toList.drop (kk + n)).toArray).heap[b]? = w.heap[b]? := fun b hb hA =>
    ⟨(hpart b).2 hA, setRow_other w g' b _ (fun e => hA.2 (mem_blks.2 ⟨_, List.mem_of_getElem? hσ, by rw [e]; exact hgb⟩))⟩
  refine ⟨w.setRow g' (cur.toList.take kk ++ (ρ y).cells.toList ++ cur.toList.drop (kk + n)).toArray, tr_upd (r := .row v t sz c l) hg hσ (by show Kp (Option.toList (rblk v)) _ _; rw [hgb]; exact kp_setRow w g' _) (.inl rfl) ⟨us.take kk ++ (ρ y).cells.toList ++ us.drop (kk + n), ⟨?_, .inr ⟨g', cap, (cur.toList.take kk ++ (ρ y).cells.toList ++ cur.toList.drop (kk + n)).toArray, ?_, ?_, ?_, q2, ?_, ?_⟩⟩, ?_, ?_⟩, by simp [execOp, ho, hv, hrun]⟩
  · have := hmz2 m hm
    rw [List.length_append, List.length_append, List.length_take, List.length_drop, List.length_set, h6', hlen]
    omega
  · rw [List.length_set]; exact hv'
  · exact setRow_heap w g' cur _ t (0, 0) hB
  · rw [List.length_set]; exact q1
  · have := hmz2 m hm
    rw [List.size_toArray, List.length_append, List.length_append, List.length_take, List.length_drop, h6', Array.length_toList, q3]
    omega
  · have hk' : kk + n ≤ l.length * sz := by omega
    have hc2 : l.length * sz ≤ cur.toList.length := by rw [show cur.toList.length = cur.size from Array.length_toList, q3]; exact hcz
    rw [← q4, List.length_set]
    apply List.ext_getElem?
    intro j
    simp only [List.getElem?_take, List.getElem?_append, List.length_append, List.length_take, List.getElem?_drop, h6', Array.length_toList]
    have hcl : cur.size = (cap + 1) * sz := q3
    by_cases e1 : j < l.length * sz
    · rw [if_pos e1]
      by_cases e2 : j < kk
      · rw [if_pos (by omega), if_pos (by omega), if_pos (by omega), if_pos (by omega), if_pos (by omega), if_pos (by omega)]
        rw [if_pos (by omega)]
      · by_cases e3 : j < kk + n
        · rw [if_pos (by omega), if_neg (by omega), if_pos (by omega), if_neg (by omega)]
          congr 1
          omega
        · rw [if_neg (by omega), if_neg (by omega), if_pos (by omega)]
          congr 1
          omega
    · rw [if_neg e1]
      rw [if_neg (by omega), if_neg (by omega)]
  · intro j hj
    rw [List.length_set] at hj
    by_cases hjm : j = m
    · subst hjm
      rw [getElem!_pos _ j (by rw [List.length_set]; exact hj), List.getElem_set_self, hq]
      have := h2 j hj
      rw [List.length_append, List.length_append, List.length_take, List.length_drop, this, hn]
      omega
    · rw [getElem!_pos _ j (by rw [List.length_set]; exact hj), List.getElem_set_ne (Ne.symm hjm), ← getElem!_pos l j hj]
      exact h2 j hj
  · intro j hj
    rw [List.length_set] at hj
    have hb := hmz2 j hj
    have hbm := hmz2 m hm
    by_cases hjm : j = m
    · subst hjm
      rw [getElem!_pos _ j (by rw [List.length_set]; exact hj), List.getElem_set_self, hq]
      have hL := h3 j hj
      have hz := h2 j hj
      have hR := (((hL.take of).app h4).app (hL.drop (of + n))).mono hal
      have e : ((us.take kk ++ (ρ y).cells.toList ++ us.drop (kk + n)).drop (j * sz)).take sz = ((us.drop (j * sz)).take sz).take of ++ (ρ y).cells.toList ++ ((us.drop (j * sz)).take sz).drop (of + n) := by
        apply List.ext_getElem?
        intro a
        simp only [List.getElem?_take, List.getElem?_append, List.length_append, List.length_take, List.getElem?_drop, h6', List.length_drop]
        by_cases e1 : a < sz
        · rw [if_pos e1]
          by_cases e2 : a < of
          · rw [if_pos (by omega), if_pos (by omega), if_pos (by omega), if_pos (by omega), if_pos (by omega), if_pos (by omega)]
            rw [if_pos (by omega)]
          · by_cases e3 : a < of + n
            · rw [if_pos (by omega), if_neg (by omega), if_pos (by omega), if_neg (by omega)]
              congr 1
              omega
            · rw [if_neg (by omega), if_neg (by omega), if_pos (by omega)]
              congr 1
              omega
        · rw [if_neg e1, if_neg (by omega), if_neg (by omega)]
      rw [e]
      exact hR
    · rw [getElem!_pos _ j (by rw [List.length_set]; exact hj), List.getElem_set_ne (Ne.symm hjm), ← getElem!_pos l j hj]
      have e : ((us.take kk ++ (ρ y).cells.toList ++ us.drop (kk + n)).drop (j * sz)).take sz = (us.drop (j * sz)).take sz := by
        have hcase : j * sz + sz ≤ m * sz ∨ m * sz + sz ≤ j * sz := by
          rcases Nat.lt_or_gt_of_ne hjm with h | h
          · left; rw [← Nat.succ_mul]; exact Nat.mul_le_mul_right _ h
          · right; rw [← Nat.succ_mul]; exact Nat.mul_le_mul_right _ h
        apply List.ext_getElem?
        intro a
        simp only [List.getElem?_take, List.getElem?_append, List.length_append, List.length_take, List.getElem?_drop, h6', Array.length_toList]
        by_cases e1 : a < sz
        · rw [if_pos e1, if_pos e1]
          rcases hcase with hc | hc
          · rw [if_pos (by omega), if_pos (by omega), if_pos (by omega)]
          · rw [if_neg (by omega)]
            congr 1
            omega
        · rw [if_neg e1, if_neg e1]
      rw [e]
      exact (h3 j hj).mono hal
end
end Go.Ab
end
section
set_option linter.unusedSectionVars false
set_option linter.unusedVariables false
set_option linter.unusedSimpArgs false
namespace Go.Ab
open Go Go.RowKit

inductive F2 {α : Type 1} {β : Type} (R : α → β → Prop) : List α → List β → Prop
  | nil : F2 R [] []
  | cons {a : α} {b : β} {as0 : List α} {bs : List β} (h : R a b) (hs : F2 R as0 bs) : F2 R (a :: as0) (b :: bs)

/-! ### literals of structs and arrays -/

def afill (place : Nat → Option (Nat × Nat)) (cells : List AV) : List (Nat × AV) → Option (List AV)
  | [] => some cells
  | (i, a) :: rest =>
    match place i with
    | none => none
    | some (off, size) =>
      match Nat.beq (acells a).length size && Nat.ble (off + size) cells.length && aplain a with
      | true => afill place (cells.take off ++ acells a ++ cells.drop (off + size)) rest
      | false => none

theorem foldl_set (us : List Value) : ∀ (k off : Nat) (init : Array Value), off + k + us.length ≤ init.size →
    ((us.zipIdx k).foldl (fun cs (p : Value × Nat) => cs.setIfInBounds (off + p.2) p.1) init).toList = init.toList.take (off + k) ++ us ++ init.toList.drop (off + k + us.length) := by
  induction us with
  | nil => intro k off init h; simp
  | cons u us ih =>
    intro k off init h
    simp only [List.length_cons] at h
    rw [List.zipIdx_cons, List.foldl_cons, ih (k + 1) off _ (by simp; omega)]
    have h1 : off + k < init.toList.length := by simp; omega
    rw [Array.toList_setIfInBounds]
    have e1 : (init.toList.set (off + k) u).take (off + (k + 1)) = init.toList.take (off + k) ++ [u] := by
      rw [List.set_eq_take_append_cons_drop, if_pos h1]
      have e : off + (k + 1) = (init.toList.take (off + k)).length + 1 := by rw [List.length_take]; omega
      rw [e, List.take_length_add_append]
      simp
    have e2 : (init.toList.set (off + k) u).drop (off + (k + 1) + us.length) = init.toList.drop (off + k + (us.length + 1)) := by
      rw [List.drop_set_of_lt (by omega)]
      congr 1
      omega
    rw [e1, e2]
    simp

theorem fill_rel {A : Nat → Prop} {w : World} {place : Nat → Option (Nat × Nat)} : ∀ {ps : List (Nat × AV)} {qs : List (Nat × Value)} {cs cs' : List AV} {init : Array Value}, RelL A w cs init.toList →
    F2 (fun (p : Nat × AV) (q : Nat × Value) => p.1 = q.1 ∧ Rel A w p.2 q.2) ps qs → afill place cs ps = some cs' → ∃ us : Array Value, Instr.fill place init qs = some us ∧ RelL A w cs' us.toList
  | [], _, cs, cs', init, hi, hp, hf => by
    cases hp
    cases hf
    exact ⟨init, rfl, hi⟩
  | (i, a) :: ps, _, cs, cs', init, hi, hp, hf => by
    cases hp with
    | @cons _ q _ qs h1 h2 =>
      obtain ⟨j, v⟩ := q
      obtain ⟨h3, h4⟩ := h1
      simp only at h3 h4
      subst h3
      unfold afill at hf
      unfold Instr.fill
      cases hpl : place i with
      | none => rw [hpl] at hf; cases hf
      | some os =>
        obtain ⟨off, size⟩ := os
        rw [hpl] at hf
        simp only at hf ⊢
        split at hf
        · rename_i hc
          simp only [Bool.and_eq_true, Nat.ble_eq] at hc
          obtain ⟨⟨hc1, hc2⟩, hc3⟩ := hc
          have hc1 := Nat.eq_of_beq_eq_true hc1
          obtain ⟨h5, h6⟩ := h4.cells hc3
          have hvs : v.cells.size = size := by rw [← Array.length_toList, h5.1, hc1]
          have his : init.size = cs.length := by rw [← Array.length_toList, hi.1]
          rw [if_neg (by simp [hvs]; omega)]
          refine fill_rel (cs := cs.take off ++ acells a ++ cs.drop (off + size)) ?_ h2 hf
          have hvl : v.cells.toList.length = size := by rw [Array.length_toList, hvs]
          have e : (v.cells.zipIdx.foldl (fun cs (x : Value × Nat) => match x with | (c, j) => cs.setIfInBounds (off + j) c) init).toList = init.toList.take off ++ v.cells.toList ++ init.toList.drop (off + size) := by
            have := foldl_set v.cells.toList 0 off init (by rw [hvl]; omega)
            rw [hvl, Nat.add_zero] at this
            rw [← this, ← Array.foldl_toList, Array.toList_zipIdx]
          show RelL A w _ (v.cells.zipIdx.foldl _ init).toList
          rw [e]
          exact ((hi.take off).app h5).app (hi.drop (off + size))
        · cases hf

def Env.evp (E : Env) : List (Nat × Operand) → Option (List (Nat × AV))
  | [] => some []
  | (i, x) :: xs => match E.ev x, Env.evp E xs with
    | some a, some as0 => some ((i, a) :: as0)
    | _, _ => none
theorem Env.evp_rel {A : Nat → Prop} {w : World} {E : Env} {ρ : Operand → Value} (h : Ops A w E ρ) : ∀ {xs : List (Nat × Operand)} {as0 : List (Nat × AV)}, E.evp xs = some as0 →
    F2 (fun (p : Nat × AV) (q : Nat × Value) => p.1 = q.1 ∧ Rel A w p.2 q.2) as0 (xs.map fun p => (p.1, ρ p.2))
  | [], as0, he => by cases he; exact .nil
  | (i, x) :: xs, as0, he => by
    unfold Env.evp at he
    cases h1 : E.ev x with
    | none => rw [h1] at he; cases he
    | some a =>
      cases h2 : E.evp xs with
      | none => rw [h1, h2] at he; cases he
      | some as' =>
        rw [h1, h2] at he
        cases he
        exact .cons ⟨rfl, h x a h1⟩ (Env.evp_rel h h2)

/-- where the fields of a struct lie; where the elements of an array lie -/
def placesOf (P : Program) (T : TypeId) : Option (List (Nat × Nat)) := match P.underlying T with
  | some (.struct fields) => fields.toList.mapM fun f => (P.info? f.type).map fun i => (f.offset, i.size)
  | _ => none
def zerosOf (P : Program) (T : TypeId) : Option (List Value) := (P.info? T).bind fun i => i.zero.map (·.cells.toList)

section
variable {P : Program} {E : Env} {σ : List Res} {o : Oper} {T T' e : TypeId} {x y z : Operand} {av bv : AV} {v u : Value} {m n : Int} {b : Bool} {k : IntKind} {C : Cx} {X : List Nat}

theorem map_pair {ps : Array (Nat × Operand)} {ρ : Operand → Value} : (ps.map fun (i, x) => (i, ρ x)).toList = ps.toList.map fun p => (p.1, ρ p.2) := by
  rw [Array.toList_map]

theorem Yp.build {ps : Array (Nat × Operand)} {as0 : List (Nat × AV)} {places : List (Nat × Nat)} {zs : List Value} {cs : List AV} (ho : o.op = .build T ps) (hp : placesOf P T = some places) (hz : zerosOf P T = some zs) (he : E.evp ps.toList = some as0) (hf : afill (places.toArray[·]?) (zs.map .lit) as0 = some cs) : Yp P E σ o (.agg cs) := fun A w ρ _ hρ => by
  obtain ⟨it, hit, hz1⟩ := Option.bind_eq_some_iff.1 hz
  obtain ⟨zv, hz2, hz3⟩ := Option.map_eq_some_iff.1 hz1
  have hzr : RelL A w (zs.map .lit) zv.cells.toList := by rw [hz3]; exact RelL.lits _
  obtain ⟨us, h1, h2⟩ := fill_rel hzr (Env.evp_rel hρ he) hf
  refine ⟨.agg us, by simpa using Rel.aggL h2, fun w' _ => ?_⟩
  have hb : P.built T (ps.map fun (i, x) => (i, ρ x)).toList = some us := by
    unfold Program.built placesOf at *
    rw [hit]
    cases hu : P.underlying T with
    | none => rw [hu] at hp; cases hp
    | some d =>
      rw [hu] at hp
      cases d <;> simp only at hp <;> first | (cases hp; done) | skip
      rw [map_pair]
      simp only [hz2, hp]
      exact h1
  have := run_build (P := P) w' T _ us hb
  simp [execOp, ho, this]

theorem Yp.buildA {ps : Array (Nat × Operand)} {as0 : List (Nat × AV)} {sz n' : Nat} {zs : List Value} {cs : List AV} (ho : o.op = .build T ps) (hT : P.underlying T = some (.array n' e)) (hs : (P.info? e).map (·.size) = some sz) (hz : zerosOf P T = some zs) (he : E.evp ps.toList = some as0) (hf : afill (fun i => some (i * sz, sz)) (zs.map .lit) as0 = some cs) : Yp P E σ o (.agg cs) := fun A w ρ _ hρ => by
  obtain ⟨it, hit, hz1⟩ := Option.bind_eq_some_iff.1 hz
  obtain ⟨zv, hz2, hz3⟩ := Option.map_eq_some_iff.1 hz1
  obtain ⟨ie, hie, hse⟩ := Option.map_eq_some_iff.1 hs
  have hzr : RelL A w (zs.map .lit) zv.cells.toList := by rw [hz3]; exact RelL.lits _
  obtain ⟨us, h1, h2⟩ := fill_rel hzr (Env.evp_rel hρ he) hf
  refine ⟨.agg us, by simpa using Rel.aggL h2, fun w' _ => ?_⟩
  have hb : P.built T (ps.map fun (i, x) => (i, ρ x)).toList = some us := by
    unfold Program.built
    rw [hit, hT, map_pair]
    simp only [hz2, hie, hse]
    exact h1
  have := run_build (P := P) w' T _ us hb
  simp [execOp, ho, this]

/-! ### rows -/

/-- the cells of a list of elements, element by element -/
theorem flat_block {α : Type} [Inhabited α] {c : α → List AV} {sz : Nat} : ∀ (l : List α), (∀ i, i < l.length → (c l[i]!).length = sz) → (l.flatMap c).length = l.length * sz ∧ ∀ i, i < l.length → ((l.flatMap c).drop (i * sz)).take sz = c l[i]!
  | [], _ => ⟨by simp, fun i hi => by cases hi⟩
  | x :: l, h => by
    have h0 : (c x).length = sz := h 0 (by simp)
    obtain ⟨h1, h2⟩ := flat_block l fun i hi => by
      have := h (i + 1) (by simpa using hi)
      rwa [show (x :: l)[i + 1]! = l[i]! from by rw [getElem!_pos _ (i + 1) (by simpa using hi), getElem!_pos l i hi]; rfl] at this
    refine ⟨by rw [List.flatMap_cons, List.length_append, h0, h1, List.length_cons, Nat.succ_mul]; omega, fun i hi => ?_⟩
    rw [List.flatMap_cons]
    cases i with
    | zero => rw [Nat.zero_mul, List.drop_zero, ← h0, List.take_left']
              · rfl
              · rfl
    | succ i =>
      have hi' : i < l.length := by simpa using hi
      rw [show (x :: l)[i + 1]! = l[i]! from by rw [getElem!_pos _ (i + 1) (by simpa using hi'), getElem!_pos l i hi']; rfl, ← h2 i hi']
      rw [show (i + 1) * sz = (c x).length + i * sz from by rw [h0, Nat.succ_mul]; omega, ← List.drop_drop, List.drop_left']
      rfl

theorem row_ok {A : Nat → Prop} {w : World} {α : Type} [Inhabited α] {c : α → List AV} {sz : Nat} {l : List α} {us : List Value} {T : TypeId} (hr : RowIs w v T sz l.length us) (hz : ∀ i, i < l.length → (c l[i]!).length = sz) (h : RelL A w (l.flatMap c) us) : Res.ok A w (.row v T sz c l) :=
  ⟨us, hr, hz, fun i hi => by rw [← (flat_block l hz).2 i hi]; exact (h.drop _).take _⟩
theorem row_flat {A : Nat → Prop} {w : World} {α : Type} [Inhabited α] {c : α → List AV} {sz : Nat} {l : List α} {T : TypeId} (h : Res.ok A w (.row v T sz c l)) : ∃ us, RowIs w v T sz l.length us ∧ (∀ i, i < l.length → (c l[i]!).length = sz) ∧ RelL A w (l.flatMap c) us := by
  obtain ⟨us, h1, h2, h3⟩ := h
  refine ⟨us, h1, h2, ?_⟩
  obtain ⟨f1, f2⟩ := flat_block l h2
  refine ⟨by rw [f1, h1.1], fun j a u ha hu => ?_⟩
  have hj : j < l.length * sz := by rw [← f1]; exact (List.getElem?_eq_some_iff.1 ha).1
  have hsz : 0 < sz := by
    rcases Nat.eq_zero_or_pos sz with h | h
    · rw [h] at hj; omega
    · exact h
  have hi : j / sz < l.length := by rw [Nat.div_lt_iff_lt_mul hsz]; exact hj
  have hm : j % sz < sz := Nat.mod_lt _ hsz
  have he : j / sz * sz + j % sz = j := by rw [Nat.mul_comm]; exact Nat.div_add_mod j sz
  refine (h3 _ hi).2 (j % sz) a u ?_ ?_
  · rw [← f2 _ hi, List.getElem?_take, if_pos hm, List.getElem?_drop, he]; exact ha
  · rw [List.getElem?_take, if_pos hm, List.getElem?_drop, he]; exact hu

theorem get_append_left! {α : Type} [Inhabited α] (l l2 : List α) (i : Nat) (h : i < l.length) : (l ++ l2)[i]! = l[i]! := by
  rw [getElem!_pos _ i (by rw [List.length_append]; omega), List.getElem_append_left h, ← getElem!_pos l i h]
theorem get_append_right! {α : Type} [Inhabited α] (l l2 : List α) (i : Nat) (h : l.length ≤ i) (h2 : i < l.length + l2.length) : (l ++ l2)[i]! = l2[i - l.length]! := by
  rw [getElem!_pos _ i (by rw [List.length_append]; exact h2), List.getElem_append_right h, ← getElem!_pos l2 (i - l.length) (by omega)]
theorem unif_app {α : Type} [Inhabited α] {c : α → List AV} {sz : Nat} {l l2 : List α} (h : ∀ i, i < l.length → (c l[i]!).length = sz) (h2 : ∀ i, i < l2.length → (c l2[i]!).length = sz) : ∀ i, i < (l ++ l2).length → (c (l ++ l2)[i]!).length = sz := fun i hi => by
  rw [List.length_append] at hi
  by_cases hlt : i < l.length
  · rw [get_append_left! _ _ _ hlt]; exact h i hlt
  · rw [get_append_right! _ _ _ (by omega) hi]; exact h2 _ (by omega)

theorem zeros_flat {zs : List Value} {sz n : Nat} (hsz : zs.length = sz) (hpos : 0 < sz) : ((Array.range (n * sz)).map (zs.toArray[· % zs.toArray.size]!)).toList = (List.replicate n zs).flatten := by
  apply List.ext_getElem?
  intro j
  have hfl : (List.replicate n zs).flatten.length = n * sz := by simp [hsz]
  have hq : ∀ (q : Nat) (j : Nat), j < q * sz → (List.replicate q zs).flatten[j]? = zs[j % sz]? := by
    intro q
    induction q with
    | zero => intro j hj; simp at hj
    | succ q ih =>
      intro j hj
      rw [List.replicate_succ, List.flatten_cons, List.getElem?_append]
      split
      · rename_i h; rw [hsz] at h; rw [Nat.mod_eq_of_lt h]
      · rename_i h
        rw [hsz] at h
        rw [hsz, ih _ (by rw [Nat.succ_mul] at hj; omega), Nat.mod_eq_sub_mod (by omega : sz ≤ j)]
  by_cases hj : j < n * sz
  · rw [hq n j hj]
    have hmod : j % sz < sz := Nat.mod_lt _ hpos
    simp [hj, hsz, hmod]
  · rw [List.getElem?_eq_none (l := (List.replicate n zs).flatten) (by rw [hfl]; omega)]
    simp [hj]

theorem Yv.lit {len sz : Nat} {ps : Array (Nat × Operand)} {as0 : List (Nat × AV)} {zs : List Value} {cs : List AV} {α : Type} [Inhabited α] (c : α → List AV) (l : List α) (ho : o.op = .buildSlice T len ps) (hT : P.underlying T = some (.slice e)) (hs : (P.info? e).map (·.size) = some sz) (hz : zerosOf P e = some zs) (he : E.evp ps.toList = some as0)
    (hzl : zs.length = sz) (hf : afill (fun i => some (i * sz, sz)) ((List.replicate len zs).flatten.map .lit) as0 = some cs) (hl : l.length = len) (hc : l.flatMap c = cs) (hu : ∀ i, i < l.length → (c l[i]!).length = sz) (hpos : 0 < len * sz) (hsm : len * sz ≤ 2 ^ 24) :
    Yv P E σ o C [] (fun a σ' => ∃ v, a = .lit v ∧ σ' = .row v e sz c l :: σ) := fun w ρ hg hρ => by
  obtain ⟨it, hit, hz1⟩ := Option.bind_eq_some_iff.1 hz
  obtain ⟨zv, hz2, hz3⟩ := Option.map_eq_some_iff.1 hz1
  obtain ⟨ie, hie, hse⟩ := Option.map_eq_some_iff.1 hs
  have hee : it = ie := by rw [hit] at hie; exact Option.some.inj hie
  subst hee
  have hzc : zv.cells = zs.toArray := by rw [← hz3]
  obtain ⟨us, h1, h2⟩ := fill_rel (init := (List.replicate len zs).flatten.toArray) (RelL.lits _) (Env.evp_rel hρ he) hf
  have hrun := run_buildSlice (P := P) w T e len (ps.map fun (i, x) => (i, ρ x)) us it zv hT hit hz2 (by rw [hse]; omega) (by rw [hse]; omega) (by
    rw [hse, hzc, map_pair, ← h1]
    congr 1
    apply Array.ext'
    exact zeros_flat hzl (Nat.pos_of_mul_pos_left hpos))
  have hlp : 0 < len := Nat.pos_of_mul_pos_right hpos
  have hlen : us.toList.length = len * sz := by rw [h2.1, ← hc, (flat_block l hu).1, hl]
  refine ⟨_, w.alloc (.cells us e), _, _, ⟨.slice (some ⟨w.heap.size, 0, none⟩) len len, rfl, rfl⟩, ?_, by simp [execOp, ho, hrun], .lit _⟩
  obtain ⟨ln, rfl⟩ : ∃ ln, len = ln + 1 := ⟨len - 1, by omega⟩
  refine tr_new (r := .row (.slice (some ⟨w.heap.size, 0, none⟩) (ln + 1) (ln + 1)) e sz c l) hg (kp_alloc w _) (.inr rfl) (row_ok (us := us.toList) ?_ hu ?_)
  · rw [hl]
    refine ⟨hlen, .inr ⟨w.heap.size, ln, us, rfl, heap_alloc_new w _, Nat.le_refl _, ?_, by rw [← Array.length_toList, hlen], by rw [← hlen, List.take_length]⟩⟩
    have : ln + 1 ≤ (ln + 1) * sz := Nat.le_mul_of_pos_right _ (Nat.pos_of_mul_pos_left hpos)
    unfold maxLen
    omega
  · rw [hc]
    exact relL_new (r := .row (.slice (some ⟨w.heap.size, 0, none⟩) (ln + 1) (ln + 1)) e sz c l) h2 (.inr rfl) (kp_alloc w _)

theorem Yv.lit0 {s : Nat} {α : Type} [Inhabited α] (c : α → List AV) (sz : Nat) (ho : o.op = .buildSlice T 0 #[]) (hT : P.underlying T = some (.slice e)) (hs : (P.info? e).map (·.size) = some s) : Yv P E σ o C [] (fun a σ' => ∃ v, a = .lit v ∧ σ' = .row v e sz c ([] : List α) :: σ) := fun w ρ hg hρ => by
  obtain ⟨j, hj, hj'⟩ := Option.map_eq_some_iff.1 hs
  refine ⟨_, w.alloc (.cells #[] e), _, _, ⟨.slice (some ⟨w.heap.size, 0, none⟩) 0 0, rfl, rfl⟩, tr_new hg (kp_alloc w _) (.inl rfl) ⟨[], ⟨by simp, .inl ⟨_, rfl, rfl⟩⟩, fun i hi => by simp at hi, fun i hi => by simp at hi⟩, ?_, .lit _⟩
  simp [execOp, ho, Instr.buildSlice, run_underlying hT, sizeOf, typeInfo, hj, Instr.fill, newRow]
  rw [show Array.range 0 = #[] from rfl, Array.map_empty]

/-- make([]T, m, n) -/
theorem Yv.make {sz by' : Nat} {zs : List Value} {α : Type} [Inhabited α] (c : α → List AV) (d : α) (ho : o.op = .makeSlice T x y) (hx : E.ev x = some (.i m)) (hy : E.ev y = some (.i n)) (hT : P.underlying T = some (.slice e)) (hs : (P.info? e).map (fun i => (i.size, i.bytes)) = some (sz, by')) (hz : zerosOf P e = some zs) (hb : Nat.ble by' 4096 = true) (hsz : zs.length = sz) (hd : c d = zs.map .lit) (hpos : 0 < sz)
    (hm : 0 ≤ m ∧ m ≤ n ∧ n ≤ 1073741824) : Yv P E σ o C [] (fun a σ' => ∃ v, a = .lit v ∧ σ' = .row v e sz c (List.replicate m.toNat d) :: σ) := fun w ρ hg hρ => by
  obtain ⟨it, hit, hz1⟩ := Option.bind_eq_some_iff.1 hz
  obtain ⟨zv, hz2, hz3⟩ := Option.map_eq_some_iff.1 hz1
  obtain ⟨ie, hie, hse⟩ := Option.map_eq_some_iff.1 hs
  have hee : it = ie := by rw [hit] at hie; exact Option.some.inj hie
  subst hee
  simp only [Prod.mk.injEq] at hse
  obtain ⟨s1, s2⟩ := hse
  have hzc : zv.cells = zs.toArray := by rw [← hz3]
  have hby : by' ≤ 4096 := by simpa using hb
  obtain ⟨mm, rfl⟩ : ∃ mm : Nat, m = mm := ⟨m.toNat, by omega⟩
  obtain ⟨nn, rfl⟩ : ∃ nn : Nat, n = nn := ⟨n.toNat, by omega⟩
  have hbb : (it.bytes : Int) * (nn : Int) ≤ 281474976710656 := by
    have h1 : it.bytes * nn ≤ 4096 * 1073741824 := Nat.mul_le_mul (by omega) (by omega)
    have h' : ((it.bytes * nn : Nat) : Int) ≤ 281474976710656 := by omega
    rwa [Int.natCast_mul] at h'
  have hrun := run_make (P := P) w T e it zv hT hit hz2 .i64 .i64 mm nn (by omega) (by omega) hbb (by omega)
  rw [Int.toNat_natCast, Int.toNat_natCast] at hrun
  have hx' := (hρ _ _ hx).litEq
  have hy' := (hρ _ _ hy).litEq
  refine ⟨.slice (some ⟨w.heap.size, 0, none⟩) mm nn, w.alloc (.cells (madeCells zv.cells (nn * it.size)) e), _, _, ⟨.slice (some ⟨w.heap.size, 0, none⟩) mm nn, rfl, rfl⟩, ?_, ?_, .lit _⟩
  · rw [Int.toNat_natCast]
    have hcells : (madeCells zv.cells (nn * it.size)).toList = (List.replicate nn zs).flatten := by
      rw [hzc, s1]
      unfold madeCells
      apply List.ext_getElem?
      intro j
      have hfl : (List.replicate nn zs).flatten.length = nn * sz := by simp [hsz]
      have hq : ∀ (q : Nat) (j : Nat), j < q * sz → (List.replicate q zs).flatten[j]? = zs[j % sz]? := by
        intro q
        induction q with
        | zero => intro j hj; simp at hj
        | succ q ih =>
          intro j hj
          rw [List.replicate_succ, List.flatten_cons, List.getElem?_append]
          split
          · rename_i h; rw [hsz] at h; rw [Nat.mod_eq_of_lt h]
          · rename_i h
            rw [hsz] at h
            rw [hsz, ih _ (by rw [Nat.succ_mul] at hj; omega), Nat.mod_eq_sub_mod (by omega : sz ≤ j)]
      by_cases hj : j < nn * sz
      · rw [hq nn j hj]
        have hmod : j % sz < sz := Nat.mod_lt _ hpos
        simp [hj, hsz, hmod]
      · rw [List.getElem?_eq_none (l := (List.replicate nn zs).flatten) (by rw [hfl]; omega)]
        simp [hj]
    by_cases hn0 : nn = 0
    · have hm0 : mm = 0 := by omega
      subst hn0 hm0
      exact tr_new hg (kp_alloc w _) (.inl rfl) ⟨[], ⟨by simp, .inl ⟨_, rfl, rfl⟩⟩, fun i hi => by simp at hi, fun i hi => by simp at hi⟩
    · obtain ⟨nk, rfl⟩ : ∃ nk, nn = nk + 1 := ⟨nn - 1, by omega⟩
      have hu : ∀ i, i < (List.replicate mm d).length → (c (List.replicate mm d)[i]!).length = sz := fun i hi => by
        rw [getElem!_pos _ i hi, List.getElem_replicate, hd, List.length_map, hsz]
      have hfl : ∀ q, (List.replicate q zs).flatten.length = q * sz := fun q => by simp [hsz]
      have hfl2 : ∀ q : Nat, (List.replicate q d).flatMap c = ((List.replicate q zs).flatten).map .lit := fun q => by
        induction q with
        | zero => rfl
        | succ q ih => rw [List.replicate_succ, List.replicate_succ, List.flatMap_cons, List.flatten_cons, List.map_append, ih, hd]
      have htk : ∀ q q' : Nat, q ≤ q' → ((List.replicate q' zs).flatten).take (q * sz) = (List.replicate q zs).flatten := fun q q' h => by
        obtain ⟨r, rfl⟩ : ∃ r, q' = q + r := ⟨q' - q, by omega⟩
        rw [← List.replicate_append_replicate, List.flatten_append, ← hfl q]
        exact List.take_left
      refine tr_new (r := .row (.slice (some ⟨w.heap.size, 0, none⟩) mm (nk + 1)) e sz c (List.replicate mm d)) hg (kp_alloc w _) (.inr rfl) (row_ok (us := (List.replicate mm zs).flatten) ?_ hu ?_)
      · rw [List.length_replicate]
        refine ⟨hfl mm, .inr ⟨w.heap.size, nk, _, rfl, heap_alloc_new w _, by omega, by unfold maxLen; omega, ?_, by rw [hcells]; exact htk _ _ (by omega)⟩⟩
        rw [← Array.length_toList, hcells, hfl]
      · rw [hfl2]
        exact RelL.lits _
  · simp [execOp, ho, hx', hy', hrun]

/-! ### append -/

theorem run_append_row {w : World} {ty : TypeId} {i : TypeInfo} {zz : Value} {sz by' nn mm : Nat} {us news : List Value} {xs : Value} (ht : P.underlying T = some (.slice e)) (hi : P.info? e = some i) (hz : i.zero = some zz) (hs : i.size = sz) (hby : i.bytes = by') (hzs : zz.cells.size = sz)
    (hrow : RowIs w v e sz nn us) (hx : ∃ p c, xs = .slice p mm c ∧ (mm = 0 ∨ ∃ a, p = some a ∧ ∀ j u, news[j]? = some u → w.cell? (a.add j) = some u)) (hl : news.length = mm * sz) (h1 : ∀ u ∈ news, u.oneCell' = true) (h63 : nn + mm ≤ maxLen) (hb : (nn + mm) * by' ≤ 140737488355328) :
    ∃ v' w', (Builtin.append_ #[T, T] ty #[v, xs]).run P w = .ok v' w' ∧ RowIs w' v' e sz (nn + mm) (us ++ news) ∧ Kp (rblk v).toList w w' ∧ (rblk v' = rblk v ∨ rblk v' = some w.heap.size) := by
  subst hs hby
  obtain ⟨p, cx, rfl, hx⟩ := hx
  by_cases hm : mm = 0
  · subst hm
    have hn : news = [] := List.eq_nil_of_length_eq_zero (by simpa using hl)
    subst hn
    obtain ⟨q, cap, rfl, hcap⟩ := hrow.len
    have hf : ∀ w, (Builtin.firstCells i.size 0 (.slice p 0 cx)).run P w = .ok #[] w := fun w => by
      cases p <;> simp [Builtin.firstCells, loadCells, loadCellsFrom]
    have hrun : (Builtin.append_ #[T, T] ty #[.slice q nn cap, .slice p 0 cx]).run P w = .ok (.slice q nn cap) w := by
      cases q <;> simp [Builtin.append_, run_underlying ht, sizeOf, typeInfo, hi, Builtin.lenOf, hf, hcap, storeCells]
    exact ⟨_, w, hrun, by simpa using hrow, Kp.refl _ _, .inl rfl⟩
  · obtain ⟨a, rfl, hc⟩ := hx.resolve_left hm
    have grown : ∀ (olds : List Value) (old : Nat), olds.length = nn * i.size → old < nn + mm → us = olds →
        RowIs (w.drew.alloc (.cells (olds.toArray ++ news.toArray ++ Builtin.zeroCells zz.cells (grownCap w (nn + mm) old e - (nn + mm))) e)) (.slice (some ⟨w.heap.size, 0, none⟩) (nn + mm) (grownCap w (nn + mm) old e)) e i.size (nn + mm) (us ++ news) := by
      intro olds old hol hlt hus
      subst hus
      have hge := grownCap_ge w (nn + mm) old e
      have hcm := grownCap_le_maxLen w (nn + mm) old e h63
      obtain ⟨ck, hck⟩ : ∃ ck, grownCap w (nn + mm) old e = ck + 1 := ⟨grownCap w (nn + mm) old e - 1, by omega⟩
      refine ⟨by rw [List.length_append, hol, hl, Nat.add_mul], .inr ⟨w.heap.size, ck, _, by rw [hck], heap_alloc_new w.drew _, by omega, by omega, ?_, ?_⟩⟩
      · rw [← hck]
        simp only [Array.size_append, List.size_toArray, size_zeroCells, hzs, hol, hl, ← Nat.add_mul]
        congr 1
        omega
      · simp only [Array.toList_append, List.append_assoc]
        rw [← List.append_assoc, show (nn + mm) * i.size = (us ++ news).length from by rw [List.length_append, hol, hl, Nat.add_mul]]
        exact List.take_left
    rcases hrow.2 with ⟨q, rfl, rfl⟩ | ⟨g, cap, cur, rfl, hg, hnc, hcm, hcs, htake⟩
    · have hu : us = [] := List.eq_nil_of_length_eq_zero (by simpa using hrow.1)
      have hgr := grown [] 0 (by simp) (by omega) hu
      rw [Nat.zero_add] at hgr hb h63
      have hgc := grownCap_ge w mm 0 e
      have hrb : rblk (.slice (some ⟨w.heap.size, 0, none⟩) mm (grownCap w mm 0 e)) = some w.heap.size := by
        obtain ⟨ck, hck⟩ : ∃ ck, grownCap w mm 0 e = ck + 1 := ⟨grownCap w mm 0 e - 1, by omega⟩
        rw [hck]; rfl
      have h63' : (mm : Int) ≤ 9223372036854775807 := by unfold maxLen at h63; omega
      cases q with
      | none =>
        have hr := run_append_nil (P := P) w T ty e i zz ht hi hz a mm cx news hl hc (by omega) h63' (by omega)
        refine ⟨_, _, hr, ?_, kp_alloc' w _, .inr hrb⟩
        rw [Nat.zero_add]
        simpa using hgr
      | some b =>
        have hr := run_append_grow (P := P) w T ty e i zz ht hi hz b 0 0 [] (by simp) (fun j v hj => by cases hj) a mm cx news hl hc (by omega) (by simpa using h63') (growslice_fits (by omega) (by rw [Nat.zero_add]; exact hb))
        refine ⟨_, _, hr, ?_, kp_alloc' w _, .inr (by rw [Nat.zero_add]; exact hrb)⟩
        rw [Nat.zero_add]
        exact hgr
    · by_cases hroom : nn + mm ≤ cap + 1
      · have hfit : nn * i.size + news.length ≤ cur.size := by rw [hl, hcs, ← Nat.add_mul]; exact Nat.mul_le_mul_right _ hroom
        have hr := run_append_room (P := P) w T ty e i ht hi g nn (cap + 1) cur hg a mm cx news hl hc h1 hroom hfit
        refine ⟨_, _, hr, ⟨by rw [List.length_append, hrow.1, hl, Nat.add_mul], .inr ⟨g, cap, _, rfl, setRow_heap w g cur _ e _ hg, hroom, hcm, ?_, ?_⟩⟩, kp_setRow w g _, .inl rfl⟩
        · simp only [List.size_toArray, List.length_append, List.length_take, List.length_drop, Array.length_toList]
          omega
        · rw [htake, show (nn + mm) * i.size = (us ++ news).length from by rw [List.length_append, hrow.1, hl, Nat.add_mul]]
          exact List.take_left
      · have holds : ∀ j v, us[j]? = some v → w.cell? ((⟨g, 0, none⟩ : Addr).add j) = some v := fun j v hj => by
          rw [add0, Nat.zero_add]; exact hrow.cells rfl j v hj
        have h63' : ((nn + mm : Nat) : Int) ≤ 9223372036854775807 := by unfold maxLen at h63; omega
        have hr := run_append_grow (P := P) w T ty e i zz ht hi hz ⟨g, 0, none⟩ nn (cap + 1) us hrow.1 holds a mm cx news hl hc (by omega) h63' (growslice_fits (by omega) hb)
        have hgr := grown us (cap + 1) hrow.1 (by omega) rfl
        have hgc := grownCap_ge w (nn + mm) (cap + 1) e
        refine ⟨_, _, hr, hgr, ⟨rfl, rfl, rfl, by simp, fun k hk _ => heap_alloc_old w.drew _ hk⟩, .inr ?_⟩
        obtain ⟨ck, hck⟩ : ∃ ck, grownCap w (nn + mm) (cap + 1) e = ck + 1 := ⟨grownCap w (nn + mm) (cap + 1) e - 1, by omega⟩
        rw [hck]; rfl

/-- the elements of an operand, as0 append and copy take them -/
def Src {α : Type} [Inhabited α] (σ : List Res) (E : Env) (x : Operand) (e : TypeId) (sz : Nat) (c : α → List AV) (l : List α) : Prop :=
  (E.ev x = some (.lit (.slice none 0 0)) ∧ l = []) ∨ E.ev x = some (.sl sz c l) ∨ ∃ (i : Nat) (v : Value), E.ev x = some (.lit v) ∧ σ[i]? = some (.row v e sz c l)

theorem Src.spec {α : Type} [Inhabited α] {sz : Nat} {c : α → List AV} {l : List α} {A : Nat → Prop} {w : World} {ρ : Operand → Value} (h : Src σ E x e sz c l) (hd : Hd A σ w) (hρ : Ops A w E ρ) : ∃ p cap news, ρ x = .slice p l.length cap ∧ (l.length = 0 ∨ ∃ a, p = some a ∧ ∀ j u, news[j]? = some u → w.cell? (a.add j) = some u) ∧ news.length = l.length * sz ∧ (∀ i, i < l.length → (c l[i]!).length = sz) ∧ RelL A w (l.flatMap c) news ∧ l.length ≤ 9223372036854775807 := by
  rcases h with ⟨h, rfl⟩ | h | ⟨i, v, h, hσ⟩
  · exact ⟨none, 0, [], (hρ _ _ h).litEq, .inl rfl, by simp, fun i hi => by simp at hi, RelL.nil, by simp⟩
  · have hr := hρ _ _ h
    obtain ⟨p, cap, u, hv, hl, _, hz, hc, hcr⟩ := hr.slInv
    rw [hv] at hr
    let news : List Value := (List.range l.length).flatMap fun i => (List.range sz).map fun j => u i j
    have hnl : ∀ (q : List Nat), (q.flatMap fun i => (List.range sz).map fun j => u i j).length = q.length * sz := fun q => by
      induction q with
      | nil => simp
      | cons a q ih => rw [List.flatMap_cons, List.length_append, ih, List.length_map, List.length_range, List.length_cons, Nat.succ_mul]; omega
    have hnews : news.length = l.length * sz := by rw [hnl, List.length_range]
    have hget : ∀ n i j, i < n → j < sz → ((List.range n).flatMap fun i => (List.range sz).map fun j => u i j)[i * sz + j]? = some (u i j) := by
      intro n
      induction n with
      | zero => intro i j hi _; omega
      | succ n ih =>
        intro i j hi hj
        rw [List.range_succ, List.flatMap_append, List.getElem?_append, hnl, List.length_range]
        by_cases hin : i < n
        · have : i * sz + sz ≤ n * sz := by rw [← Nat.succ_mul]; exact Nat.mul_le_mul_right _ hin
          rw [if_pos (by omega)]
          exact ih i j hin hj
        · have : i = n := by omega
          subst this
          rw [if_neg (by omega)]
          simp [hj]
    refine ⟨p, cap, news, hv, ?_, hnews, hz, ?_, hl⟩
    · by_cases h0 : l.length = 0
      · exact .inl h0
      · obtain ⟨b, off, hp, hb, hA, hcc⟩ := hc 0 (by omega)
        refine .inr ⟨⟨b, off, none⟩, hp, fun j v hj => ?_⟩
        have hjl : j < l.length * sz := by rw [← hnews]; exact (List.getElem?_eq_some_iff.1 hj).1
        have hsz : 0 < sz := by
          rcases Nat.eq_zero_or_pos sz with h | h
          · rw [h] at hjl; omega
          · exact h
        have hi : j / sz < l.length := by rw [Nat.div_lt_iff_lt_mul hsz]; exact hjl
        have hm : j % sz < sz := Nat.mod_lt _ hsz
        have he : j / sz * sz + j % sz = j := by rw [Nat.mul_comm]; exact Nat.div_add_mod j sz
        have h2 := hget l.length (j / sz) (j % sz) hi hm
        rw [he] at h2
        have h3 : some v = some (u (j / sz) (j % sz)) := by rw [← hj, ← h2]
        cases h3
        obtain ⟨b', off', hp', _, _, hcc'⟩ := hc (j / sz) hi
        rw [hp] at hp'
        cases hp'
        have h4 := hcc' (j % sz) hm
        rw [add0, show off + j = off + j / sz * sz + j % sz from by omega]
        exact h4
    · obtain ⟨f1, f2⟩ := flat_block l hz
      refine ⟨by rw [f1, hnews], fun j a w' ha hw' => ?_⟩
      have hjl : j < l.length * sz := by rw [← hnews]; exact (List.getElem?_eq_some_iff.1 hw').1
      have hsz : 0 < sz := by
        rcases Nat.eq_zero_or_pos sz with h | h
        · rw [h] at hjl; omega
        · exact h
      have hi : j / sz < l.length := by rw [Nat.div_lt_iff_lt_mul hsz]; exact hjl
      have hm : j % sz < sz := Nat.mod_lt _ hsz
      have he : j / sz * sz + j % sz = j := by rw [Nat.mul_comm]; exact Nat.div_add_mod j sz
      have h2 := hget l.length (j / sz) (j % sz) hi hm
      rw [he] at h2
      have h3 : some w' = some (u (j / sz) (j % sz)) := by rw [← hw', ← h2]
      cases h3
      refine hcr (j / sz) (j % sz) a hi ?_
      rw [← f2 _ hi, List.getElem?_take, if_pos hm, List.getElem?_drop, he]
      exact ha
  · obtain ⟨us, h1, h2, h3⟩ := row_flat (hd.1 _ (List.mem_of_getElem? hσ))
    obtain ⟨p, cap, hv, _⟩ := h1.len
    have hx' := (hρ _ _ h).litEq
    have hlm : l.length ≤ 9223372036854775807 := by
      rcases h1.2 with ⟨_, _, h⟩ | ⟨_, _, _, _, _, q1, q2, _⟩
      · omega
      · unfold maxLen at q2; omega
    refine ⟨p, cap, us, by rw [hx', hv], ?_, h1.1, h2, h3, hlm⟩
    by_cases h0 : l.length = 0
    · exact .inl h0
    · obtain ⟨g, ck, cur, hv2, hgb, _⟩ := h1.at (by omega)
      rw [hv2] at hv
      cases hv
      refine .inr ⟨_, rfl, fun j u hj => ?_⟩
      rw [add0, Nat.zero_add]
      exact h1.cells hgb j u hj

/-- append(v, l2...) onto an own slice -/
theorem Yv.app {sz by' : Nat} {α : Type} [Inhabited α] {c : α → List AV} {l l2 : List α} {zs : List Value} (i : Nat) (ho : o.op = .call { callee := .builtin .append, args := #[x, y], argTypes := #[T, T] }) (hx : E.ev x = some (.lit v)) (hσ : σ[i]? = some (.row v e sz c l)) (hy : Src σ E y e sz c l2) (hT : P.underlying T = some (.slice e)) (hs : (P.info? e).map (fun i => (i.size, i.bytes)) = some (sz, by')) (hz : zerosOf P e = some zs) (hzl : zs.length = sz) (hb : Nat.ble by' 4096 = true)
    (h1 : ∀ x : α, (c x).all acell1 = true) (hlen : (l ++ l2).length ≤ 1073741824) : Yv P E σ o C (Option.toList (rblk v)) (fun a σ' => ∃ v', a = .lit v' ∧ σ' = σ.set i (.row v' e sz c (l ++ l2))) := fun w ρ hg hρ => by
  obtain ⟨it, hit, hz1⟩ := Option.bind_eq_some_iff.1 hz
  obtain ⟨zv, hz2, hz3⟩ := Option.map_eq_some_iff.1 hz1
  obtain ⟨ie, hie, hse⟩ := Option.map_eq_some_iff.1 hs
  have hee : it = ie := by rw [hit] at hie; exact Option.some.inj hie
  subst hee
  simp only [Prod.mk.injEq] at hse
  obtain ⟨s1, s2⟩ := hse
  have hby : by' ≤ 4096 := by simpa using hb
  obtain ⟨us, g1, g2, g3⟩ := row_flat (hg.res _ (List.mem_of_getElem? hσ))
  obtain ⟨p, cap, news, q1, q2, q3, q4, q5, q6⟩ := hy.spec hg.hd hρ
  have hx' := (hρ _ _ hx).litEq
  have hone : ∀ u ∈ news, u.oneCell' = true := q5.one (by
    rw [List.all_eq_true]
    intro a ha
    obtain ⟨x, _, hx⟩ := List.mem_flatMap.1 ha
    exact List.all_eq_true.1 (h1 x) a hx)
  rw [List.length_append] at hlen
  have hbytes : (l.length + l2.length) * by' ≤ 140737488355328 := by
    have : (l.length + l2.length) * by' ≤ 1073741824 * 4096 := Nat.mul_le_mul hlen hby
    omega
  obtain ⟨v', w', r1, r2, r3, r4⟩ := run_append_row (P := P) (T := T) (ty := o.type) (xs := ρ y) hT hit hz2 s1 s2 (by rw [← Array.length_toList, hz3, hzl]) g1 ⟨p, cap, q1, q2⟩ q3 hone (by unfold maxLen; omega) hbytes
  refine ⟨v', w', _, _, ⟨v', rfl, rfl⟩, tr_upd (r := .row v e sz c l) hg hσ r3 r4 (row_ok (by rw [List.length_append]; exact r2) (unif_app g2 q4) ?_), ?_, .lit _⟩
  · rw [List.flatMap_append]
    refine (g3.app q5).mono fun b hb hA => ⟨⟨hA.1, fun hx => ?_⟩, r3.block b hb (fun hx => hA.2 (mem_blks.2 ⟨_, List.mem_of_getElem? hσ, by simpa [Res.blk] using hx⟩))⟩
    obtain ⟨s, hs1, hs2⟩ := mem_blks.1 hx
    rcases List.mem_or_eq_of_mem_set hs1 with h | h
    · exact hA.2 (mem_blks.2 ⟨s, h, hs2⟩)
    · rw [h] at hs2
      rcases r4 with r4 | r4
      · exact hA.2 (mem_blks.2 ⟨_, List.mem_of_getElem? hσ, r4.symm.trans hs2⟩)
      · have : some w.heap.size = some b := r4.symm.trans hs2
        cases this
        omega
  · simp [execOp, ho, resolve, invoke, builtin, hx', r1]
end
end Go.Ab
end
section
set_option linter.unusedSectionVars false
set_option linter.unusedVariables false
set_option linter.unusedSimpArgs false
namespace Go.Ab
open Go Go.RowKit

/-! ### parts of slices -/

theorem Rel.slTake {A : Nat → Prop} {w : World} {α : Type} [Inhabited α] {sz : Nat} {c : α → List AV} {l : List α} {p : Option Addr} {cap : Nat} (h : Rel A w (.sl sz c l) (.slice p l.length cap)) {lo hi cap' : Nat} (h1 : lo ≤ hi) (h2 : hi ≤ l.length) (hc' : hi - lo ≤ cap') (q : Option Addr) (hq : hi - lo = 0 ∨ q = p.map (·.add (lo * sz))) :
    Rel A w (.sl sz c ((l.take hi).drop lo)) (.slice q (hi - lo) cap') := by
  obtain ⟨p', cp, u, hv, hl, hcap, hz, hc, hr⟩ := h.slInv
  cases hv
  have hln : ((l.take hi).drop lo).length = hi - lo := by rw [List.length_drop, List.length_take]; omega
  have hget : ∀ i, i < hi - lo → ((l.take hi).drop lo)[i]! = l[lo + i]! := fun i hi' => by
    rw [getElem!_pos _ i (by rw [hln]; exact hi'), getElem!_pos l (lo + i) (by omega), List.getElem_drop, List.getElem_take]
  have hgoal : Rel A w (.sl sz c ((l.take hi).drop lo)) (.slice q ((l.take hi).drop lo).length cap') := by
    refine .sl sz c _ q cap' (fun i j => u (lo + i) j) (by omega) (by omega) (fun i hi' => ?_) (fun i hi' => ?_) (fun i j a hi' ha => ?_)
    · rw [hln] at hi'
      rw [hget i hi']; exact hz _ (by omega)
    · rw [hln] at hi'
      obtain ⟨b, off, hp, hb, hA, hcc⟩ := hc (lo + i) (by omega)
      refine ⟨b, off + lo * sz, ?_, hb, hA, fun j hj => ?_⟩
      · rcases hq with hq | hq
        · omega
        · rw [hq, hp, Option.map_some, add0]
      · have := hcc j hj
        rwa [Nat.add_mul, ← Nat.add_assoc] at this
    · rw [hln] at hi'
      rw [hget i hi'] at ha
      exact hr _ j a (by omega) ha
  rwa [hln] at hgoal

section
variable {P : Program} {E E' : Env} {σ σ' : List Res} {o : Oper} {T T' e : TypeId} {x y z : Operand} {av bv : AV} {v u : Value} {m n : Int} {b : Bool} {k k' : IntKind} {C : Cx} {X : List Nat}

theorem slice_run {w : World} {a : Option Addr} {len cap lo hi : Nat} {s : Nat} {L H : Option Value} (hT : P.underlying T = some (.slice e)) (hs : (P.info? e).map (·.size) = some s)
    (hb : (Instr.sliceBounds true len cap L H none).run P w = .ok (lo, hi, cap) w) : (Instr.slice T (.slice a len cap) L H none).run P w = .ok (.slice (if cap = lo then a else a.map (·.add (lo * s))) (hi - lo) (cap - lo)) w := by
  obtain ⟨j, hj, hj'⟩ := Option.map_eq_some_iff.1 hs
  simp [Instr.slice, run_underlying hT, hb, sizeOf, typeInfo, hj, hj']

theorem bounds_lohi {w : World} {len cap : Nat} (hh : 0 ≤ m ∧ m ≤ n ∧ n ≤ (len : Int)) (hc : len ≤ cap) : (Instr.sliceBounds true len cap (some (.int k m)) (some (.int k' n)) none).run P w = .ok (m.toNat, n.toNat, cap) w := by
  have h1 : 0 ≤ n ∧ n ≤ (cap : Int) := by omega
  have h2 : 0 ≤ m ∧ m ≤ ((n.toNat : Nat) : Int) := by omega
  simp [Instr.sliceBounds, Instr.sliceBound, asIntOf, h1]
  intro hc
  exfalso
  have := hc (by omega)
  omega
theorem bounds_hi {w : World} {len cap : Nat} (hh : 0 ≤ n ∧ n ≤ (len : Int)) (hc : len ≤ cap) : (Instr.sliceBounds true len cap none (some (.int k' n)) none).run P w = .ok (0, n.toNat, cap) w := by
  have h1 : 0 ≤ n ∧ n ≤ (cap : Int) := by omega
  simp [Instr.sliceBounds, Instr.sliceBound, asIntOf, h1]
theorem bounds_lo {w : World} {len cap : Nat} (hh : 0 ≤ m ∧ m ≤ (len : Int)) : (Instr.sliceBounds true len cap (some (.int k m)) none none).run P w = .ok (m.toNat, len, cap) w := by
  simp [Instr.sliceBounds, Instr.sliceBound, asIntOf, hh]

theorem slice_fin {A : Nat → Prop} {w : World} {ρ : Operand → Value} {α : Type} [Inhabited α] {sz : Nat} {c : α → List AV} {l : List α} {L H : Option Operand} {lo hi : Nat} (ho : o.op = .slice T x L H none) (hx : Rel A w (.sl sz c l) (ρ x)) (hT : P.underlying T = some (.slice e)) (hs : (P.info? e).map (·.size) = some sz) (h1 : lo ≤ hi) (h2 : hi ≤ l.length)
    (hb : ∀ cap, l.length ≤ cap → ∀ w', (Instr.sliceBounds true l.length cap (L.map ρ) (H.map ρ) none).run P w' = .ok (lo, hi, cap) w') : ∃ v, Rel A w (.sl sz c ((l.take hi).drop lo)) v ∧ ∀ w' : World, (execOp ρ o).run P w' = .ok (.value v) w' := by
  obtain ⟨p, cap, u, hv, hl, hcap, _⟩ := hx.slInv
  rw [hv] at hx
  refine ⟨.slice (if cap = lo then p else p.map (·.add (lo * sz))) (hi - lo) (cap - lo), hx.slTake h1 h2 (by omega) _ ?_, fun w' => ?_⟩
  · by_cases h : cap = lo
    · left; omega
    · right; rw [if_neg h]
  · have := slice_run (P := P) (T := T) (w := w') (a := p) (len := l.length) hT hs (hb cap hcap w')
    simp [execOp, ho, hv, Instr.sliceAt, run_underlying hT, this]

theorem Yp.slice2 {α : Type} [Inhabited α] {sz : Nat} {c : α → List AV} {l : List α} (ho : o.op = .slice T x (some y) (some z) none) (hx : E.ev x = some (.sl sz c l)) (hy : E.ev y = some (.n k m)) (hz : E.ev z = some (.n k' n)) (hT : P.underlying T = some (.slice e)) (hs : (P.info? e).map (·.size) = some sz)
    (hm : 0 ≤ m ∧ m ≤ n ∧ n ≤ (l.length : Int)) : Yp P E σ o (.sl sz c ((l.take n.toNat).drop m.toNat)) := fun A w ρ _ hρ => by
  obtain ⟨v, h1, h2⟩ := slice_fin (P := P) (lo := m.toNat) (hi := n.toNat) ho (hρ _ _ hx) hT hs (by omega) (by omega) (fun cap hc w' => by
    simp only [Option.map_some, (hρ _ _ hy).litEq, (hρ _ _ hz).litEq]
    exact bounds_lohi hm hc)
  exact ⟨v, h1, fun w' _ => h2 w'⟩
theorem Yp.sliceHi {α : Type} [Inhabited α] {sz : Nat} {c : α → List AV} {l : List α} (ho : o.op = .slice T x none (some z) none) (hx : E.ev x = some (.sl sz c l)) (hz : E.ev z = some (.n k' n)) (hT : P.underlying T = some (.slice e)) (hs : (P.info? e).map (·.size) = some sz)
    (hm : 0 ≤ n ∧ n ≤ (l.length : Int)) : Yp P E σ o (.sl sz c (l.take n.toNat)) := fun A w ρ _ hρ => by
  obtain ⟨v, h1, h2⟩ := slice_fin (P := P) (lo := 0) (hi := n.toNat) ho (hρ _ _ hx) hT hs (by omega) (by omega) (fun cap hc w' => by
    simp only [Option.map_some, Option.map_none, (hρ _ _ hz).litEq]
    exact bounds_hi hm hc)
  exact ⟨v, h1, fun w' _ => h2 w'⟩
theorem Yp.sliceLo {α : Type} [Inhabited α] {sz : Nat} {c : α → List AV} {l : List α} (ho : o.op = .slice T x (some y) none none) (hx : E.ev x = some (.sl sz c l)) (hy : E.ev y = some (.n k m)) (hT : P.underlying T = some (.slice e)) (hs : (P.info? e).map (·.size) = some sz)
    (hm : 0 ≤ m ∧ m ≤ (l.length : Int)) : Yp P E σ o (.sl sz c (l.drop m.toNat)) := fun A w ρ _ hρ => by
  obtain ⟨v, h1, h2⟩ := slice_fin (P := P) (lo := m.toNat) (hi := l.length) ho (hρ _ _ hx) hT hs (by omega) (by omega) (fun cap hc w' => by
    simp only [Option.map_some, Option.map_none, (hρ _ _ hy).litEq]
    exact bounds_lo hm)
  rw [List.take_length] at h1
  exact ⟨v, h1, fun w' _ => h2 w'⟩

/-- x[:0:0]: a slice without room -/
theorem Yv.slice00 {α β : Type} [Inhabited α] [Inhabited β] {sz sz' : Nat} {c : α → List AV} {l : List α} (c' : β → List AV) (ho : o.op = .slice T x none (some (.const (.int k 0))) (some (.const (.int k' 0)))) (hx : E.ev x = some (.sl sz c l) ∨ E.ev x = some (.lit (.slice none 0 0))) (hT : P.underlying T = some (.slice e)) (hs : (P.info? e).map (·.size) = some sz') :
    Yv P E σ o C [] (fun a σ' => ∃ v, a = .lit v ∧ σ' = .row v e sz' c' ([] : List β) :: σ) := fun w ρ hg hρ => by
  obtain ⟨j, hj, hj'⟩ := Option.map_eq_some_iff.1 hs
  obtain ⟨p, n, cap, hv⟩ : ∃ p n cap, ρ x = .slice p n cap := by
    rcases hx with hx | hx
    · obtain ⟨p, cap, u, hv, _⟩ := (hρ _ _ hx).slInv
      exact ⟨p, _, cap, hv⟩
    · exact ⟨none, 0, 0, (hρ _ _ hx).litEq⟩
  have h0 : ρ (.const (.int k 0)) = .int k 0 := (hρ (.const (.int k 0)) _ rfl).litEq
  have h0' : ρ (.const (.int k' 0)) = .int k' 0 := (hρ (.const (.int k' 0)) _ rfl).litEq
  refine ⟨.slice p 0 0, w, _, _, ⟨_, rfl, rfl⟩, tr_new hg (Kp.refl [] w) (.inl (by cases p <;> rfl)) ⟨[], ⟨by simp, .inl ⟨_, rfl, rfl⟩⟩, fun i hi => by simp at hi, fun i hi => by simp at hi⟩, ?_, .lit _⟩
  simp [execOp, ho, hv, h0, h0', Instr.sliceAt, Instr.slice, Instr.sliceBounds, Instr.sliceBound, run_underlying hT, sizeOf, typeInfo, hj, asIntOf]

/-! ### against nil -/

theorem Yp.eqNilL {p : Option Addr} {l c : Nat} (ho : o.op = .binOp .eql T x y T') (hx : E.ev x = some (.lit (.slice p l c))) (hy : E.ev y = some (.lit (.slice none 0 0))) (hT : P.underlying T = some (.slice e)) : Yp P E σ o (.b p.isNone) := Yp.lits fun ρ hρ w => by
  have := Lib.run_eql_slice_nil (P := P) w T e p l c 0 0 hT
  simp [execOp, ho, hρ _ _ hx, hρ _ _ hy, eqGuard, this]

/-- whether a slice that reads as0 l is nil is open where l is empty -/
def YpNil (P : Program) (E : Env) (σ : List Res) (o : Oper) (Q : Bool → Prop) : Prop := ∀ (A : Nat → Prop) (w : World) (ρ : Operand → Value), Hd A σ w → Ops A w E ρ → ∃ b, Q b ∧ (execOp ρ o).run P w = .ok (.value (.bool b)) w
theorem YpNil.sl {α : Type} [Inhabited α] {sz : Nat} {c : α → List AV} {l : List α} (ho : o.op = .binOp .eql T x y T') (hx : E.ev x = some (.sl sz c l)) (hy : E.ev y = some (.lit (.slice none 0 0))) (hT : P.underlying T = some (.slice e)) : YpNil P E σ o (fun b => b = true → l = []) := fun A w ρ _ hρ => by
  obtain ⟨p, cap, u, hv, hl, hcap, hz, hc, hr⟩ := (hρ _ _ hx).slInv
  have h1 := Lib.run_eql_slice_nil (P := P) w T e p l.length cap 0 0 hT
  have h2 := (hρ _ _ hy).litEq
  refine ⟨p.isNone, fun hn => ?_, by simp [execOp, ho, hv, h2, eqGuard, h1]⟩
  rcases Nat.eq_zero_or_pos l.length with h | h
  · exact List.eq_nil_of_length_eq_zero h
  · obtain ⟨b, off, hp, _⟩ := hc 0 h
    rw [hp] at hn
    cases hn

theorem RW.nil? {n : Nat} {ops : Array Oper} {K : Env → List Res → Prop} {rest : List Oper} {d : Nat} {Q : Bool → Prop} (hg : Wants E o ops = some true) (hd : o.dst = some d) (hn : Nat.blt d n = true) (hr : YpNil P E σ o Q) (next : ∀ b, Q b → RW P C n ops K rest ((d, .b b) :: E) σ) : RW P C n ops K (o :: rest) E σ := by
  intro a w ha
  refine wpList_step fun K' hK => ?_
  rw [if_pos (Wants.spec ha.slots hg)]
  unfold Oper.wp
  obtain ⟨b, h1, h2⟩ := hr _ w a.eval ha.good.hd ha.slots.ops
  rw [h2]
  show K' (a.put o.dst (.bool b)) w
  rw [hd]
  exact hK _ _ (next b h1 _ _ (ha.put hn (.lit _)))

/-! ### what is given up -/

/-- An empty slice without room begins to be the function's own. -/
theorem tr_own {w : World} {α : Type} [Inhabited α] (p : Option Addr) (T : TypeId) (sz : Nat) (c : α → List AV) (h : Good C σ w) : Tr C [] σ w (.row (.slice p 0 0) T sz c ([] : List α) :: σ) w :=
  tr_new h (Kp.refl [] w) (.inl (by cases p <;> rfl)) ⟨[], ⟨by simp, .inl ⟨_, rfl, rfl⟩⟩, fun i hi => by simp at hi, fun i hi => by simp at hi⟩
theorem RW.own {n : Nat} {ops : Array Oper} {K : Env → List Res → Prop} {rest : List Oper} {α : Type} [Inhabited α] (p : Option Addr) (T : TypeId) (sz : Nat) (c : α → List AV) (h : RW P C n ops K rest E (.row (.slice p 0 0) T sz c ([] : List α) :: σ)) : RW P C n ops K rest E σ := fun a w ha =>
  h a w (ha.tr (tr_own p T sz c ha.good))
theorem CW.own {n : Nat} {cd : Code} {Q : Exit → Env → List Res → Prop} {α : Type} [Inhabited α] (p : Option Addr) (T : TypeId) (sz : Nat) (c : α → List AV) (h : CW P C n cd Q E (.row (.slice p 0 0) T sz c ([] : List α) :: σ)) : CW P C n cd Q E σ := fun a w ha =>
  h a w (ha.tr (tr_own p T sz c ha.good))

/-- a', in place of a: own slices said as0 data -/
def Vw (σ : List Res) (a a' : AV) : Prop := ∀ (A : Nat → Prop) (w : World) (v : Value), Hd A σ w → Rel A w a v → Rel (fun b => A b ∨ b ∈ blks σ) w a' v
def VwL (σ : List Res) (as0 as' : List AV) : Prop := ∀ (A : Nat → Prop) (w : World) (us : List Value), Hd A σ w → RelL A w as0 us → RelL (fun b => A b ∨ b ∈ blks σ) w as' us
theorem Vw.id (a : AV) : Vw σ a a := fun A w v _ h => h.mono fun b _ hA => ⟨.inl hA, rfl⟩
theorem Vw.row {α : Type} [Inhabited α] {sz : Nat} {c : α → List AV} {l : List α} {t : TypeId} (i : Nat) (hσ : σ[i]? = some (.row v t sz c l)) : Vw σ (.lit v) (.sl sz c l) := fun A w u hd h => by
  have hu := h.litEq
  subst hu
  have hm := List.mem_of_getElem? hσ
  obtain ⟨us, h1, h2, h3⟩ := hd.1 _ hm
  have hlm : l.length ≤ 9223372036854775807 := by
    rcases h1.2 with ⟨_, _, h⟩ | ⟨_, _, _, _, _, q1, q2, _⟩
    · omega
    · unfold maxLen at q2; omega
  obtain ⟨p, cap, hv, hcap⟩ := h1.len
  by_cases h0 : l.length = 0
  · rw [hv]
    exact .sl sz c l p cap (fun _ _ => undef) hlm hcap (fun i hi => by omega) (fun i hi => by omega) (fun i j a hi => by omega)
  · obtain ⟨g, ck, cur, hv2, hgb, hB, _⟩ := h1.at (by omega)
    rw [hv2] at hv
    cases hv
    rw [hv2]
    refine .sl sz c l _ (ck + 1) (fun i j => (us[i * sz + j]?).getD undef) hlm hcap h2 (fun i hi => ⟨g, 0, rfl, hB.lt, .inr (mem_blks.2 ⟨_, hm, hgb⟩), fun j hj => ?_⟩) (fun i j a hi ha => ?_)
    · have hlt : i * sz + j < us.length := by
        have : i * sz + sz ≤ l.length * sz := by rw [← Nat.succ_mul]; exact Nat.mul_le_mul_right _ hi
        rw [h1.1]; omega
      rw [Nat.zero_add, List.getElem?_eq_getElem hlt]
      exact h1.cells hgb _ _ (List.getElem?_eq_getElem hlt)
    · obtain ⟨u, q1, q2⟩ := (h3 i hi).get ha
      rw [List.getElem?_take] at q1
      split at q1
      · rw [List.getElem?_drop] at q1
        rw [q1]
        exact q2.mono fun b _ hA => ⟨.inl hA, rfl⟩
      · cases q1
theorem Vw.nil {α : Type} [Inhabited α] (sz : Nat) (c : α → List AV) : Vw σ (.lit (.slice none 0 0)) (.sl sz c ([] : List α)) := fun A w u _ h => by
  have hu := h.litEq
  subst hu
  exact .sl sz c [] none 0 (fun _ _ => undef) (by simp) (by simp) (fun i hi => by cases hi) (fun i hi => by cases hi) (fun i j a hi => by cases hi)
theorem VwL.nil : VwL σ [] [] := fun A w us _ h => h.mono fun b _ hA => ⟨.inl hA, rfl⟩
theorem VwL.cons {as0 as' : List AV} {a a' : AV} (h : Vw σ a a') (hs : VwL σ as0 as') : VwL σ (a :: as0) (a' :: as') := fun A w us hd hr => by
  obtain ⟨v, us', rfl, h1, h2⟩ := hr.head
  exact RelL.cons (h A w v hd h1) (hs A w us' hd h2)
theorem VwL.id (as0 : List AV) : VwL σ as0 as0 := fun A w us _ h => h.mono fun b _ hA => ⟨.inl hA, rfl⟩
theorem Vw.agg {as0 as' : List AV} (h : VwL σ as0 as') : Vw σ (.agg as0) (.agg as') := fun A w v hd hr => by
  obtain ⟨us, rfl, h1⟩ := hr.aggInv
  exact Rel.aggL (h A w us hd h1)
theorem Vw.tup {as0 as' : List AV} (h : VwL σ as0 as') : Vw σ (.tup as0) (.tup as') := fun A w v hd hr => by
  obtain ⟨us, rfl, h1⟩ := hr.tupInv
  exact Rel.tupL (h A w us hd h1)

theorem blks_erase {r : Res} {i : Nat} (hσ : σ[i]? = some r) : List.Perm (blks σ) (blks (r :: σ.eraseIdx i)) := by
  obtain ⟨h1, _⟩ := set_split (r' := r) hσ
  have h2 : σ.eraseIdx i = σ.take i ++ σ.drop (i + 1) := List.eraseIdx_eq_take_drop_succ ..
  rw [h2]
  have hp : List.Perm (σ.take i ++ r :: σ.drop (i + 1)) (r :: (σ.take i ++ σ.drop (i + 1))) := List.perm_middle
  rw [← h1] at hp
  exact hp.filterMap _

theorem al_erase {r : Res} {i : Nat} {w : World} (hσ : σ[i]? = some r) (hg : Good C σ w) : ∀ b, (al C σ b ∨ b ∈ blks [r]) → al C (σ.eraseIdx i) b := fun b hb => by
  have hp := blks_erase hσ
  have hnd := hp.nodup_iff.1 hg.dis
  rcases hb with hb | hb
  · exact ⟨hb.1, fun hx => hb.2 (hp.mem_iff.2 (by rw [blks_cons]; exact List.mem_append_right _ hx))⟩
  · have hbs : b ∈ r.blk.toList := by rw [blks_cons] at hb; simpa [blks] using hb
    refine ⟨?_, fun hx => ?_⟩
    · rcases hg.own b (hp.mem_iff.2 (by rw [blks_cons]; exact List.mem_append_left _ hbs)) with h | h
      · exact .inr (.inl h)
      · exact .inr (.inr h)
    · rw [blks_cons] at hnd
      exact (List.nodup_append.1 hnd).2.2 b hbs b hx rfl

/-- An own slice becomes data: in slot t. -/
theorem Sim.frz {n : Nat} {a : Act} {w : World} {r : Res} {i t : Nat} (h : Sim C n E σ a w) (hσ : σ[i]? = some r) (ht : E.get t = some av) (hv : Vw [r] av bv) : Sim C n ((t, bv) :: E) (σ.eraseIdx i) a w := by
  have hal := al_erase hσ h.good
  have hp := blks_erase hσ
  have hmem : ∀ s ∈ σ.eraseIdx i, s ∈ σ := fun s hs => List.mem_of_mem_eraseIdx hs
  have hd : Hd (al C σ) [r] w := ⟨fun s hs => by rw [List.mem_singleton] at hs; rw [hs]; exact h.good.res r (List.mem_of_getElem? hσ), fun b hb hA => hA.2 (by
    obtain ⟨s, h1, h2⟩ := mem_blks.1 hb
    rw [List.mem_singleton] at h1
    rw [h1] at h2
    exact mem_blks.2 ⟨r, List.mem_of_getElem? hσ, h2⟩)⟩
  refine ⟨h.defers.step (fun b _ hA => ⟨hal b (.inl hA), rfl⟩), h.size, fun s u hs => ?_, ⟨h.good.kept, fun s hs => (h.good.res s (hmem s hs)).mono (fun b _ hA => ⟨hal b (.inl hA), rfl⟩) (fun _ _ => rfl), ?_, fun b hb => h.good.own b (hp.mem_iff.2 (by rw [blks_cons]; exact List.mem_append_right _ hb))⟩⟩
  · by_cases hts : t = s
    · subst hts
      rw [Env.get_hit] at hs
      cases hs
      obtain ⟨v, h1, h2⟩ := h.slots t av ht
      exact ⟨v, h1, (hv _ w v hd h2).mono fun b _ hb => ⟨hal b hb, rfl⟩⟩
    · rw [Env.get_miss _ _ hts] at hs
      obtain ⟨v, h1, h2⟩ := h.slots s u hs
      exact ⟨v, h1, h2.mono fun b _ hA => ⟨hal b (.inl hA), rfl⟩⟩
  · have := hp.nodup_iff.1 h.good.dis
    rw [blks_cons] at this
    exact (List.nodup_append.1 this).2.1
/-- An own slice becomes data: in cell k of box j (counted without it). -/
theorem Sim.frzB {n : Nat} {a : Act} {w : World} {r : Res} {i j g : Nat} {t : TypeId} {cs cs' : List AV} (h : Sim C n E σ a w) (hσ : σ[i]? = some r) (hj : (σ.eraseIdx i)[j]? = some (.box g t cs)) (hv : VwL [r] cs cs') : Sim C n E ((σ.eraseIdx i).set j (.box g t cs')) a w := by
  have hal := al_erase hσ h.good
  have hp := blks_erase hσ
  have hmem : ∀ s ∈ σ.eraseIdx i, s ∈ σ := fun s hs => List.mem_of_mem_eraseIdx hs
  have hd : Hd (al C σ) [r] w := ⟨fun s hs => by rw [List.mem_singleton] at hs; rw [hs]; exact h.good.res r (List.mem_of_getElem? hσ), fun b hb hA => hA.2 (by
    obtain ⟨s, h1, h2⟩ := mem_blks.1 hb
    rw [List.mem_singleton] at h1
    rw [h1] at h2
    exact mem_blks.2 ⟨r, List.mem_of_getElem? hσ, h2⟩)⟩
  have hbk := blks_set (r' := Res.box g t cs') hj rfl
  have hal' : ∀ b, (al C σ b ∨ b ∈ blks [r]) → al C ((σ.eraseIdx i).set j (.box g t cs')) b := fun b hb => ⟨(hal b hb).1, by rw [hbk]; exact (hal b hb).2⟩
  refine ⟨h.defers.step (fun b _ hA => ⟨hal' b (.inl hA), rfl⟩), h.size, fun s u hs => ?_, ⟨h.good.kept, fun s hs => ?_, ?_, fun b hb => h.good.own b (hp.mem_iff.2 (by rw [hbk] at hb; rw [blks_cons]; exact List.mem_append_right _ hb))⟩⟩
  · obtain ⟨v, h1, h2⟩ := h.slots s u hs
    exact ⟨v, h1, h2.mono fun b _ hA => ⟨hal' b (.inl hA), rfl⟩⟩
  · rcases List.mem_or_eq_of_mem_set hs with hs | rfl
    · exact (h.good.res s (hmem s hs)).mono (fun b _ hA => ⟨hal' b (.inl hA), rfl⟩) (fun _ _ => rfl)
    · obtain ⟨us, h1, h2⟩ := h.good.res _ (hmem _ (List.mem_of_getElem? hj))
      exact ⟨us, h1, (hv _ w us hd h2).mono fun b _ hb => ⟨hal' b hb, rfl⟩⟩
  · rw [hbk]
    have := hp.nodup_iff.1 h.good.dis
    rw [blks_cons] at this
    exact (List.nodup_append.1 this).2.1

theorem RW.frz {n : Nat} {ops : Array Oper} {K : Env → List Res → Prop} {rest : List Oper} {r : Res} (i t : Nat) (hσ : σ[i]? = some r) (ht : E.get t = some av) (hv : Vw [r] av bv) (h : RW P C n ops K rest ((t, bv) :: E) (σ.eraseIdx i)) : RW P C n ops K rest E σ := fun a w ha => h a w (ha.frz hσ ht hv)
theorem CW.frz {n : Nat} {cd : Code} {Q : Exit → Env → List Res → Prop} {r : Res} (i t : Nat) (hσ : σ[i]? = some r) (ht : E.get t = some av) (hv : Vw [r] av bv) (h : CW P C n cd Q ((t, bv) :: E) (σ.eraseIdx i)) : CW P C n cd Q E σ := fun a w ha => h a w (ha.frz hσ ht hv)
theorem RW.frzB {n : Nat} {ops : Array Oper} {K : Env → List Res → Prop} {rest : List Oper} {r : Res} {g : Nat} {t : TypeId} {cs cs' : List AV} (i j : Nat) (hσ : σ[i]? = some r) (hj : (σ.eraseIdx i)[j]? = some (.box g t cs)) (hv : VwL [r] cs cs') (h : RW P C n ops K rest E ((σ.eraseIdx i).set j (.box g t cs'))) : RW P C n ops K rest E σ := fun a w ha => h a w (ha.frzB hσ hj hv)
theorem CW.frzB {n : Nat} {cd : Code} {Q : Exit → Env → List Res → Prop} {r : Res} {g : Nat} {t : TypeId} {cs cs' : List AV} (i j : Nat) (hσ : σ[i]? = some r) (hj : (σ.eraseIdx i)[j]? = some (.box g t cs)) (hv : VwL [r] cs cs') (h : CW P C n cd Q E ((σ.eraseIdx i).set j (.box g t cs'))) : CW P C n cd Q E σ := fun a w ha => h a w (ha.frzB hσ hj hv)
/-- a slot said otherwise -/
theorem Sim.say {n : Nat} {a : Act} {w : World} {t : Nat} (h : Sim C n E σ a w) (ht : E.get t = some av) (hv : Vw [] av bv) : Sim C n ((t, bv) :: E) σ a w :=
  ⟨h.defers, h.size, fun s u hs => by
    by_cases hts : t = s
    · subst hts
      rw [Env.get_hit] at hs
      cases hs
      obtain ⟨v, h1, h2⟩ := h.slots t av ht
      exact ⟨v, h1, (hv _ w v (show Hd _ [] w from ⟨fun r hr => absurd hr (by simp), fun b hb => absurd hb (by simp [blks])⟩) h2).mono fun b _ hb => ⟨hb.elim (fun x => x) (fun hx => absurd hx (by simp [blks])), rfl⟩⟩
    · rw [Env.get_miss _ _ hts] at hs
      exact h.slots s u hs, h.good⟩
theorem RW.say {n : Nat} {ops : Array Oper} {K : Env → List Res → Prop} {rest : List Oper} (t : Nat) (ht : E.get t = some av) (hv : Vw [] av bv) (h : RW P C n ops K rest ((t, bv) :: E) σ) : RW P C n ops K rest E σ := fun a w ha => h a w (ha.say ht hv)
theorem CW.say {n : Nat} {cd : Code} {Q : Exit → Env → List Res → Prop} (t : Nat) (ht : E.get t = some av) (hv : Vw [] av bv) (h : CW P C n cd Q ((t, bv) :: E) σ) : CW P C n cd Q E σ := fun a w ha => h a w (ha.say ht hv)
end

/-! ### functions -/

/-- Function f, called with args and owning σ: what it returns and owns then is of Φ. -/
def Fn (P : Program) (f : FuncId) (args : List AV) (σ : List Res) (Φ : AV → List Res → Prop) : Prop :=
  ∀ (w : World) (A : Nat → Prop) (vs : List Value), RelL A w args vs → Hd A σ w → (blks σ).Nodup →
    Calls P f vs.toArray w fun e w' => ∃ v av σ', e = .returned v ∧ Φ av σ' ∧ Tr ⟨w, A, blks σ⟩ (blks σ) σ w σ' w' ∧ Rel (al ⟨w, A, blks σ⟩ σ') w' av v

theorem Fn.mono {P : Program} {f : FuncId} {args : List AV} {σ : List Res} {Φ Ψ : AV → List Res → Prop} (h : Fn P f args σ Φ) (hp : ∀ a s, Φ a s → Ψ a s) : Fn P f args σ Ψ := fun w A vs h1 h2 h3 =>
  (h w A vs h1 h2 h3).mono fun _ _ ⟨v, av, σ', q1, q2, q3⟩ => ⟨v, av, σ', q1, hp _ _ q2, q3⟩

def argsEnv : Nat → List AV → Env
  | _, [] => []
  | i, v :: l => (i, v) :: argsEnv (i + 1) l

theorem argsEnv_get : ∀ (l : List AV) (i t : Nat) (v : AV), Env.get (argsEnv i l) t = some v → i ≤ t ∧ l[t - i]? = some v
  | [], _, _, _, h => by cases h
  | u :: l, i, t, v, h => by
    by_cases hit : i = t
    · subst hit
      rw [argsEnv, Env.get_hit] at h
      cases h
      simp
    · rw [argsEnv, Env.get_miss _ _ hit] at h
      obtain ⟨h1, h2⟩ := argsEnv_get l (i + 1) t v h
      refine ⟨by omega, ?_⟩
      rw [show t - i = (t - (i + 1)) + 1 from by omega]
      simpa using h2

/-- What a function comes to at its end. -/
def FinQ (P : Program) (C : Cx) (n : Nat) (fn : Func) (Φ : AV → List Res → Prop) : Exit → Env → List Res → Prop := fun e E σ =>
  (e = .normal ∨ e = .ret) ∧ ∀ a w, Sim C n E σ a w → ∃ v av σ', Φ av σ' ∧ (results fn a.tmps).run P w = .ok v w ∧ Good C σ' w ∧ (∀ b, al C σ b → al C σ' b) ∧ Rel (al C σ') w av v

/-- What is cells lies as0 it lay. -/
structure Tn (C : Cx) (w w' : World) : Prop where
  os : w'.os = w.os
  tape : w'.tape = w.tape
  output : w'.output = w.output
  size : w.heap.size ≤ w'.heap.size
  old : ∀ k, k < C.w0.heap.size → w'.heap[k]? = w.heap[k]?
  same : ∀ (b : Nat) cs T m, w.heap[b]? = some (Obj.cells cs T m) → w'.heap[b]? = w.heap[b]?

theorem Rel.turn {C : Cx} {A : Nat → Prop} {w w' : World} {av : AV} {v : Value} (h : Rel A w av v) (ht : Tn C w w') : Rel A w' av v := by
  have hcell : ∀ b i u, w.cell? ⟨b, i, none⟩ = some u → w'.cell? ⟨b, i, none⟩ = some u := fun b i u hc => by
    rw [← hc]
    cases hb : w.heap[b]? with
    | none => simp [World.cell?, hb] at hc
    | some o =>
      cases o with
      | cells cs T m => exact World.cell?_of_block (ht.same b cs T m hb)
      | _ => simp [World.cell?, hb] at hc
  induction h with
  | lit v => exact .lit v
  | sl sz c l p cap u hl hcap hz hc hr ih =>
    refine .sl sz c l p cap u hl hcap hz (fun i hi => ?_) ih
    obtain ⟨b, off, h1, h2, h3, h4⟩ := hc i hi
    exact ⟨b, off, h1, Nat.lt_of_lt_of_le h2 ht.size, h3, fun j hj => hcell _ _ _ (h4 j hj)⟩
  | fp cs b o us hb hA hl hc hr ih => exact .fp cs b o us (Nat.lt_of_lt_of_le hb ht.size) hA hl (fun j v hj => hcell _ _ _ (hc j v hj)) ih
  | rp v k g h => exact .rp v k g h
  | agg cs us hl hr ih => exact .agg cs us hl ih
  | tup cs us hl hr ih => exact .tup cs us hl ih
  | fn f cs us hl hr ih => exact .fn f cs us hl ih

theorem Res.ok.turn {C : Cx} {A : Nat → Prop} {w w' : World} {r : Res} (h : r.ok A w) (ht : Tn C w w') : r.ok A w' := by
  cases r with
  | box b T cs =>
    obtain ⟨us, h1, h2⟩ := h
    exact ⟨us, (ht.same _ _ _ _ h1).trans h1, h2.1, fun j a v q1 q2 => (h2.2 j a v q1 q2).turn ht⟩
  | row v T sz c l =>
    obtain ⟨us, h1, h2, h3⟩ := h
    refine ⟨us, ⟨h1.1, ?_⟩, h2, fun i hi => ⟨(h3 i hi).1, fun j a v q1 q2 => ((h3 i hi).2 j a v q1 q2).turn ht⟩⟩
    rcases h1.2 with q | ⟨g, cap, cur, rfl, q1, q2⟩
    · exact .inl q
    · exact .inr ⟨g, cap, cur, rfl, (ht.same _ _ _ _ q1).trans q1, q2⟩

/-- the blocks of what is owned are cells -/
theorem Res.ok.cells {A : Nat → Prop} {w : World} {r : Res} (h : r.ok A w) {b : Nat} (hb : r.blk = some b) : ∃ cs T m, w.heap[b]? = some (Obj.cells cs T m) := by
  cases r with
  | box b' T cs => obtain ⟨us, h1, _⟩ := h; cases hb; exact ⟨_, _, _, h1⟩
  | row v T sz c l =>
    obtain ⟨us, h1, _⟩ := h
    rcases h1.2 with ⟨p, rfl, _⟩ | ⟨g, cap, cur, rfl, q1, _⟩
    · cases p <;> cases hb
    · cases hb; exact ⟨_, _, _, q1⟩

theorem Good.turn {C : Cx} {σ : List Res} {w w' : World} (h : Good C σ w) (ht : Tn C w w') : Good C σ w' :=
  ⟨⟨ht.os.trans h.kept.os, ht.tape.trans h.kept.tape, ht.output.trans h.kept.output, Nat.le_trans h.kept.size ht.size, fun k hk hX => (ht.old k hk).trans (h.kept.block k hk hX)⟩,
    fun r hr => (h.res r hr).turn ht, h.dis, h.own⟩

theorem Tn.putObj {C : Cx} {w : World} {D : Nat} {o : Obj} (o' : Obj) (hw : C.w0.heap.size ≤ D) (hD : w.heap[D]? = some o) (ho : o.isCells = false) : Tn C w (w.putObj D o') :=
  ⟨rfl, rfl, rfl, by simp [World.putObj], fun k hk => World.putObj_heap_other (by omega), fun b cs T m hx => World.putObj_heap_other fun e => by
    subst e
    rw [hD] at hx
    cases hx
    cases ho⟩

theorem Slots.turn {C : Cx} {A : Nat → Prop} {w w' : World} {E : Env} {tmps : Array Value} (h : Slots A w E tmps) (ht : Tn C w w') : Slots A w' E tmps := fun t av q => let ⟨v, h1, h2⟩ := h t av q; ⟨v, h1, h2.turn ht⟩

theorem Fn.of {P : Program} {f : FuncId} {fn : Func} {c : Code} {n : Nat} {args : List AV} {σ : List Res} {Φ : AV → List Res → Prop} (hf : P.funcs[f]? = some fn) (hb : fn.body = some c) (hn : fn.ntmps = n) (hl : Nat.ble args.length n = true)
    (h : ∀ C, CW P C n c (FinQ P C n fn Φ) (argsEnv 0 args) σ) : Fn P f args σ Φ := fun w A vs hr hd hnd => by
  have hl' : args.length ≤ n := by simpa using hl
  have hvl := hr.1
  have hal : ∀ b, b < w.heap.size → A b → al ⟨w, A, blks σ⟩ σ b := fun b _ hA => ⟨.inl hA, fun hx => hd.2 b hx hA⟩
  have hgood : Good ⟨w, A, blks σ⟩ σ w := ⟨Kp.refl _ _, fun r hr => (hd.1 r hr).mono (fun b hb hA => ⟨hal b hb hA, rfl⟩) (fun _ _ => rfl), hnd, fun b hb => .inl hb⟩
  refine callsIn_wide.1 (callsIn_of_wp_marks (n := 0) hf hb trivial (wpIn_wide.2 (wp_mono (h ⟨w, A, blks σ⟩ _ w ⟨.nil rfl, ?_, fun t v ht => ?_, hgood⟩) ?_)))
  · simp [hn, hvl]; omega
  · obtain ⟨_, h2⟩ := argsEnv_get args 0 t v ht
    rw [Nat.sub_zero] at h2
    obtain ⟨u, h3, h4⟩ := hr.get h2
    have hlt : t < vs.length := (List.getElem?_eq_some_iff.1 h3).1
    refine ⟨u, ?_, h4.mono fun b hb hA => ⟨hal b hb hA, rfl⟩⟩
    rw [Array.getElem?_append_left (by simpa using hlt)]
    simpa using h3
  · rintro e a' w' ⟨E', σ', h1, he, h2⟩
    have fin : ∀ (w'' : World), Sim ⟨w, A, blks σ⟩ n E' σ' { a' with defers := [] } w'' → ∃ v, (results fn a'.tmps).run P w'' = .ok v w'' ∧ ∃ v' av σ'', Ending.returned v = .returned v' ∧ Φ av σ'' ∧ Tr ⟨w, A, blks σ⟩ (blks σ) σ w σ'' w'' ∧ Rel (al ⟨w, A, blks σ⟩ σ'') w'' av v' := fun w'' hs => by
      obtain ⟨v, av, σ'', h3, h4, h5, h6, h7⟩ := h2 _ w'' hs
      have hex : Tr ⟨w, A, blks σ⟩ (blks σ) σ w σ'' w'' := ⟨h5, h5.kept, fun b hb hA => ⟨⟨hA.1, fun hx => by
        rcases h5.own b hx with h | h
        · exact hA.2 h
        · exact absurd hb (by have : w.heap.size ≤ b := h; omega)⟩, hA.2⟩⟩
      exact ⟨v, h4, v, av, σ'', rfl, h3, hex, h7⟩
    have lv : LeavesInM Fence.wide 0 P fn a'.tmps (fun e w' => ∃ v av σ', e = .returned v ∧ Φ av σ' ∧ Tr ⟨w, A, blks σ⟩ (blks σ) σ w σ' w' ∧ Rel (al ⟨w, A, blks σ⟩ σ') w' av v) a'.defers .returning w' := by
      obtain ⟨Ds, hd1, hd2, hd3⟩ := h1.defers
      rw [hd1]
      have hsl := h1.slots
      have hgd := h1.good
      have hsz := h1.size
      clear hd1 h1
      induction Ds generalizing w' with
      | nil => exact fin w' ⟨.nil rfl, hsz, hsl, hgd⟩
      | cons D Ds ih =>
        obtain ⟨q1, q2, q3, q4⟩ := hd3 D List.mem_cons_self
        rw [List.nodup_cons] at hd2
        refine ⟨by simp, .inl ⟨D, _, rfl, run_takeDeferred q4, ?_⟩⟩
        have ht : Tn ⟨w, A, blks σ⟩ w' (w'.putObj D (.deferred none)) := .putObj _ q2 q4 rfl
        refine ih _ hd2.2 (fun D' hD' => ?_) (hsl.turn ht) (hgd.turn ht)
        obtain ⟨p1, p2, p3, p4⟩ := hd3 D' (List.mem_cons_of_mem _ hD')
        have hne : D' ≠ D := fun e => hd2.1 (e ▸ hD')
        exact ⟨Nat.lt_of_lt_of_le p1 ht.size, p2, p3, (World.putObj_heap_other hne).trans p4⟩
    rcases he with rfl | rfl
    · exact lv
    · exact lv

def resOne (tmps : Array Value) : ResultVar → Sem Value
  | .tmp t => pure (tmps.getD t undef)
  | .cell a t => do loadVar t (← asAddr (tmps.getD a undef))

/-- One of the results. -/
def ResIs (P : Program) (E : Env) (σ : List Res) (rv : ResultVar) (av : AV) : Prop := ∀ (A : Nat → Prop) (w : World) (tmps : Array Value), Hd A σ w → Slots A w E tmps → ∃ v, (resOne tmps rv).run P w = .ok v w ∧ Rel A w av v
section
variable {P : Program} {C : Cx} {n : Nat} {fn : Func} {E : Env} {σ σ' : List Res} {t u : Nat} {av : AV} {e : Exit} {Φ : AV → List Res → Prop}
theorem ResIs.tmp (h : E.get t = some av) : ResIs P E σ (.tmp t) av := fun A w tmps _ hs => by
  obtain ⟨v, h1, h2⟩ := hs t av h
  exact ⟨v, by simp [resOne, h1], h2⟩
theorem ResIs.cell1 {g : Nat} {ty T : TypeId} {cs : List AV} (i : Nat) (h : E.get t = some (.lit (.pointer (some ⟨g, 0, none⟩)))) (hσ : σ[i]? = some (.box g T cs)) (hT : isOne P ty) (ha : cs[0]? = some av) : ResIs P E σ (.cell t ty) av := fun A w tmps hd hs => by
  obtain ⟨v, h1, h2⟩ := hs t _ h
  have h2 := h2.litEq
  subst h2
  obtain ⟨us, h3, h4⟩ := hd.1 _ (List.mem_of_getElem? hσ)
  obtain ⟨v, h5, h6⟩ := h4.get ha
  exact ⟨v, by simp [resOne, h1, asAddr, run_loadVar_one hT (h3.cell (by simpa using h5))], h6⟩
theorem ResIs.cellN {g k : Nat} {ty T : TypeId} {cs : List AV} (i : Nat) (h : E.get t = some (.lit (.pointer (some ⟨g, 0, none⟩)))) (hσ : σ[i]? = some (.box g T cs)) (hT : isMany P ty k) (hk : cs.length = k) : ResIs P E σ (.cell t ty) (.agg cs) := fun A w tmps hd hs => by
  obtain ⟨v, h1, h2⟩ := hs t _ h
  have h2 := h2.litEq
  subst h2
  obtain ⟨us, h3, h4⟩ := hd.1 _ (List.mem_of_getElem? hσ)
  refine ⟨_, ?_, Rel.aggL h4⟩
  have := run_loadVar_many (P := P) (T := ty) (w := w) (a := ⟨g, 0, none⟩) (cs := us) (by rw [h4.1, hk]; exact hT) (fun j u hj => by rw [add0, Nat.zero_add]; exact h3.cell (by simpa using hj))
  simp [resOne, h1, asAddr, this]

theorem fin_of (he : e = .normal ∨ e = .ret) (hs : List.Sublist σ' σ) (hΦ : Φ av σ') (h : ∀ A w tmps, Hd A σ w → Slots A w E tmps → ∃ v, (results fn tmps).run P w = .ok v w ∧ Rel A w av v) : FinQ P C n fn Φ e E σ :=
  ⟨he, fun a w ha => by
    obtain ⟨v, h1, h2⟩ := h _ w a.tmps ha.good.hd ha.slots
    have hl := ha.less hs
    have hal : ∀ b, al C σ b → al C σ' b := fun b hb => ⟨hb.1, fun hx => hb.2 (blks_sub (fun r hr => hs.subset hr) b hx)⟩
    exact ⟨v, av, σ', hΦ, h1, hl.good, hal, h2.mono fun b _ hA => ⟨hal b hA, rfl⟩⟩⟩
theorem fin0 (he : e = .normal ∨ e = .ret) (hr : fn.results = #[]) (hs : List.Sublist σ' σ) (hΦ : Φ (.tup []) σ') : FinQ P C n fn Φ e E σ :=
  fin_of he hs hΦ fun A w tmps _ _ => ⟨_, results_none hr _ P w, Rel.tupL RelL.nil⟩
theorem fin1 {r1 : ResultVar} (he : e = .normal ∨ e = .ret) (hr : fn.results = #[r1]) (h1 : ResIs P E σ r1 av) (hs : List.Sublist σ' σ) (hΦ : Φ av σ') : FinQ P C n fn Φ e E σ :=
  fin_of he hs hΦ fun A w tmps hd hl => by
    obtain ⟨v, q1, q2⟩ := h1 A w tmps hd hl
    refine ⟨v, ?_, q2⟩
    show (do let vs ← fn.results.mapM (resOne tmps); pure (if h : vs.size = 1 then vs[0] else .tuple vs) : Sem Value).run P w = _
    simp [hr, q1]
theorem fin2 {r1 r2 : ResultVar} {a1 a2 : AV} (he : e = .normal ∨ e = .ret) (hr : fn.results = #[r1, r2]) (h1 : ResIs P E σ r1 a1) (h2 : ResIs P E σ r2 a2) (hs : List.Sublist σ' σ) (hΦ : Φ (.tup [a1, a2]) σ') : FinQ P C n fn Φ e E σ :=
  fin_of he hs hΦ fun A w tmps hd hl => by
    obtain ⟨v1, q1, p1⟩ := h1 A w tmps hd hl
    obtain ⟨v2, q2, p2⟩ := h2 A w tmps hd hl
    refine ⟨.tuple #[v1, v2], ?_, Rel.tupL (RelL.cons p1 (RelL.cons p2 RelL.nil))⟩
    show (do let vs ← fn.results.mapM (resOne tmps); pure (if h : vs.size = 1 then vs[0] else .tuple vs) : Sem Value).run P w = _
    simp [hr, q1, q2]
theorem fin3 {r1 r2 r3 : ResultVar} {a1 a2 a3 : AV} (he : e = .normal ∨ e = .ret) (hr : fn.results = #[r1, r2, r3]) (h1 : ResIs P E σ r1 a1) (h2 : ResIs P E σ r2 a2) (h3 : ResIs P E σ r3 a3) (hs : List.Sublist σ' σ) (hΦ : Φ (.tup [a1, a2, a3]) σ') : FinQ P C n fn Φ e E σ :=
  fin_of he hs hΦ fun A w tmps hd hl => by
    obtain ⟨v1, q1, p1⟩ := h1 A w tmps hd hl
    obtain ⟨v2, q2, p2⟩ := h2 A w tmps hd hl
    obtain ⟨v3, q3, p3⟩ := h3 A w tmps hd hl
    refine ⟨.tuple #[v1, v2, v3], ?_, Rel.tupL (RelL.cons p1 (RelL.cons p2 (RelL.cons p3 RelL.nil)))⟩
    show (do let vs ← fn.results.mapM (resOne tmps); pure (if h : vs.size = 1 then vs[0] else .tuple vs) : Sem Value).run P w = _
    simp [hr, q1, q2, q3]
theorem fin4 {r1 r2 r3 r4 : ResultVar} {a1 a2 a3 a4 : AV} (he : e = .normal ∨ e = .ret) (hr : fn.results = #[r1, r2, r3, r4]) (h1 : ResIs P E σ r1 a1) (h2 : ResIs P E σ r2 a2) (h3 : ResIs P E σ r3 a3) (h4 : ResIs P E σ r4 a4) (hs : List.Sublist σ' σ) (hΦ : Φ (.tup [a1, a2, a3, a4]) σ') : FinQ P C n fn Φ e E σ :=
  fin_of he hs hΦ fun A w tmps hd hl => by
    obtain ⟨v1, q1, p1⟩ := h1 A w tmps hd hl
    obtain ⟨v2, q2, p2⟩ := h2 A w tmps hd hl
    obtain ⟨v3, q3, p3⟩ := h3 A w tmps hd hl
    obtain ⟨v4, q4, p4⟩ := h4 A w tmps hd hl
    refine ⟨.tuple #[v1, v2, v3, v4], ?_, Rel.tupL (RelL.cons p1 (RelL.cons p2 (RelL.cons p3 (RelL.cons p4 RelL.nil))))⟩
    show (do let vs ← fn.results.mapM (resOne tmps); pure (if h : vs.size = 1 then vs[0] else .tuple vs) : Sem Value).run P w = _
    simp [hr, q1, q2, q3, q4]
end

/-! ### calls -/

/-- f is a function with a body -/
def fnOk (P : Program) (f : FuncId) : Prop := ∃ fn, P.funcs[f]? = some fn ∧ (fn.name == "runtime.NumGoroutine") = false ∧ fn.body.isNone = false

theorem run_callFunc_ok {P : Program} {f : FuncId} {w : World} (hf : fnOk P f) (args : Array Value) : (callFunc f args).run P w = .ok (.enter f args) w := by
  obtain ⟨fn, h1, h2, h3⟩ := hf
  have h2' : ¬ fn.name = "runtime.NumGoroutine" := by simpa using h2
  have h3' : ¬ fn.body = none := by
    intro h
    rw [h] at h3
    cases h3
  simp [callFunc, program, Sem.run, h1, h2', h3']

/-- no data in it -/
def Cl (a : AV) : Prop := ∀ A A' w v, Rel A w a v → Rel A' w a v
theorem Cl.lit (v : Value) : Cl (.lit v) := fun A A' w u h => by rw [h.litEq]; exact .lit v
def ClL (as0 : List AV) : Prop := ∀ A A' w us, RelL A w as0 us → RelL A' w as0 us
theorem ClL.nil : ClL [] := fun A A' w us h => by
  have : us = [] := List.eq_nil_of_length_eq_zero (by simpa using h.1)
  rw [this]; exact RelL.nil
theorem ClL.cons {a : AV} {as0 : List AV} (h : Cl a) (hs : ClL as0) : ClL (a :: as0) := fun A A' w us hr => by
  obtain ⟨v, us', rfl, h1, h2⟩ := hr.head
  exact RelL.cons (h A A' w v h1) (hs A A' w us' h2)
theorem Cl.agg {as0 : List AV} (h : ClL as0) : Cl (.agg as0) := fun A A' w v hr => by
  obtain ⟨us, rfl, h1⟩ := hr.aggInv
  exact Rel.aggL (h A A' w us h1)
theorem Cl.tup {as0 : List AV} (h : ClL as0) : Cl (.tup as0) := fun A A' w v hr => by
  obtain ⟨us, rfl, h1⟩ := hr.tupInv
  exact Rel.tupL (h A A' w us h1)
def ClR (r : Res) : Prop := ∀ A A' w, r.ok A w → r.ok A' w
theorem ClR.box {b : Nat} {T : TypeId} {cs : List AV} (h : ClL cs) : ClR (.box b T cs) := fun A A' w ⟨us, h1, h2⟩ => ⟨us, h1, h A A' w us h2⟩
theorem ClR.row {v : Value} {T : TypeId} {sz : Nat} {α : Type} [Inhabited α] {c : α → List AV} {l : List α} (h : ∀ x, ClL (c x)) : ClR (.row v T sz c l) := fun A A' w ⟨us, h1, h2, h3⟩ => ⟨us, h1, h2, fun i hi => h _ A A' w _ (h3 i hi)⟩

section
variable {P : Program} {C : Cx} {E : Env} {σ σp σr : List Res} {o : Oper} {x : Operand} {f : FuncId} {xs : Array Operand} {ts : Array TypeId} {as0 caps args : List AV} {Φ : AV → List Res → Prop}

theorem call_run {A : Nat → Prop} {w : World} {ρ : Operand → Value} (ho : o.op = .call { callee := .value x, args := xs, argTypes := ts }) (hx : E.ev x = some (.fn (.func f) caps)) (hf : fnOk P f) (he : E.evl xs.toList = some as0) (ha : as0 ++ caps = args) (hρ : Ops A w E ρ) : ∃ us : List Value, RelL A w args us ∧ (execOp ρ o).run P w = .ok (.enter f us.toArray) w := by
  obtain ⟨us, h1, h2⟩ := (hρ _ _ hx).fnInv
  have h3 := Env.evl_rel hρ he
  refine ⟨xs.toList.map ρ ++ us, ha ▸ h3.app h2, ?_⟩
  have h4 : xs.map ρ = (xs.toList.map ρ).toArray := by apply Array.ext'; simp
  simp [execOp, ho, resolve, h1, Deferred.ofValue, invoke, run_callFunc_ok hf, h4]

theorem blks_mem_app {σp σr : List Res} {b : Nat} : b ∈ blks (σp ++ σr) ↔ b ∈ blks σp ∨ b ∈ blks σr := by rw [blks_app, List.mem_append]

/-- after a call: from the callee's state to the caller's -/
theorem tr_call {w w' : World} {A : Nat → Prop} {σo : List Res} (hg : Good C (σp ++ σr) w) (hA : ∀ b, A b → b < w.heap.size → al C (σp ++ σr) b ∨ b ∈ blks σr) (ht : Tr ⟨w, A, blks σp⟩ (blks σp) σp w σo w')
    (hok : ∀ r ∈ σo, r.ok (al C (σo ++ σr)) w') : Tr C (blks σp) (σp ++ σr) w (σo ++ σr) w' := by
  have hlt : ∀ b ∈ blks (σp ++ σr), b < w.heap.size := fun b hb => by
    obtain ⟨s, h1, h2⟩ := mem_blks.1 hb
    exact (hg.res s h1).lt h2
  have hdis := hg.dis
  rw [blks_app] at hdis
  obtain ⟨d1, d2, d3⟩ := List.nodup_append.1 hdis
  have hown : ∀ b ∈ blks σo, b ∈ blks σp ∨ w.heap.size ≤ b := ht.good.own
  have hal : ∀ b, b < w.heap.size → al C (σp ++ σr) b → al C (σo ++ σr) b ∧ b ∉ blks σp := fun b hb hA => by
    have h2 : b ∉ blks σp ∧ b ∉ blks σr := by
      have := hA.2
      rw [blks_mem_app] at this
      exact ⟨fun h => this (.inl h), fun h => this (.inr h)⟩
    refine ⟨⟨hA.1, fun hx => ?_⟩, h2.1⟩
    rcases blks_mem_app.1 hx with h | h
    · rcases hown b h with h | h
      · exact h2.1 h
      · omega
    · exact h2.2 h
  refine ⟨⟨hg.kept.trans ht.kp (fun b hb hlt0 => ?_), fun r hr => ?_, ?_, fun b hb => ?_⟩, ht.kp, hal⟩
  · rcases hg.own b (blks_mem_app.2 (.inl hb)) with h | h
    · exact h
    · exact absurd hlt0 (by omega)
  · rcases List.mem_append.1 hr with h | h
    · exact hok r h
    · refine (hg.res r (List.mem_append_right _ h)).mono (fun b hb hA => ⟨(hal b hb hA).1, ht.kp.block b hb (hal b hb hA).2⟩) (fun b hb => ?_)
      have hbr : b ∈ blks σr := mem_blks.2 ⟨r, h, hb⟩
      exact ht.kp.block b (hlt b (blks_mem_app.2 (.inr hbr))) (fun hp => d3 b hp b hbr rfl)
  · rw [blks_app]
    refine List.nodup_append.2 ⟨ht.good.dis, d2, fun a ha b hb hab => ?_⟩
    subst hab
    rcases hown a ha with h | h
    · exact d3 a h a hb rfl
    · have := hlt a (blks_mem_app.2 (.inr hb)); omega
  · rcases blks_mem_app.1 hb with h | h
    · rcases hown b h with h | h
      · exact hg.own b (blks_mem_app.2 (.inl h))
      · exact .inr (Nat.le_trans hg.kept.size h)
    · exact hg.own b (blks_mem_app.2 (.inr h))

/-- A call; the first resources are handed over. -/
theorem Yc.fn (ho : o.op = .call { callee := .value x, args := xs, argTypes := ts }) (hx : E.ev x = some (.fn (.func f) caps)) (hf : fnOk P f) (he : E.evl xs.toList = some as0) (ha : as0 ++ caps = args) (hσ : σ = σp ++ σr) (h : Fn P f args σp Φ) :
    Yc P E σ o C (blks σp) (fun av σ' => ∃ σo, Φ av σo ∧ σ' = σo ++ σr) := fun w ρ hg hρ => by
  subst hσ
  obtain ⟨us, h1, h2⟩ := call_run ho hx hf he ha hρ
  have hlt : ∀ b ∈ blks (σp ++ σr), b < w.heap.size := fun b hb => by
    obtain ⟨s, h1, h2⟩ := mem_blks.1 hb
    exact (hg.res s h1).lt h2
  have hd : Hd (al C (σp ++ σr)) σp w := ⟨fun r hr => hg.res r (List.mem_append_left _ hr), fun b hb hA => hA.2 (blks_mem_app.2 (.inl hb))⟩
  have hnd : (blks σp).Nodup := by have := hg.dis; rw [blks_app] at this; exact (List.nodup_append.1 this).1
  refine ⟨f, us.toArray, h2, (h w (al C (σp ++ σr)) us h1 hd hnd).mono fun e w' ⟨v, av, σo, q1, q2, q3, q4⟩ => ?_⟩
  have hown : ∀ b ∈ blks σo, b ∈ blks σp ∨ w.heap.size ≤ b := q3.good.own
  have hsub : ∀ b, b < w'.heap.size → al ⟨w, al C (σp ++ σr), blks σp⟩ σo b → al C (σo ++ σr) b := fun b _ hb => by
    obtain ⟨hb1, hb2⟩ := hb
    rcases hb1 with hb1 | hb1 | hb1
    · exact ⟨hb1.1, fun hx => (blks_mem_app.1 hx).elim hb2 (fun h => hb1.2 (blks_mem_app.2 (.inr h)))⟩
    · have hbp : b ∈ blks σp := hb1
      refine ⟨?_, fun hx => (blks_mem_app.1 hx).elim hb2 (fun h => ?_)⟩
      · rcases hg.own b (blks_mem_app.2 (.inl hbp)) with h | h
        · exact .inr (.inl h)
        · exact .inr (.inr h)
      · have hdis := hg.dis
        rw [blks_app] at hdis
        exact (List.nodup_append.1 hdis).2.2 b hbp b h rfl
    · have hbw : w.heap.size ≤ b := hb1
      exact ⟨.inr (.inr (Nat.le_trans hg.kept.size hbw)), fun hx => (blks_mem_app.1 hx).elim hb2 (fun h => by have := hlt b (blks_mem_app.2 (.inr h)); omega)⟩
  exact ⟨v, av, σo ++ σr, q1, ⟨σo, q2, rfl⟩, tr_call hg (fun b hA _ => .inl hA) q3 (fun r hr => (q3.good.res r hr).mono (fun b hb hA => ⟨hsub b hb hA, rfl⟩) (fun _ _ => rfl)), q4.mono fun b hb hA => ⟨hsub b hb hA, rfl⟩⟩

/-- A call that is lent own slices as0 data: what it returns has no data in it. -/
theorem Yc.lend (args' : List AV) (ho : o.op = .call { callee := .value x, args := xs, argTypes := ts }) (hx : E.ev x = some (.fn (.func f) caps)) (hf : fnOk P f) (he : E.evl xs.toList = some as0) (ha : as0 ++ caps = args) (hσ : σ = σp ++ σr) (hv : VwL σr args args') (h : Fn P f args' σp Φ)
    (hc : ∀ av σo, Φ av σo → Cl av ∧ ∀ r ∈ σo, ClR r) : Yc P E σ o C (blks σp) (fun av σ' => ∃ σo, Φ av σo ∧ σ' = σo ++ σr) := fun w ρ hg hρ => by
  subst hσ
  obtain ⟨us, h1, h2⟩ := call_run ho hx hf he ha hρ
  have hdis := hg.dis
  rw [blks_app] at hdis
  obtain ⟨d1, d2, d3⟩ := List.nodup_append.1 hdis
  have hd0 : Hd (al C (σp ++ σr)) σr w := ⟨fun r hr => hg.res r (List.mem_append_right _ hr), fun b hb hA => hA.2 (blks_mem_app.2 (.inr hb))⟩
  have h3 := hv _ w us hd0 h1
  have hd : Hd (fun b => al C (σp ++ σr) b ∨ b ∈ blks σr) σp w := ⟨fun r hr => (hg.res r (List.mem_append_left _ hr)).mono (fun b _ hA => ⟨.inl hA, rfl⟩) (fun _ _ => rfl), fun b hb hA => hA.elim (fun h => h.2 (blks_mem_app.2 (.inl hb))) (fun h => d3 b hb b h rfl)⟩
  refine ⟨f, us.toArray, h2, (h w _ us h3 hd d1).mono fun e w' ⟨v, av, σo, q1, q2, q3, q4⟩ => ?_⟩
  obtain ⟨c1, c2⟩ := hc av σo q2
  exact ⟨v, av, σo ++ σr, q1, ⟨σo, q2, rfl⟩, tr_call hg (fun b hA _ => hA) q3 (fun r hr => c2 r hr _ _ w' (q3.good.res r hr)), c1 _ _ w' v q4⟩
end
end Go.Ab
namespace Go.Ab
open Go Go.RowKit
section
variable {P : Program} {E E' : Env} {σ σ' : List Res} {o : Oper} {x : Operand} {av bv : AV} {C : Cx} {X : List Nat} {n : Nat}

/-- the resources by number, each time of those that are left -/
def sel : List Res → List Nat → Option (List Res)
  | _, [] => some []
  | σ, i :: is => match σ[i]?, sel (σ.eraseIdx i) is with
    | some r, some rs => some (r :: rs)
    | _, _ => none
theorem sel_perm : ∀ (is : List Nat) (σ σ' : List Res), sel σ is = some σ' → ∃ τ, List.Perm σ (σ' ++ τ)
  | [], σ, σ', h => by cases h; exact ⟨σ, List.Perm.refl _⟩
  | i :: is, σ, σ', h => by
    unfold sel at h
    cases h1 : σ[i]? with
    | none => rw [h1] at h; cases h
    | some r =>
      cases h2 : sel (σ.eraseIdx i) is with
      | none => rw [h1, h2] at h; cases h
      | some rs =>
        rw [h1, h2] at h
        cases h
        obtain ⟨τ, ht⟩ := sel_perm is _ _ h2
        refine ⟨τ, ?_⟩
        obtain ⟨q1, _⟩ := set_split (r' := r) h1
        have h3 : σ.eraseIdx i = σ.take i ++ σ.drop (i + 1) := List.eraseIdx_eq_take_drop_succ ..
        have hp : List.Perm (σ.take i ++ r :: σ.drop (i + 1)) (r :: (σ.take i ++ σ.drop (i + 1))) := List.perm_middle
        rw [← q1, ← h3] at hp
        exact hp.trans (ht.cons r)
theorem Sim.sel {a : Act} {w : World} (is : List Nat) (h : Sim C n E σ a w) (hs : Ab.sel σ is = some σ') : Sim C n E σ' a w := by
  obtain ⟨τ, ht⟩ := sel_perm is σ σ' hs
  exact (h.perm ht).less (List.sublist_append_left _ _)
theorem RW.sel {ops : Array Oper} {K : Env → List Res → Prop} {rest : List Oper} (is : List Nat) (hs : Ab.sel σ is = some σ') (h : RW P C n ops K rest E σ') : RW P C n ops K rest E σ := fun a w ha => h a w (ha.sel is hs)
theorem CW.sel {cd : Code} {Q : Exit → Env → List Res → Prop} (is : List Nat) (hs : Ab.sel σ is = some σ') (h : CW P C n cd Q E σ') : CW P C n cd Q E σ := fun a w ha => h a w (ha.sel is hs)

theorem Vw.now {A : Nat → Prop} {w : World} {v : Value} (h : Vw [] av bv) (hr : Rel A w av v) : Rel A w bv v :=
  (h A w v (show Hd _ [] w from ⟨fun r hr => absurd hr (by simp), fun b hb => absurd hb (by simp [blks])⟩) hr).mono fun b _ hb => ⟨hb.elim (fun x => x) (fun hx => absurd hx (by simp [blks])), rfl⟩
theorem VwL.now {A : Nat → Prop} {w : World} {as0 bs : List AV} {us : List Value} (h : VwL [] as0 bs) (hr : RelL A w as0 us) : RelL A w bs us :=
  (h A w us (show Hd _ [] w from ⟨fun r hr => absurd hr (by simp), fun b hb => absurd hb (by simp [blks])⟩) hr).mono fun b _ hb => ⟨hb.elim (fun x => x) (fun hx => absurd hx (by simp [blks])), rfl⟩

/-- the cells of a box said otherwise -/
theorem Sim.sayB {a : Act} {w : World} {j g : Nat} {t : TypeId} {cs cs' : List AV} (h : Sim C n E σ a w) (hj : σ[j]? = some (.box g t cs)) (hv : VwL [] cs cs') : Sim C n E (σ.set j (.box g t cs')) a w := by
  have hbk := blks_set (r' := Res.box g t cs') hj rfl
  have hal : ∀ b, al C σ b → al C (σ.set j (.box g t cs')) b := fun b hb => ⟨hb.1, by rw [hbk]; exact hb.2⟩
  refine ⟨h.defers.step (fun b _ hA => ⟨hal b hA, rfl⟩), h.size, fun s u hs => let ⟨v, h1, h2⟩ := h.slots s u hs; ⟨v, h1, h2.mono fun b _ hA => ⟨hal b hA, rfl⟩⟩, ⟨h.good.kept, fun s hs => ?_, by rw [hbk]; exact h.good.dis, fun b hb => h.good.own b (by rwa [hbk] at hb)⟩⟩
  rcases List.mem_or_eq_of_mem_set hs with hs | rfl
  · exact (h.good.res s hs).mono (fun b _ hA => ⟨hal b hA, rfl⟩) (fun _ _ => rfl)
  · obtain ⟨us, h1, h2⟩ := h.good.res _ (List.mem_of_getElem? hj)
    exact ⟨us, h1, (hv.now h2).mono fun b _ hb => ⟨hal b hb, rfl⟩⟩
theorem RW.sayB {ops : Array Oper} {K : Env → List Res → Prop} {rest : List Oper} {g : Nat} {t : TypeId} {cs cs' : List AV} (j : Nat) (hj : σ[j]? = some (.box g t cs)) (hv : VwL [] cs cs') (h : RW P C n ops K rest E (σ.set j (.box g t cs'))) : RW P C n ops K rest E σ := fun a w ha => h a w (ha.sayB hj hv)
theorem CW.sayB {cd : Code} {Q : Exit → Env → List Res → Prop} {g : Nat} {t : TypeId} {cs cs' : List AV} (j : Nat) (hj : σ[j]? = some (.box g t cs)) (hv : VwL [] cs cs') (h : CW P C n cd Q E (σ.set j (.box g t cs'))) : CW P C n cd Q E σ := fun a w ha => h a w (ha.sayB hj hv)

/-- a slot's value, by an equation -/
theorem RW.eqv {ops : Array Oper} {K : Env → List Res → Prop} {rest : List Oper} (t : Nat) (ht : E.get t = some av) (he : av = bv) (h : RW P C n ops K rest ((t, bv) :: E) σ) : RW P C n ops K rest E σ := RW.say t ht (he ▸ Vw.id av) h
theorem CW.eqv {cd : Code} {Q : Exit → Env → List Res → Prop} (t : Nat) (ht : E.get t = some av) (he : av = bv) (h : CW P C n cd Q ((t, bv) :: E) σ) : CW P C n cd Q E σ := CW.say t ht (he ▸ Vw.id av) h
theorem Slots.eqv {A : Nat → Prop} {w : World} {tmps : Array Value} {t : Nat} (h : Slots A w E tmps) (ht : E.get t = some av) (he : av = bv) : Slots A w ((t, bv) :: E) tmps := fun s u hs => by
  by_cases hts : t = s
  · subst hts
    rw [Env.get_hit] at hs
    cases hs
    rw [← he]
    exact h t av ht
  · rw [Env.get_miss _ _ hts] at hs
    exact h s u hs
theorem RH.eqv {ops : Array Oper} {A1 : Nat → Prop} {w1 : World} {K : Env → List Res → Prop} {fuel : Nat} {listed : Array Bool} {Eb : Env} (t : Nat) (ht : E.get t = some av) (htb : Eb.get t = some av) (he : av = bv) (h : RH P C n ops X A1 w1 K fuel listed ((t, bv) :: Eb) ((t, bv) :: E) σ) : RH P C n ops X A1 w1 K fuel listed Eb E σ := fun a w ha hb hS hA =>
  h a w (ha.say ht (he ▸ Vw.id av)) (hb.eqv htb he) hS hA
theorem RH.eqv' {ops : Array Oper} {A1 : Nat → Prop} {w1 : World} {K : Env → List Res → Prop} {fuel : Nat} {listed : Array Bool} {Eb : Env} (t : Nat) (ht : E.get t = some av) (he : av = bv) (h : RH P C n ops X A1 w1 K fuel listed Eb ((t, bv) :: E) σ) : RH P C n ops X A1 w1 K fuel listed Eb E σ := fun a w ha hb hS hA =>
  h a w (ha.say ht (he ▸ Vw.id av)) hb hS hA

def LoopR (R : Nat → Env → List Res → Prop) (k : Nat) (Q : Exit → Env → List Res → Prop) : Exit → Env → List Res → Prop
  | .normal, E, σ => ∃ k', k' < k ∧ R k' E σ
  | e, E, σ => Q e E σ
theorem CW.lp {c : Code} {Q : Exit → Env → List Res → Prop} (R : Nat → Env → List Res → Prop) (k0 : Nat) (h0 : R k0 E σ) (h : ∀ k E σ, R k E σ → CW P C n c (LoopR R k Q) E σ) : CW P C n (.loop c) Q E σ :=
  CW.loop (α := PUnit) (fun _ => R) ⟨⟩ k0 h0 fun _ k E σ hr => CW.mono (h k E σ hr) fun e E σ hq => by
    cases e with
    | normal => obtain ⟨k', h1, h2⟩ := hq; exact ⟨⟨⟩, k', h1, h2⟩
    | _ => exact hq

theorem Yc.fnV {f : FuncId} {xs : Array Operand} {ts : Array TypeId} {as0 caps args args' : List AV} {σp σr : List Res} {Φ : AV → List Res → Prop} (ho : o.op = .call { callee := .value x, args := xs, argTypes := ts }) (hx : E.ev x = some (.fn (.func f) caps)) (hf : fnOk P f) (he : E.evl xs.toList = some as0) (ha : as0 ++ caps = args) (hσ : σ = σp ++ σr) (hv : VwL [] args args') (h : Fn P f args' σp Φ) :
    Yc P E σ o C (blks σp) (fun av σ' => ∃ σo, Φ av σo ∧ σ' = σo ++ σr) :=
  Yc.fn ho hx hf he ha hσ fun w A vs h1 => h w A vs (hv.now h1)
end

/-! ### models -/

theorem chk {α : Type} {c : Prop} [Decidable c] {a : Option α} {r : α} (h : (if c then a else none) = some r) : c ∧ a = some r := by
  split at h
  · exact ⟨by assumption, h⟩
  · cases h
theorem ift {α : Type} {b : Bool} {x y : Option α} {r : α} (h : (if b = true then x else y) = some r) (hb : b = true) : x = some r := by rwa [if_pos hb] at h
theorem iff' {α : Type} {b : Bool} {x y : Option α} {r : α} (h : (if b = true then x else y) = some r) (hb : b = false) : y = some r := by rwa [if_neg (by rw [hb]; exact Bool.false_ne_true)] at h
theorem bnd {α β : Type} {x : Option α} {f : α → Option β} {r : β} (h : x.bind f = some r) : ∃ a, x = some a ∧ f a = some r := Option.bind_eq_some_iff.1 h
abbrev cN (k : IntKind) (n : Int) : List AV := [.n k n]
abbrev cB (b : Bool) : List AV := [.b b]
abbrev cS (s : ByteArray) : List AV := [.s s]
abbrev cL {α : Type} [Inhabited α] (sz : Nat) (c : α → List AV) (l : List α) : List AV := [.sl sz c l]
abbrev cA {α : Type} [Inhabited α] (n : Nat) (c : α → List AV) (l : List α) : List AV := (List.range n).flatMap fun i => c l[i]!
instance : Inhabited ByteArray := ⟨.empty⟩
end Go.Ab
namespace Go.Ab
open Go Go.RowKit
section
variable {P : Program} {E E' : Env} {σ σ' : List Res} {o : Oper} {x : Operand} {av bv : AV} {C : Cx} {X : List Nat} {n : Nat}
theorem inX {τ : List Res} {r : Res} (i : Nat) (h : τ[i]? = some r) : ∀ b ∈ r.blk.toList, b ∈ blks τ := fun b hb => mem_blks.2 ⟨r, List.mem_of_getElem? h, by simpa using hb⟩
theorem CW.drawSel {Q : Exit → Env → List Res → Prop} {id : Nat} {l : List Oper} (N : Nat) (hN : l.toArray.size = N) (is : List Nat) (τ ρ : List Res) (hs : Ab.sel σ is = some (τ ++ ρ)) (hm : P.follows .mixedOrders = true)
    (h : ∀ A1 w1, Bs (blks τ) A1 w1 ρ → RH P C n l.toArray (blks τ) A1 w1 (fun E' σ' => Q .normal E' σ') N (Array.replicate N false) E E σ) : CW P C n (.region id l.toArray true) Q E σ := by
  obtain ⟨κ, hp⟩ := sel_perm is σ _ hs
  have hb : List.Perm (blks σ) (blks τ ++ blks ρ ++ blks κ) := by
    have := hp.filterMap Res.blk
    simpa [blks] using this
  refine CW.draw N hN (blks τ) ρ (fun b hb' => hb.mem_iff.2 (by simp [hb'])) (fun r hr => hp.mem_iff.2 (by simp [hr])) (fun hnd b hbr hbt => ?_) hm h
  have := hb.nodup_iff.1 hnd
  exact (List.nodup_append.1 (List.nodup_append.1 this).1).2.2 b hbt b hbr rfl
theorem Yp.conv {T T' : TypeId} {k k' : IntKind} {m : Int} (hT : P.underlying T = some (.int k)) (hT' : P.underlying T' = some (.int k')) (ho : o.op = .convert T T' x) (hx : E.ev x = some (.n k m)) : Yp P E σ o (.n k' (k'.wrap m)) := Yp.lits fun ρ hρ w => by
  simp [execOp, ho, hρ _ _ hx, convert, run_underlying hT, run_underlying hT', Conv.intToInt]
theorem RH.sel {ops : Array Oper} {A1 : Nat → Prop} {w1 : World} {K : Env → List Res → Prop} {fuel : Nat} {listed : Array Bool} {Eb : Env} (is : List Nat) (hs : Ab.sel σ is = some σ') (h : RH P C n ops X A1 w1 K fuel listed Eb E σ') : RH P C n ops X A1 w1 K fuel listed Eb E σ := fun a w ha hb hS hA => by
  obtain ⟨κ, hp⟩ := sel_perm is σ _ hs
  exact h a w (ha.sel is hs) hb hS fun b hb hc => ⟨(hA b hb hc).1, fun hx => (hA b hb hc).2 (by
    have := (hp.filterMap Res.blk).mem_iff (a := b)
    exact this.2 (by simpa [blks] using Or.inl (by simpa [blks] using hx)))⟩
theorem RH.say {ops : Array Oper} {A1 : Nat → Prop} {w1 : World} {K : Env → List Res → Prop} {fuel : Nat} {listed : Array Bool} {Eb : Env} (t : Nat) (ht : E.get t = some av) (hv : Vw [] av bv) (h : RH P C n ops X A1 w1 K fuel listed Eb ((t, bv) :: E) σ) : RH P C n ops X A1 w1 K fuel listed Eb E σ := fun a w ha hb hS hA =>
  h a w (ha.say ht hv) hb hS hA
end
end Go.Ab
end
section
set_option linter.unusedSectionVars false
set_option linter.unusedVariables false
set_option linter.unusedSimpArgs false
namespace Go.Ab
open Go Go.RowKit
section
variable {P : Program} {E E' : Env} {σ σ' : List Res} {o : Oper} {x y : Operand} {av bv : AV} {C : Cx} {X : List Nat} {n : Nat} {T T' e : TypeId}
section
variable {ops : Array Oper} {A1 : Nat → Prop} {w1 : World} {K : Env → List Res → Prop} {fuel : Nat} {listed : Array Bool} {Eb : Env} {i0 : Nat}
theorem RO.frz {r : Res} (i t : Nat) (hσ : σ[i]? = some r) (ht : E.get t = some av) (hv : Vw [r] av bv) (h : RO P C n ops X A1 w1 K fuel listed i0 Eb ((t, bv) :: E) (σ.eraseIdx i)) : RO P C n ops X A1 w1 K fuel listed i0 Eb E σ := fun a w ha hb hS hA =>
  h a w (ha.frz hσ ht hv) hb hS fun b hb hc => al_erase hσ ha.good b (.inl (hA b hb hc))
theorem RH.frz {r : Res} (i t : Nat) (hσ : σ[i]? = some r) (ht : E.get t = some av) (hv : Vw [r] av bv) (h : RH P C n ops X A1 w1 K fuel listed Eb ((t, bv) :: E) (σ.eraseIdx i)) : RH P C n ops X A1 w1 K fuel listed Eb E σ := fun a w ha hb hS hA =>
  h a w (ha.frz hσ ht hv) hb hS fun b hb hc => al_erase hσ ha.good b (.inl (hA b hb hc))
theorem RO.say (t : Nat) (ht : E.get t = some av) (hv : Vw [] av bv) (h : RO P C n ops X A1 w1 K fuel listed i0 Eb ((t, bv) :: E) σ) : RO P C n ops X A1 w1 K fuel listed i0 Eb E σ := fun a w ha hb hS hA =>
  h a w (ha.say ht hv) hb hS hA
theorem al_own {α : Type} [Inhabited α] (p : Option Addr) (T : TypeId) (sz : Nat) (c : α → List AV) : ∀ b, al C σ b → al C (.row (.slice p 0 0) T sz c ([] : List α) :: σ) b := fun b hb => ⟨hb.1, fun hx => hb.2 (by
  rw [blks_cons] at hx
  have : Res.blk (.row (.slice p 0 0) T sz c ([] : List α)) = none := by cases p <;> rfl
  rw [this] at hx
  simpa using hx)⟩
theorem RO.own {α : Type} [Inhabited α] (p : Option Addr) (T : TypeId) (sz : Nat) (c : α → List AV) (h : RO P C n ops X A1 w1 K fuel listed i0 Eb E (.row (.slice p 0 0) T sz c ([] : List α) :: σ)) : RO P C n ops X A1 w1 K fuel listed i0 Eb E σ := fun a w ha hb hS hA =>
  h a w (ha.tr (tr_own p T sz c ha.good)) hb hS fun b hb hc => al_own p T sz c b (hA b hb hc)
theorem RH.own {α : Type} [Inhabited α] (p : Option Addr) (T : TypeId) (sz : Nat) (c : α → List AV) (h : RH P C n ops X A1 w1 K fuel listed Eb E (.row (.slice p 0 0) T sz c ([] : List α) :: σ)) : RH P C n ops X A1 w1 K fuel listed Eb E σ := fun a w ha hb hS hA =>
  h a w (ha.tr (tr_own p T sz c ha.good)) hb hS fun b hb hc => al_own p T sz c b (hA b hb hc)
theorem RO.sel (is : List Nat) (hs : Ab.sel σ is = some σ') (h : RO P C n ops X A1 w1 K fuel listed i0 Eb E σ') : RO P C n ops X A1 w1 K fuel listed i0 Eb E σ := fun a w ha hb hS hA => by
  obtain ⟨κ, hp⟩ := sel_perm is σ _ hs
  exact h a w (ha.sel is hs) hb hS fun b hb hc => ⟨(hA b hb hc).1, fun hx => (hA b hb hc).2 (by
    have := (hp.filterMap Res.blk).mem_iff (a := b)
    exact this.2 (by simpa [blks] using Or.inl (by simpa [blks] using hx)))⟩
theorem RH.frzB {r : Res} {g : Nat} {t : TypeId} {cs cs' : List AV} (i j : Nat) (hσ : σ[i]? = some r) (hj : (σ.eraseIdx i)[j]? = some (.box g t cs)) (hv : VwL [r] cs cs') (h : RH P C n ops X A1 w1 K fuel listed Eb E ((σ.eraseIdx i).set j (.box g t cs'))) : RH P C n ops X A1 w1 K fuel listed Eb E σ := fun a w ha hb hS hA =>
  h a w (ha.frzB hσ hj hv) hb hS fun b hb hc => by
    have := al_erase hσ ha.good b (.inl (hA b hb hc))
    exact ⟨this.1, by rw [blks_set (r' := Res.box g t cs') hj rfl]; exact this.2⟩
theorem RH.sayB {g : Nat} {t : TypeId} {cs cs' : List AV} (j : Nat) (hj : σ[j]? = some (.box g t cs)) (hv : VwL [] cs cs') (h : RH P C n ops X A1 w1 K fuel listed Eb E (σ.set j (.box g t cs'))) : RH P C n ops X A1 w1 K fuel listed Eb E σ := fun a w ha hb hS hA =>
  h a w (ha.sayB hj hv) hb hS fun b hb hc => ⟨(hA b hb hc).1, by rw [blks_set (r' := Res.box g t cs') hj rfl]; exact (hA b hb hc).2⟩
end

theorem Hd.keep {A : Nat → Prop} {w w' : World} (h : Hd A σ w) (hw : ∀ b, b < w.heap.size → (A b ∨ b ∈ blks σ) → w'.heap[b]? = w.heap[b]?) : Hd A σ w' :=
  ⟨fun r hr => (h.1 r hr).mono (fun b hb hA => ⟨hA, hw b hb (.inl hA)⟩) (fun b hb => hw b ((h.1 r hr).lt hb) (.inr (mem_blks.2 ⟨r, hr, hb⟩))), h.2⟩
theorem Ops.keep {A : Nat → Prop} {w w' : World} {ρ : Operand → Value} (h : Ops A w E ρ) (hw : ∀ b, b < w.heap.size → A b → w'.heap[b]? = w.heap[b]?) : Ops A w' E ρ := fun x u hx => (h x u hx).mono fun b hb hA => ⟨hA, hw b hb hA⟩

theorem relL_ints {A : Nat → Prop} {w : World} {k : IntKind} : ∀ {l : List Int} {us : List Value}, RelL A w (l.flatMap (cN k)) us → us = l.map (Value.int k)
  | [], us, h => List.eq_nil_of_length_eq_zero (by simpa using h.1)
  | x :: l, us, h => by
    obtain ⟨v, us', rfl, h1, h2⟩ := RelL.head (show RelL A w (AV.n k x :: l.flatMap (cN k)) us from h)
    rw [h1.litEq, relL_ints h2]
    rfl

/-- string(b) -/
theorem Yp.b2s {l : List Int} (ho : o.op = .convert T T' x) (hx : Src σ E x e 1 (cN .u8) l) (hs : P.underlying T = some (.slice e)) (he : P.underlying e = some (.int .u8)) (hd : P.underlying T' = some .string) : Yp P E σ o (.s (strOfNums l)) := fun A w ρ h hρ =>
  ⟨_, .lit _, fun w' hw => by
    obtain ⟨p, cap, news, h1, h2, h3, _, h5, _⟩ := hx.spec (h.keep hw) (hρ.keep fun b hb hA => hw b hb (.inl hA))
    have h6 := relL_ints h5
    have hconv : (convert T T' (.slice p l.length cap)).run P w' = .ok (.string (strOfNums l)) w' := by
      cases p with
      | none =>
        have : l = [] := by
          rcases h2 with h2 | ⟨a, h2, _⟩
          · exact List.eq_nil_of_length_eq_zero h2
          · cases h2
        subst this
        have hc := run_convert_bytes_nil (P := P) w' T e hs he 0 cap T' hd
        have : strOfNums [] = ByteArray.empty := rfl
        rw [this]
        simpa using hc
      | some a =>
        have hl : (loadCells a l.length).run P w' = .ok (l.map (Value.int .u8)).toArray w' := by
          rcases h2 with h2 | ⟨a', h2, h4⟩
          · have : l = [] := List.eq_nil_of_length_eq_zero h2
            subst this
            simp [loadCells, loadCellsFrom]
          · cases h2
            have := run_loadCells_list (P := P) w' a (l.map (Value.int .u8)) (fun j v hj => h4 j v (by rw [h6]; exact hj))
            simpa using this
        rw [run_convert_bytes_string w' T T' e _ l.length cap hs he hd, run_bytesToString w' _ l.length cap l hl, foldl_push_bytes]
        simp [strOfNums, ByteArray.empty, ByteArray.emptyWithCapacity]
        rfl
    simp [execOp, ho, h1, hconv]⟩
theorem Yp.seql {s t : ByteArray} (ho : o.op = .binOp .eql T x y T') (hx : E.ev x = some (.s s)) (hy : E.ev y = some (.s t)) : Yp P E σ o (.b (s.toList == t.toList)) := Yp.lits fun ρ hρ w => by
  simp [execOp, ho, hρ _ _ hx, hρ _ _ hy, eqGuard, binOp, Op.stringOp]
theorem Yp.sneq {s t : ByteArray} (ho : o.op = .binOp .neq T x y T') (hx : E.ev x = some (.s s)) (hy : E.ev y = some (.s t)) : Yp P E σ o (.b (!(s.toList == t.toList))) := Yp.lits fun ρ hρ w => by
  simp [execOp, ho, hρ _ _ hx, hρ _ _ hy, eqGuard, binOp, Op.stringOp]
theorem run_equal_bool {w : World} {b c : Bool} (hT : P.underlying T = some .bool) : (Op.equal T (.bool b) (.bool c)).run P w = .ok (b == c) w := by
  obtain ⟨d, hd⟩ : ∃ d, Op.maxDepth = d + 1 := ⟨Op.maxDepth - 1, by decide⟩
  unfold Op.equal
  rw [hd]
  unfold Op.equalIn
  simp only [Sem.run_bind, run_underlying hT, Result.andThen_ok]
  rfl
theorem Yp.beql {b c : Bool} (ho : o.op = .binOp .eql T x y T') (hT : P.underlying T = some .bool) (hx : E.ev x = some (.b b)) (hy : E.ev y = some (.b c)) : Yp P E σ o (.b (b == c)) := Yp.lits fun ρ hρ w => by
  have hbin : binOp .eql T (.bool b) (.bool c) = (do pure (.bool (← Op.equal T (.bool b) (.bool c)))) := rfl
  have h1 := run_equal_bool (P := P) (T := T) (w := w) (b := b) (c := c) hT
  simp only [execOp, ho, hρ _ _ hx, hρ _ _ hy, eqGuard, hbin]
  simp [h1]
theorem Yp.bneq {b c : Bool} (ho : o.op = .binOp .neq T x y T') (hT : P.underlying T = some .bool) (hx : E.ev x = some (.b b)) (hy : E.ev y = some (.b c)) : Yp P E σ o (.b (!(b == c))) := Yp.lits fun ρ hρ w => by
  have hbin : binOp .neq T (.bool b) (.bool c) = (do pure (.bool (!(← Op.equal T (.bool b) (.bool c))))) := rfl
  have h1 := run_equal_bool (P := P) (T := T) (w := w) (b := b) (c := c) hT
  simp only [execOp, ho, hρ _ _ hx, hρ _ _ hy, eqGuard, hbin]
  simp [h1]
end
end Go.Ab
end
section
set_option linter.unusedSectionVars false
set_option linter.unusedVariables false
set_option linter.unusedSimpArgs false
namespace Go.Ab
open Go Go.RowKit
section
variable {P : Program} {E : Env} {σ : List Res} {o : Oper} {x y : Operand} {av : AV} {C : Cx} {T T' e : TypeId} {k k' : IntKind}

/-- internal/bytealg.MakeNoZero -/
theorem Yv.noZero {f : FuncId} {ps : Array TypeId} {xs : Array Operand} {ts : Array TypeId} {n : Nat} (ho : o.op = .call { callee := .value (.func f), args := xs, argTypes := ts }) (hf : ∀ (w : World) (args : Array Value), (callFunc f args).run P w = ((Extern.BytealgMakeNoZero.makeNoZero ps #[T] args).run P w).andThen fun v w' => .ok (.value v) w')
    (he : E.evl xs.toList = some [.i (n : Int)]) (hT : P.underlying T = some (.slice e)) (hn : n ≤ 1073741824) (hpos : 0 < n) :
    Yv P E σ o C [] (fun a σ' => ∃ g cap cs, a = .lit (.slice (some ⟨g, 0, none⟩) n cap) ∧ σ' = .box g e cs :: σ ∧ cs.length = cap ∧ n ≤ cap ∧ cap ≤ maxLen) := fun w ρ hg hρ => by
  have h1 := Env.evl_rel hρ he
  obtain ⟨v, us', h2, h3, h4⟩ := h1.head
  have h5 : us' = [] := List.eq_nil_of_length_eq_zero (by simpa using h4.1)
  subst h5
  have h6 := h3.litEq
  subst h6
  have h7 : xs.map ρ = #[.int .i64 n] := by
    apply Array.ext'
    rw [Array.toList_map, h2]
  obtain ⟨cs, hr, hle, hm⟩ := Lib.run_makeNoZero (P := P) w ps T e hT n (by omega)
  have hk : Kp [] w (w.drew.drew.alloc (.cells cs e)) := ⟨rfl, rfl, rfl, by simp, fun k hk _ => heap_alloc_old w.drew.drew _ hk⟩
  refine ⟨_, _, _, _, ⟨w.heap.size, cs.size, cs.toList.map .lit, rfl, rfl, by simp, hle, hm (by unfold maxLen; omega)⟩, tr_new hg hk (.inr rfl) ⟨cs.toList, heap_alloc_new w.drew.drew _, RelL.lits _⟩, ?_, .lit _⟩
  have h8 : ρ (.func f) = .func (.func f) #[] #[] := by
    obtain ⟨us, q1, q2⟩ := (hρ (.func f) _ rfl).fnInv
    have : us = [] := List.eq_nil_of_length_eq_zero (by simpa using q2.1)
    rw [q1, this]
  simp [execOp, ho, resolve, h8, Deferred.ofValue, invoke, h7, hf, hr]

theorem Yp.sliceL3 {a : Option Addr} {l c : Nat} {m n : Int} {y z : Operand} {s : Nat} (ho : o.op = .slice T x none (some y) (some z)) (hx : E.ev x = some (.lit (.slice a l c))) (hy : E.ev y = some (.n k n)) (hz : E.ev z = some (.n k' m)) (hT : P.underlying T = some (.slice e)) (hs : (P.info? e).map (·.size) = some s) (hm : 0 ≤ n ∧ n ≤ m ∧ m ≤ (c : Int)) (hpos : 0 < m) :
    Yp P E σ o (.lit (.slice a n.toNat m.toNat)) := Yp.lits fun ρ hρ w => by
  obtain ⟨j, hj, hj'⟩ := Option.map_eq_some_iff.1 hs
  have h1 : 0 ≤ m ∧ m ≤ (c : Int) := by omega
  have h4 : ¬ m ≤ 0 := by omega
  have h0 : ∀ a : Option Addr, a.map (·.add 0) = a := fun a => by cases a <;> simp [Addr.add]
  simp [execOp, ho, hρ _ _ hx, hρ _ _ hy, hρ _ _ hz, Instr.sliceAt, Instr.slice, Instr.sliceBounds, Instr.sliceBound, run_underlying hT, sizeOf, typeInfo, hj, asIntOf, h1, hm.1, h0, h4]
  intro hc
  exfalso
  omega
theorem Yp.sliceLlo {g of l c : Nat} {m : Int} {y : Operand} (ho : o.op = .slice T x (some y) none none) (hx : E.ev x = some (.lit (.slice (some ⟨g, of, none⟩) l c))) (hy : E.ev y = some (.n k m)) (hT : P.underlying T = some (.slice e)) (hs : (P.info? e).map (·.size) = some 1) (hm : 0 ≤ m ∧ m ≤ (l : Int)) (hlt : m < (c : Int)) :
    Yp P E σ o (.lit (.slice (some ⟨g, of + m.toNat, none⟩) (l - m.toNat) (c - m.toNat))) := Yp.lits fun ρ hρ w => by
  obtain ⟨j, hj, hj'⟩ := Option.map_eq_some_iff.1 hs
  have h4 : ¬ c = m.toNat := by omega
  simp [execOp, ho, hρ _ _ hx, hρ _ _ hy, Instr.sliceAt, Instr.slice, Instr.sliceBounds, Instr.sliceBound, run_underlying hT, sizeOf, typeInfo, hj, hj', asIntOf, hm, h4, add0]
theorem Yp.sliceLhi {a : Option Addr} {l c s : Nat} {n : Int} {z : Operand} (ho : o.op = .slice T x none (some z) none) (hx : E.ev x = some (.lit (.slice a l c))) (hz : E.ev z = some (.n k n)) (hT : P.underlying T = some (.slice e)) (hs : (P.info? e).map (·.size) = some s) (hm : 0 ≤ n ∧ n ≤ (c : Int)) :
    Yp P E σ o (.lit (.slice a n.toNat c)) := Yp.lits fun ρ hρ w => by
  obtain ⟨j, hj, hj'⟩ := Option.map_eq_some_iff.1 hs
  have h0 : ∀ a : Option Addr, a.map (·.add 0) = a := fun a => by cases a <;> simp [Addr.add]
  simp [execOp, ho, hρ _ _ hx, hρ _ _ hz, Instr.sliceAt, Instr.slice, Instr.sliceBounds, Instr.sliceBound, run_underlying hT, sizeOf, typeInfo, hj, asIntOf, hm, h0]

/-- the first n cells behind a slice's address are as0 -/
def From (E : Env) (σ : List Res) (y : Operand) (sl : Nat) (as0 : List AV) : Prop := ∀ (A : Nat → Prop) (w : World) (ρ : Operand → Value), Hd A σ w → Ops A w E ρ → ∃ a sc us, ρ y = .slice (some a) sl sc ∧ (∀ j u, us[j]? = some u → w.cell? (a.add j) = some u) ∧ RelL A w as0 us

theorem flat_ints {k : IntKind} : ∀ (l : List Int), l.flatMap (cN k) = l.map (.n k)
  | [] => rfl
  | x :: l => by rw [List.flatMap_cons, flat_ints l]; rfl

theorem From.sl {l : List Int} (hx : E.ev y = some (.sl 1 (cN .u8) l)) (h0 : 0 < l.length) : From E σ y l.length (l.map (.n .u8)) := fun A w ρ hd hρ => by
  obtain ⟨p, cap, news, h1, h2, h3, _, h5, _⟩ := Src.spec (e := 0) (.inr (.inl hx) : Src σ E y 0 1 (cN .u8) l) hd hρ
  rcases h2 with h2 | ⟨a, rfl, h4⟩
  · omega
  · refine ⟨a, cap, news, h1, h4, ?_⟩
    rwa [flat_ints] at h5
theorem From.box {g of sl c t : Nat} {cs : List AV} (i n : Nat) (hx : E.ev y = some (.lit (.slice (some ⟨g, of, none⟩) sl c))) (hσ : σ[i]? = some (.box g t cs)) : From E σ y sl ((cs.drop of).take n) := fun A w ρ hd hρ => by
  obtain ⟨us, h1, h2⟩ := hd.1 _ (List.mem_of_getElem? hσ)
  refine ⟨⟨g, of, none⟩, c, (us.drop of).take n, (hρ _ _ hx).litEq, fun j u hj => ?_, (RelL.drop of h2).take n⟩
  rw [add0]
  rw [List.getElem?_take] at hj
  split at hj
  · rw [List.getElem?_drop] at hj
    exact h1.cell (by simpa using hj)
  · cases hj

/-- copy(dst, src) into a block whose cells are known -/
theorem Yv.copyB {g of dl dc sl t : Nat} {cs as0 : List AV} {x y : Operand} (i : Nat) (ho : o.op = .call { callee := .builtin .copy, args := #[x, y], argTypes := #[T, T'] }) (hx : E.ev x = some (.lit (.slice (some ⟨g, of, none⟩) dl dc))) (hσ : σ[i]? = some (.box g t cs)) (hs : From E σ y sl as0) (hT : P.underlying T = some (.slice e)) (hz : (P.info? e).map (·.size) = some 1)
    (hn : as0.length = Nat.min sl dl) (h1 : as0.all acell1 = true) (hle : of + as0.length ≤ cs.length) :
    Yv P E σ o C [g] (fun a σ' => a = .i (as0.length : Int) ∧ σ' = σ.set i (.box g t (cs.take of ++ as0 ++ cs.drop (of + as0.length)))) := fun w ρ hg hρ => by
  obtain ⟨j, hj, hj'⟩ := Option.map_eq_some_iff.1 hz
  obtain ⟨us, q1, q2⟩ := hg.res _ (List.mem_of_getElem? hσ)
  obtain ⟨a, sc, ns, r1, r2, r3⟩ := hs _ w ρ hg.hd hρ
  have hx' := (hρ _ _ hx).litEq
  have hl := run_loadCells_list (P := P) w a ns r2
  have hst := run_storeCells_at P g of t ns 0 us.toArray w q1 (by simp; rw [q2.1, r3.1]; omega) (r3.one h1)
  simp only [Nat.add_zero] at hst
  have hal : ∀ b, b < w.heap.size → al C σ b → al C (σ.set i (.box g t (cs.take of ++ as0 ++ cs.drop (of + as0.length)))) b ∧ (w.setRow g (us.take of ++ ns ++ us.drop (of + ns.length)).toArray).heap[b]? = w.heap[b]? := fun b hb hA =>
    ⟨⟨hA.1, by rw [blks_set (r' := Res.box g t (cs.take of ++ as0 ++ cs.drop (of + as0.length))) hσ rfl]; exact hA.2⟩, setRow_other w g b _ (fun e => hA.2 (mem_blks.2 ⟨_, List.mem_of_getElem? hσ, by rw [← e]; rfl⟩))⟩
  refine ⟨.int .i64 as0.length, w.setRow g (us.take of ++ ns ++ us.drop (of + ns.length)).toArray, _, _, ⟨rfl, rfl⟩, tr_upd hg hσ (kp_setRow w g _) (.inl rfl) ⟨us.take of ++ ns ++ us.drop (of + ns.length), setRow_heap w g us.toArray _ t (0, 0) q1, ?_⟩, ?_, .lit _⟩
  · rw [r3.1]
    exact (((RelL.take of q2).app r3).app (RelL.drop (of + as0.length) q2)).mono (by have := hal; rw [r3.1] at this; exact this)
  · have hmin : min sl dl = ns.length := by rw [r3.1, hn]
    have hmin' : Nat.min sl dl = ns.length := hmin
    rw [← r3.1]
    simp [execOp, ho, resolve, invoke, builtin, hx', r1, Builtin.copy_, run_underlying hT, Builtin.lenOf, Builtin.firstCells, sizeOf, typeInfo, hj, hj', hmin', hl, hst, goInt]
end

/-- A block whose first cells are those of a list of data becomes data: in slot t. -/
theorem Sim.frzL {C : Cx} {n : Nat} {E : Env} {σ : List Res} {a : Act} {w : World} {i t g T : Nat} {cs : List AV} {α : Type} [Inhabited α] {c : α → List AV} {l : List α} {cap : Nat} (h : Sim C n E σ a w) (hσ : σ[i]? = some (.box g T cs)) (ht : E.get t = some (.lit (.slice (some ⟨g, 0, none⟩) l.length cap))) (hc : ∀ j, j < l.length → c l[j]! = (cs[j]?).toList) (hl : l.length ≤ cs.length) (hcap : l.length ≤ cap) (hm : l.length ≤ 9223372036854775807) : Sim C n ((t, .sl 1 c l) :: E) (σ.eraseIdx i) a w := by
  refine h.frz hσ ht fun A w v hd hr => ?_
  have hv := hr.litEq
  subst hv
  obtain ⟨us, h1, h2⟩ := hd.1 _ (List.mem_singleton.2 rfl)
  have hget : ∀ j, j < l.length → ∃ av u, cs[j]? = some av ∧ us[j]? = some u ∧ Rel A w av u := fun j hj => by
    have hj' : j < cs.length := by omega
    obtain ⟨u, q1, q2⟩ := RelL.get h2 (List.getElem?_eq_getElem hj')
    exact ⟨_, u, List.getElem?_eq_getElem hj', q1, q2⟩
  refine .sl 1 c l _ cap (fun i _ => (us[i]?).getD undef) hm hcap (fun j hj => ?_) (fun j hj => ?_) (fun j k b hj hb => ?_)
  · obtain ⟨av, u, q1, _⟩ := hget j hj
    rw [hc j hj, q1]; rfl
  · obtain ⟨av, u, q1, q2, q3⟩ := hget j hj
    refine ⟨g, 0, rfl, h1.lt, .inr (mem_blks.2 ⟨_, List.mem_singleton.2 rfl, rfl⟩), fun k hk => ?_⟩
    have : k = 0 := by omega
    subst this
    rw [q2, Nat.zero_add, Nat.mul_one, Nat.add_zero]
    exact h1.cell (by simpa using q2)
  · obtain ⟨av, u, q1, q2, q3⟩ := hget j hj
    rw [hc j hj, q1] at hb
    cases k with
    | zero =>
      simp at hb
      subst hb
      simp only [q2, Option.getD_some]
      exact q3.mono fun b _ hA => ⟨.inl hA, rfl⟩
    | succ k => simp at hb
theorem CW.frzL {P : Program} {C : Cx} {n : Nat} {cd : Code} {Q : Exit → Env → List Res → Prop} {E : Env} {σ : List Res} {g T : Nat} {cs : List AV} {α : Type} [Inhabited α] {c : α → List AV} {cap : Nat} (i t : Nat) (l : List α) (hσ : σ[i]? = some (.box g T cs)) (ht : E.get t = some (.lit (.slice (some ⟨g, 0, none⟩) l.length cap))) (hc : ∀ j, j < l.length → c l[j]! = (cs[j]?).toList) (hl : l.length ≤ cs.length) (hcap : l.length ≤ cap) (hm : l.length ≤ 9223372036854775807)
    (h : CW P C n cd Q ((t, .sl 1 c l) :: E) (σ.eraseIdx i)) : CW P C n cd Q E σ := fun a w ha => h a w (ha.frzL hσ ht hc hl hcap hm)
end Go.Ab
namespace Go.Ab
open Go Go.RowKit
theorem RO.clr {P : Program} {C : Cx} {n : Nat} {ops : Array Oper} {X : List Nat} {A1 : Nat → Prop} {w1 : World} {K : Env → List Res → Prop} {fuel : Nat} {listed : Array Bool} {i : Nat} {Eb E : Env} {σ : List Res} (h : RO P C n ops X A1 w1 K fuel listed i [] E σ) : RO P C n ops X A1 w1 K fuel listed i Eb E σ := fun a w ha _ hS hA =>
  h a w ha (fun t av h => by cases h) hS hA
end Go.Ab
end
section
set_option linter.unusedSectionVars false
set_option linter.unusedVariables false
set_option linter.unusedSimpArgs false
namespace Go.Ab
open Go Go.RowKit Go.Shelf Go.Proofs

/-! ### Code in a round -/

/-- no operation of the list defers a call -/
def plainOp (o : Oper) : Bool := match o.op with
  | .defer _ => false
  | _ => true

theorem plainOp.ne {o : Oper} (h : plainOp o = true) : ∀ c, o.op ≠ .defer c := fun c e => by
  unfold plainOp at h
  rw [e] at h
  cases h

theorem operIn_of {P : Program} {l m : Nat} {o : Oper} {a : Act} {w : World} {K K' : Act → World → Prop} {Q : Exit → Act → World → Prop} (hp : plainOp o = true) (h : o.wp P a w K Q) (hK : ∀ a w, K a w → K' a w) : o.wpIn (Fence.wide.inRound l) m P a w K' Q := by
  refine ⟨fun _ _ => trivial, ?_⟩
  rw [Fence.inRound_round, Oper.semAt_some l _ _ (plainOp.ne hp)]
  unfold Oper.wp at h
  generalize (execOp a.eval o).run P w = r at h
  cases r with
  | ok x w' =>
    cases x with
    | value v => exact hK _ _ h
    | skip => exact hK _ _ h
    | defer d => exact hK _ _ h
    | enter f args =>
      refine ⟨fun h => by simp [Fence.inRound, Fence.wide] at h, CallsIn.inRound l (callsIn_wide.2 (Calls.mono h fun e w'' he => ?_))⟩
      cases e with
      | returned v => exact hK _ _ he
      | panicked ch => exact he
      | outgrown => exact he
    | row row args =>
      refine ⟨fun h => by simp [Fence.inRound, Fence.wide] at h, fun c cs _ => ?_⟩
      obtain ⟨v, w'', q1, q2⟩ := h c cs
      exact ⟨v, w'', hK _ _ q1, stepsIn_wide.2 q2⟩
    | _ => exact h.elim
  | halt x w' =>
    cases x with
    | panic v => exact h
    | _ => exact h.elim

theorem wpListIn_of {P : Program} {l m : Nat} {ops : Array Oper} {Q : Exit → Act → World → Prop} (hQ : ¬ LetsOut Q) : ∀ (rest : List Oper) (a : Act) (w : World), rest.all plainOp = true → wpList P ops Q rest a w → wpListIn (Fence.wide.inRound l) m P ops Q rest a w
  | [], _, _, _, h => h
  | o :: rest, a, w, hp, h => by
    rw [List.all_cons, Bool.and_eq_true] at hp
    unfold wpList at h
    unfold wpListIn
    by_cases hw : Region.wanted o (yielded ops a.tmps) = true
    · rw [if_pos hw] at h ⊢
      rcases h with h | h
      · exact operIn_of hp.1 h fun a' w' h' => wpListIn_of hQ rest a' w' hp.2 h'
      · exact absurd h.2 hQ
    · rw [if_neg hw] at h ⊢
      exact ⟨fun _ _ => trivial, wpListIn_of hQ rest _ _ hp.2 h⟩

def CWR (P : Program) (C : Cx) (n : Nat) (c : Code) (Q : Exit → Env → List Res → Prop) (E : Env) (σ : List Res) : Prop :=
  ∀ lp m a w, Sim C n E σ a w → a.defers = [] → c.wpIn (Fence.wide.inRound lp) m P (fun e a' w' => a'.defers = [] ∧ ∃ E' σ', Sim C n E' σ' a' w' ∧ Q e E' σ') a w

def SeqR (P : Program) (C : Cx) (n : Nat) (y : Code) (Q : Exit → Env → List Res → Prop) : Exit → Env → List Res → Prop
  | .normal, E, σ => CWR P C n y Q E σ
  | e, E, σ => Q e E σ

section
variable {P : Program} {C : Cx} {n : Nat} {c x y : Code} {Q Q' : Exit → Env → List Res → Prop} {E E' : Env} {σ σ' : List Res}

theorem CWR.mono (h : CWR P C n c Q E σ) (hq : ∀ e E σ, Q e E σ → Q' e E σ) : CWR P C n c Q' E σ := fun lp m a w ha hd =>
  wpIn_mono (h lp m a w ha hd) fun _ _ _ ⟨hd', E', σ', h1, h2⟩ => ⟨hd', E', σ', h1, hq _ _ _ h2⟩

theorem CWR.seq (h : CWR P C n x (SeqR P C n y Q) E σ) : CWR P C n (.seq x y) Q E σ := fun lp m a w ha hd => by
  refine wpIn_seq (wpIn_mono (h lp m a w ha hd) fun e a' w' ⟨hd', E', σ', h1, h2⟩ => ?_)
  cases e with
  | normal => exact h2 lp m a' w' h1 hd'
  | _ => exact ⟨hd', E', σ', h1, h2⟩

theorem CWR.block {id : Nat} (h : CWR P C n c (BlockQ id Q) E σ) : CWR P C n (.block id c) Q E σ := fun lp m a w ha hd => by
  refine wpIn_block (wpIn_mono (h lp m a w ha hd) fun e a' w' ⟨hd', E', σ', h1, h2⟩ => ?_)
  cases e with
  | exit id' =>
    simp only [BlockQ] at h2
    simp only [Exit.inBlock]
    split
    · rename_i he
      subst he
      have hb : Nat.beq id' id' = true := Nat.beq_refl _
      simp only [hb] at h2
      exact ⟨hd', E', σ', h1, h2⟩
    · rename_i he
      have hb : Nat.beq id' id = false := by
        cases hb : Nat.beq id' id with
        | false => rfl
        | true => exact absurd (Nat.eq_of_beq_eq_true hb) he
      simp only [hb] at h2
      exact ⟨hd', E', σ', h1, h2⟩
  | _ => exact ⟨hd', E', σ', h1, h2⟩

theorem CWR.exit {id : Nat} (h : Q (.exit id) E σ) : CWR P C n (.exit id) Q E σ := fun _ _ _ _ ha hd => wpIn_exit ⟨hd, E, σ, ha, h⟩
theorem CWR.ret (h : Q .ret E σ) : CWR P C n .ret Q E σ := fun _ _ _ _ ha hd => wpIn_ret ⟨hd, E, σ, ha, h⟩
theorem CWR.skip (h : Q .normal E σ) : CWR P C n .skip Q E σ := fun _ _ _ _ ha hd => wpIn_skip ⟨hd, E, σ, ha, h⟩
theorem CWR.cond {cnd : Operand} {b : Bool} (hc : E.ev cnd = some (.lit (.bool b))) (ht : b = true → CWR P C n x Q E σ) (hf : b = false → CWR P C n y Q E σ) : CWR P C n (.cond cnd x y) Q E σ := fun lp m a w ha hd =>
  wpIn_cond_split (ev_bool ha hc) (fun h => ht h lp m a w ha hd) (fun h => hf h lp m a w ha hd)
theorem CWR.region {id : Nat} {l : List Oper} (hp : l.all plainOp = true) (h : RW P C n l.toArray (fun E' σ' => Q .normal E' σ') l E σ) : CWR P C n (.region id l.toArray false) Q E σ := fun lp m a w ha hd => by
  refine wpIn_mono (wpIn_region_lit (wpListIn_of (fun ⟨_, _, h⟩ => by cases h.1) l a w hp (h a w ha))) fun e a' w' ⟨he, hd', E', σ', h1, h2⟩ => ?_
  subst he
  exact ⟨hd'.trans hd, E', σ', h1, h2⟩
theorem CWR.sel {cd : Code} {Q : Exit → Env → List Res → Prop} (is : List Nat) (hs : Ab.sel σ is = some σ') (h : CWR P C n cd Q E σ') : CWR P C n cd Q E σ := fun lp m a w ha hd => h lp m a w (ha.sel is hs) hd
end

theorem CWR.weak {P : Program} {C : Cx} {n : Nat} {c : Code} {Q : Exit → Env → List Res → Prop} {E E' : Env} {σ : List Res} (h : CWR P C n c Q E σ) (hs : Sub E E') : CWR P C n c Q E' σ := fun lp m a w ha hd => h lp m a w (ha.sub hs) hd
theorem CWR.cut {P : Program} {C : Cx} {n : Nat} {c : Code} {Q : Exit → Env → List Res → Prop} {E : Env} {σ : List Res} (K : Env → List Res → Prop) (first : CWR P C n c (CutQ K Q) E σ) (rest : ∀ E σ, K E σ → Q .normal E σ) : CWR P C n c Q E σ :=
  CWR.mono first fun e E σ h => by cases e <;> first | exact rest E σ h | exact h

/-- A box that is not written any more is data. -/
theorem Vw.box {σ : List Res} {b : Nat} {T : TypeId} {cs : List AV} (i : Nat) (hσ : σ[i]? = some (.box b T cs)) : Vw σ (.lit (.pointer (some ⟨b, 0, none⟩))) (.fp cs) := fun A w v hd hr => by
  have hv := hr.litEq
  subst hv
  have hm := List.mem_of_getElem? hσ
  obtain ⟨us, h1, h2⟩ := hd.1 _ hm
  exact .fp cs b 0 us h1.lt (.inr (mem_blks.2 ⟨_, hm, rfl⟩)) h2.1 (fun j v hj => by rw [Nat.zero_add]; exact h1.cell (by simpa using hj)) (fun j a v q1 q2 => (h2.2 j a v q1 q2).mono fun b _ hA => ⟨.inl hA, rfl⟩)
theorem Vw.fn {σ : List Res} {f : Go.Fn} {cs cs' : List AV} (h : VwL σ cs cs') : Vw σ (.fn f cs) (.fn f cs') := fun A w v hd hr => by
  obtain ⟨us, rfl, h1⟩ := hr.fnInv
  have := h A w us hd h1
  exact .fn f _ us this.1 this.2

/-! ### The rule -/

/-- Function gf, with caps captured, calls yield with the values es, one after the other, as0 long as0 yield says so; it reads data that is not written. -/
def Iter (P : Program) (gf : FuncId) (caps : List AV) (es : List (List AV)) : Prop :=
  ∀ (A : Nat → Prop) (w : World) (lb : List Value), RelL A w caps lb → ∃ us : List (List Value), us.length = es.length ∧ (∀ i, i < es.length → RelL A w es[i]! us[i]!) ∧
    SeqStopsK Fence.wide 1 P gf lb.toArray (fun i : Fin es.length => us[i.1]!.toArray) (fun W W' => ∀ b, b < w.heap.size → A b → W'.heap[b]? = W.heap[b]?) (fun xs => xs = List.finRange es.length) (fun pre => pre <+: List.finRange es.length) es.length w

/-- the parameters of a round -/
def penv : List Tmp → List AV → Env → Env
  | p :: ps, e :: es, E => penv ps es ((p, e) :: E)
  | _, _, E => E

theorem Slots.penv {A : Nat → Prop} {w : World} : ∀ (ps : List Tmp) (es : List AV) (us : List Value) (E : Env) (tmps : Array Value), Slots A w E tmps → RelL A w es us → (∀ p ∈ ps, p < tmps.size) → ps.length = es.length →
    Slots A w (penv ps es E) ((ps.zip us).foldl (fun t (p, v) => t.setIfInBounds p v) tmps)
  | [], [], us, E, tmps, h, _, _, _ => by simpa [Ab.penv] using h
  | [], _ :: _, _, _, _, _, _, _, hl => by cases hl
  | _ :: _, [], _, _, _, _, _, _, hl => by cases hl
  | p :: ps, e :: es, [], E, tmps, h, hr, _, _ => by have := hr.1; simp at this
  | p :: ps, e :: es, u :: us, E, tmps, h, hr, hp, hl => by
    have h1 : Slots A w ((p, e) :: E) (tmps.setIfInBounds p u) := Slots.put (a := { tmps := tmps, defers := [] }) h (hp p List.mem_cons_self) (hr.2 0 e u rfl rfl)
    exact Slots.penv ps es us _ _ h1 ⟨by have := hr.1; simpa using this, fun j a v q1 q2 => hr.2 (j + 1) a v (by simpa using q1) (by simpa using q2)⟩ (fun q hq => by simpa using hp q (List.mem_cons_of_mem _ hq)) (by simpa using hl)

def setAll (tmps : Array Value) (zs : List (Tmp × Value)) : Array Value := zs.foldl (fun t (p, v) => t.setIfInBounds p v) tmps
theorem setAll_size : ∀ (zs : List (Tmp × Value)) (tmps : Array Value), (setAll tmps zs).size = tmps.size
  | [], _ => rfl
  | z :: zs, tmps => (setAll_size zs (tmps.setIfInBounds z.1 z.2)).trans (by simp)
theorem setAll_eq (ps : Array Tmp) (us : List Value) (tmps : Array Value) : (ps.zip us.toArray).foldl (fun t (p, v) => t.setIfInBounds p v) tmps = setAll tmps (ps.toList.zip us) := by
  rw [← Array.foldl_toList, Array.toList_zip]
  rfl

/-- What a stretch of code did, seen from its own beginning, seen from the function's. -/
theorem tr_out {C : Cx} {σ σ1 : List Res} {W W' : World} (h : Good C σ W) (h' : Good ⟨W, al C σ, blks σ⟩ σ1 W') : Tr C (blks σ) σ W σ1 W' := by
  have hal : ∀ b, al ⟨W, al C σ, blks σ⟩ σ1 b → al C σ1 b := fun b hb => by
    refine ⟨?_, hb.2⟩
    rcases hb.1 with q | q | q
    · exact q.1
    · rcases h.own b q with q | q
      · exact .inr (.inl q)
      · exact .inr (.inr q)
    · exact .inr (.inr (Nat.le_trans h.kept.size q))
  refine ⟨⟨h.kept.trans h'.kept (fun b hb hlt => (h.own b hb).elim id (fun q => by omega)), fun r hr => (h'.res r hr).mono (fun b _ hA => ⟨hal b hA, rfl⟩) (fun _ _ => rfl), h'.dis, fun b hb => ?_⟩, h'.kept, fun b hb hA => ⟨⟨hA.1, fun hx => ?_⟩, hA.2⟩⟩
  · rcases h'.own b hb with q | q
    · exact h.own b q
    · exact .inr (Nat.le_trans h.kept.size q)
  · rcases h'.own b hx with q | q
    · exact hA.2 q
    · have q' : W.heap.size ≤ b := q
      omega
theorem al_out {C : Cx} {σ σ1 : List Res} {W : World} (h : Good C σ W) : ∀ b, al ⟨W, al C σ, blks σ⟩ σ1 b → al C σ1 b := fun b hb => by
  refine ⟨?_, hb.2⟩
  rcases hb.1 with q | q | q
  · exact q.1
  · rcases h.own b q with q | q
    · exact .inr (.inl q)
    · exact .inr (.inr q)
  · exact .inr (.inr (Nat.le_trans h.kept.size q))

/-- A function's state, seen afresh. -/
theorem Good.fresh {C : Cx} {σ : List Res} {W : World} (h : Good C σ W) : Good ⟨W, al C σ, blks σ⟩ σ W :=
  ⟨Kp.refl _ _, fun r hr => (h.res r hr).mono (fun b _ hA => ⟨⟨.inl hA, hA.2⟩, rfl⟩) (fun _ _ => rfl), h.dis, fun b hb => .inl hb⟩

theorem Good.less {C : Cx} {σ σ' : List Res} {W : World} (h : Good C σ W) (hs : List.Sublist σ' σ) : Good C σ' W := by
  have hm : ∀ r ∈ σ', r ∈ σ := fun r hr => hs.subset hr
  exact ⟨h.kept, fun r hr => (h.res r (hm r hr)).mono (fun b _ hA => ⟨⟨hA.1, fun hx => hA.2 (blks_sub hm b hx)⟩, rfl⟩) (fun _ _ => rfl), h.dis.sublist (hs.filterMap _), fun b hb => h.own b (blks_sub hm b hb)⟩

/-- what the loop began with lies as0 it lay -/
def Lay (C : Cx) (σ : List Res) (w : World) (σ' : List Res) (W : World) : Prop := ∀ b, b < w.heap.size → al C σ b → al C σ' b ∧ W.heap[b]? = w.heap[b]?

theorem Lay.less {C : Cx} {σ σ' σ'' : List Res} {w W : World} (h : Lay C σ w σ' W) (hs : List.Sublist σ'' σ') : Lay C σ w σ'' W := fun b hb hA =>
  ⟨⟨(h b hb hA).1.1, fun hx => (h b hb hA).1.2 (blks_sub (fun _ hr => hs.subset hr) b hx)⟩, (h b hb hA).2⟩
theorem Lay.tr {C : Cx} {X : List Nat} {σ σ' σ'' : List Res} {w W W' : World} (h : Lay C σ w σ' W) (t : Tr C X σ' W σ'' W') (hs : w.heap.size ≤ W.heap.size) : Lay C σ w σ'' W' := fun b hb hA =>
  have q := t.keep b (Nat.lt_of_lt_of_le hb hs) (h b hb hA).1
  ⟨q.1, q.2.trans (h b hb hA).2⟩

theorem tn_grown {C : Cx} {W W' : World} {row : Option Nat} (hg : W.grownBy W' row) (hw : ∀ r, row = some r → C.w0.heap.size ≤ r ∧ ∃ o : Obj, W.heap[r]? = some o ∧ o.isCells = false) (h0 : C.w0.heap.size ≤ W.heap.size) : Tn C W W' :=
  ⟨hg.os, hg.tape, hg.output, hg.size, fun k hk => hg.block k (by omega) (fun e => by have := (hw k e.symm).1; omega), fun b cs T m hx => hg.block b (Array.getElem?_eq_some_iff.1 hx).1 (fun e => by
    obtain ⟨_, o, h1, h2⟩ := hw b e.symm
    rw [hx] at h1
    cases h1
    cases h2)⟩

/-- What holds between two rounds. -/
def Mid (C : Cx) (σ : List Res) (w : World) (J : List Res → Prop) (W : World) : Prop :=
  ∃ σ', J σ' ∧ Good C σ' W ∧ Lay C σ w σ' W ∧ w.heap.size ≤ W.heap.size

theorem Mid.own {α : Type} {C : Cx} {σ : List Res} {w : World} (hw : C.w0.heap.size ≤ w.heap.size) (J : α → List Res → Prop) : OwnFrom w.heap.size (fun pre => Mid C σ w (J pre)) := fun pre W W' row ⟨σ', h1, h2, h3, h4⟩ hg hr => by
  refine ⟨σ', h1, h2.turn (tn_grown hg (fun r e => ⟨by have := (hr r e).1; omega, (hr r e).2⟩) h2.kept.size), fun b hb hA => ⟨(h3 b hb hA).1, ?_⟩, Nat.le_trans h4 hg.size⟩
  exact (hg.block b (by omega) (fun e => by have := (hr b e.symm).1; omega)).trans (h3 b hb hA).2

/-- what is no cells is not written -/
theorem keepsFrom_tr {C : Cx} {σ σ' : List Res} {W W' : World} (B : Nat) (h : Good C σ W) (t : Tr C (blks σ) σ W σ' W') : KeepsFrom B W W' :=
  ⟨t.kp.size, fun k o _ hk ho => (t.kp.block k (Array.getElem?_eq_some_iff.1 hk).1 (fun hx => by
    obtain ⟨r, h1, h2⟩ := mem_blks.1 hx
    obtain ⟨cs, T, m, h3⟩ := (h.res r h1).cells h2
    rw [hk] at h3
    cases h3
    cases ho)).trans hk⟩

/-- A round's frame, its variables set. -/
def Rnd (C : Cx) (n : Nat) (σ : List Res) (w : World) (KA : Env → List Res → Prop) (a : Act) (W : World) : Prop :=
  ∃ E1 σ1, KA E1 σ1 ∧ Sim C n E1 σ1 a W ∧ a.defers = [] ∧ Lay C σ w σ1 W ∧ w.heap.size ≤ W.heap.size

theorem Rnd.own {C : Cx} {n : Nat} {σ : List Res} {w : World} (hw : C.w0.heap.size ≤ w.heap.size) (KA : Env → List Res → Prop) (a : Act) : OwnFrom w.heap.size (fun (_ : Unit) => Rnd C n σ w KA a) := fun _ W W' row ⟨E1, σ1, h1, h2, h5, h3, h4⟩ hg hr => by
  have ht := tn_grown (C := C) hg (fun r e => ⟨by have := (hr r e).1; omega, (hr r e).2⟩) h2.good.kept.size
  refine ⟨E1, σ1, h1, ⟨.nil h5, h2.size, h2.slots.turn ht, h2.good.turn ht⟩, h5, fun b hb hA => ⟨(h3 b hb hA).1, ?_⟩, Nat.le_trans h4 hg.size⟩
  exact (hg.block b (by omega) (fun e => by have := (hr b e.symm).1; omega)).trans (h3 b hb hA).2

theorem blks_lt {C : Cx} {σ : List Res} {W : World} (h : Good C σ W) : ∀ b ∈ blks σ, b < W.heap.size := fun b hb => by
  obtain ⟨r, h1, h2⟩ := mem_blks.1 hb
  exact (h.res r h1).lt h2

theorem CW.rf {P : Program} {C : Cx} {n : Nat} {Q : Exit → Env → List Res → Prop} {E : Env} {σ : List Res} {g : Operand} {ps : Array Tmp} {assign body : Code} {gf : Nat} {caps : List AV} {es : List (List AV)}
    (J : List Res → Prop) (Jx : Nat → List Res → Prop) (p : Nat → Bool) (KA : Nat → Env → List Res → Prop) (hg : E.ev g = some (.fn (.func gf) caps)) (eg : Enters P gf) (hit : Iter P gf caps es) (hps : ∀ i, i < es.length → es[i]!.length = ps.size) (hpn : ∀ p ∈ ps.toList, p < n) (h0 : J σ)
    (hassign : ∀ C' i σ', i < es.length → J σ' → CWR P C' n assign (fun e E1 σ1 => e = .normal ∧ KA i E1 σ1 ∧ ∃ σ2, J σ2 ∧ List.Sublist σ2 σ1) (penv ps.toList es[i]! E) σ')
    (hbody : ∀ C' i E1 σ1, i < es.length → KA i E1 σ1 → CWR P C' n body (fun e _ σ2 => (e = .normal ∧ p i = false ∧ ∃ σ3, J σ3 ∧ List.Sublist σ3 σ2) ∨ (e = .ret ∧ p i = true ∧ ∃ σ3, Jx i σ3 ∧ List.Sublist σ3 σ2)) E1 σ1)
    (hdone : ∀ σ', J σ' → (∀ i, i < es.length → p i = false) → Q .normal E σ')
    (hstop : ∀ i σ', i < es.length → (∀ j, j < i → p j = false) → p i = true → Jx i σ' → Q .ret E σ') : CW P C n (.rangeFunc g ps assign body) Q E σ := fun a w ha => by
  have hgv := ha.slots.ops g _ hg
  obtain ⟨lb, hlb, hev⟩ : ∃ lb : List Value, RelL (al C σ) w caps lb ∧ a.eval g = .func (.func gf) #[] lb.toArray := by
    generalize hx : AV.fn (.func gf) caps = x at hgv
    generalize a.eval g = v at hgv
    cases hgv with
    | fn f cs us hl hr => cases hx; exact ⟨us, ⟨hl, hr⟩, rfl⟩
    | _ => cases hx
  obtain ⟨us, hul, hur, hseq⟩ := hit (al C σ) w lb hlb
  have hw0 : C.w0.heap.size ≤ w.heap.size := ha.good.kept.size
  have hKt : ∀ {A B D : World}, (∀ b, b < w.heap.size → al C σ b → B.heap[b]? = A.heap[b]?) → (∀ b, b < w.heap.size → al C σ b → D.heap[b]? = B.heap[b]?) → (∀ b, b < w.heap.size → al C σ b → D.heap[b]? = A.heap[b]?) := fun h k b hb hA => (k b hb hA).trans (h b hb hA)
  have after : ∀ (a : Act) D W σ', Lay C σ w σ' W → Good C σ' W → w.heap.size ≤ W.heap.size → w.heap.size ≤ D → W.heap[D]? = some (.deferred (some [])) → Sim C n E σ a w → Sim C n E σ' { a with defers := { target := .collected D, args := #[] } :: a.defers } W := fun a D W σ' hL hG hSz hD hdf ha => by
    have hcell : ∀ (b : Nat) ds, W.heap[b]? = some (Obj.deferred ds) → b ∉ blks σ' := fun b ds hb hx => by
      obtain ⟨r, h1, h2⟩ := mem_blks.1 hx
      obtain ⟨cs, T, m, h3⟩ := (hG.res r h1).cells h2
      rw [hb] at h3
      cases h3
    refine ⟨?_, ha.size, fun s av q => ?_, hG⟩
    · obtain ⟨Ds, h1, h2, h3⟩ := ha.defers
      refine ⟨D :: Ds, by simp [h1], List.nodup_cons.2 ⟨fun hx => by have := (h3 D hx).1; omega, h2⟩, fun D' hD' => ?_⟩
      rcases List.mem_cons.1 hD' with rfl | hD'
      · exact ⟨(Array.getElem?_eq_some_iff.1 hdf).1, by omega, hcell _ _ hdf, hdf⟩
      · obtain ⟨q1, q2, q3, q4⟩ := h3 D' hD'
        have q5 := (hL D' q1 ⟨.inr (.inr q2), q3⟩).2.trans q4
        exact ⟨(Array.getElem?_eq_some_iff.1 q5).1, q2, hcell _ _ q5, q5⟩
    · obtain ⟨v, q1, q2⟩ := ha.slots s av q
      exact ⟨v, q1, q2.mono fun b hb hA => hL b hb hA⟩
  refine wpIn_wide.1 (wpIn_rangeFunc_ownH (F := Fence.wide) (n := 2) (g := g) (ps := ps) (assign := assign) (body := body) (α := Fin es.length) (w0 := w) (gf := gf) (lb := lb.toArray) rfl (by omega) hev trivial eg hseq hKt (fun W l o o' hl _ _ _ b hb _ => World.putObj_heap_other (by omega)) (Below.refl _ _) (fun x => ?_)
    (fun pre W => (∀ i ∈ pre, p i.1 = false) ∧ Mid C σ w J W) (fun c pre W => c = .ret ∧ (∃ ini i, pre = ini ++ [i] ∧ (∀ j ∈ ini, p j.1 = false) ∧ p i.1 = true ∧ Mid C σ w (Jx i.1) W))
    (OwnFrom.and (fun _ _ _ _ h _ _ => h) (Mid.own (α := List (Fin es.length)) hw0 (fun _ => J))) (fun c pre W W' row h hg hr => ?_) ⟨by simp, σ, h0, ha.good, fun b _ hA => ⟨hA, rfl⟩, Nat.le_refl _⟩
    (fun x a' => Rnd C n σ w (KA x.1) a') (fun x a' => Rnd.own hw0 _ a') ?_ ?_ ?_ ?_)
  · have := (hur x.1 x.2).1
    rw [List.size_toArray, this]
    exact hps x.1 x.2
  · obtain ⟨h1, ini, i, h2, h3, h4, h5⟩ := h
    exact ⟨h1, ini, i, h2, h3, h4, Mid.own (α := Unit) hw0 (fun _ => Jx i.1) () W W' row h5 hg hr⟩
  · intro l pre x W K ⟨hp, σ', hJ, hG, hL, hS⟩ hK
    have hsl : Slots (al ⟨W, al C σ', blks σ'⟩ σ') W (penv ps.toList es[x.1]! E) (setAll a.tmps (ps.toList.zip us[x.1]!)) := by
      refine Slots.penv _ _ _ _ _ (fun t av ht => ?_) ?_ (fun p hp => by rw [ha.size]; exact hpn p hp) (by rw [hps x.1 x.2]; simp)
      · obtain ⟨v, q1, q2⟩ := ha.slots t av ht
        exact ⟨v, q1, q2.mono fun b hb hA => ⟨⟨.inl (hL b hb hA).1, (hL b hb hA).1.2⟩, (hL b hb hA).2⟩⟩
      · exact (hur x.1 x.2).mono fun b hb hA => ⟨⟨.inl (hL b hb hA).1, (hL b hb hA).1.2⟩, (hL b hb hA).2⟩
    rw [setAll_eq]
    refine wpIn_mono (hassign ⟨W, al C σ', blks σ'⟩ x.1 σ' x.2 hJ l 0 _ W ⟨.nil rfl, (setAll_size _ _).trans ha.size, hsl, hG.fresh⟩ rfl) ?_
    · rintro e a' W' ⟨hd1, E1, σ1, hs1, rfl, hka, σ2, hj2, hsub⟩
      have t := tr_out hG hs1.good
      refine hK a' W' (keepsFrom_tr _ hG t) (fun b hb hA => t.kp.block b (Nat.lt_of_lt_of_le hb hS) (hL b hb hA).1.2) ⟨hp, σ2, hj2, t.good.less hsub, (hL.tr t hS).less hsub, Nat.le_trans hS t.kp.size⟩ ?_
      refine ⟨E1, σ1, hka, ⟨.nil hd1, hs1.size, fun s av q => ?_, t.good⟩, hd1, hL.tr t hS, Nat.le_trans hS t.kp.size⟩
      obtain ⟨v, q1, q2⟩ := hs1.slots s av q
      exact ⟨v, q1, q2.mono fun b _ hA => ⟨al_out hG b hA, rfl⟩⟩
  · intro l pre x a' W hl hr ⟨hp, _⟩ ⟨E1, σ1, hka, hs1, hd1, hL1, hS1⟩ hlt
    have hs2 : Sim ⟨W, al C σ1, blks σ1⟩ n E1 σ1 a' W := ⟨.nil hd1, hs1.size, fun s av q => by
      obtain ⟨v, q1, q2⟩ := hs1.slots s av q
      exact ⟨v, q1, q2.mono fun b _ hA => ⟨⟨.inl hA, hA.2⟩, rfl⟩⟩, hs1.good.fresh⟩
    refine wpIn_mono (hbody ⟨W, al C σ1, blks σ1⟩ x.1 E1 σ1 x.2 hka l 0 a' W hs2 hd1) ?_
    rintro e a2 W' ⟨_, E2, σ2, hs3, hq⟩
    have t := tr_out hs1.good hs3.good
    have hkf := keepsFrom_tr w.heap.size hs1.good t
    rcases hq with ⟨rfl, hpx, σ3, hj3, hsub⟩ | ⟨rfl, hpx, σ3, hj3, hsub⟩
    · refine ⟨hkf, fun b hb hA => t.kp.block b (Nat.lt_of_lt_of_le hb hS1) (hL1 b hb hA).1.2, fun i hi => ?_, σ3, hj3, t.good.less hsub, (hL1.tr t hS1).less hsub, Nat.le_trans hS1 t.kp.size⟩
      rcases List.mem_append.1 hi with hi | hi
      · exact hp i hi
      · rw [List.mem_singleton] at hi
        rw [hi]; exact hpx
    · exact ⟨hkf, rfl, pre, x, rfl, hp, hpx, σ3, hj3, t.good.less hsub, (hL1.tr t hS1).less hsub, Nat.le_trans hS1 t.kp.size⟩
  · intro D xs W hD hS ⟨hp, σ', hJ, hG, hL, hSz⟩ hdf
    subst hS
    exact ⟨E, σ', after a D W σ' hL hG hSz hD hdf ha, hdone σ' hJ fun i hi => hp ⟨i, hi⟩ (List.mem_finRange _)⟩
  · intro D c pre W hD hS ⟨hc, ini, i, hpre, hini, hi, σ', hJ, hG, hL, hSz⟩ hdf
    subst hc
    refine wpIn_ret ⟨E, σ', after a D W σ' hL hG hSz hD hdf ha, hstop i.1 σ' i.2 (fun j hj => ?_) hi hJ⟩
    refine hini ⟨j, by have := i.2; omega⟩ ?_
    subst hpre
    obtain ⟨rest, hrest⟩ := hS
    have hk : i.1 = ini.length := by
      have h1 : (List.finRange es.length)[ini.length]? = some i := by rw [← hrest]; simp
      obtain ⟨h2, h3⟩ := List.getElem?_eq_some_iff.1 h1
      rw [List.getElem_finRange] at h3
      rw [← h3]; rfl
    have h1 : (List.finRange es.length)[j]? = some ⟨j, by have := i.2; omega⟩ := by
      rw [List.getElem?_eq_getElem (by rw [List.length_finRange]; have := i.2; omega), List.getElem_finRange]; rfl
    rw [← hrest, List.append_assoc, List.getElem?_append_left (by omega)] at h1
    exact List.mem_of_getElem? h1
end Go.Ab
end
section
set_option linter.unusedSectionVars false
set_option linter.unusedVariables false
set_option linter.unusedSimpArgs false
namespace Go.Iv
open Go
variable [U : Uni]
/-- The two read as0 the same values. -/
def Br (a : AV) (b : Ab.AV) : Prop := ∀ (A : Nat → Prop) (w : World) (v : Value), (Rel A w a v → Ab.Rel A w b v) ∧ (Ab.Rel A w b v → Rel A w a v)
def BrL (xs : List AV) (bs : List Ab.AV) : Prop := xs.length = bs.length ∧ ∀ (j : Nat) a b, xs[j]? = some a → bs[j]? = some b → Br a b
theorem BrL.nil : BrL [] [] := ⟨rfl, fun j a b h => by cases h⟩
theorem BrL.cons {a : AV} {b : Ab.AV} {xs : List AV} {bs : List Ab.AV} (h : Br a b) (hs : BrL xs bs) : BrL (a :: xs) (b :: bs) := ⟨by simp [hs.1], fun j x y h1 h2 => by
  cases j with
  | zero => cases h1; cases h2; exact h
  | succ j => exact hs.2 j x y h1 h2⟩
theorem BrL.get {xs : List AV} {bs : List Ab.AV} (h : BrL xs bs) {j : Nat} {b : Ab.AV} (hb : bs[j]? = some b) : ∃ a, xs[j]? = some a ∧ Br a b := by
  have hj := (List.getElem?_eq_some_iff.1 hb).1
  have hj' : j < xs.length := by rw [h.1]; exact hj
  exact ⟨xs[j], List.getElem?_eq_getElem hj', h.2 j _ _ (List.getElem?_eq_getElem hj') hb⟩
theorem BrL.get' {xs : List AV} {bs : List Ab.AV} (h : BrL xs bs) {j : Nat} {a : AV} (ha : xs[j]? = some a) : ∃ b, bs[j]? = some b ∧ Br a b := by
  have hj := (List.getElem?_eq_some_iff.1 ha).1
  have hj' : j < bs.length := by rw [← h.1]; exact hj
  exact ⟨bs[j], List.getElem?_eq_getElem hj', h.2 j _ _ ha (List.getElem?_eq_getElem hj')⟩
theorem Br.lit (v : Value) : Br (.lit v) (.lit v) := fun A w u => ⟨fun h => by rw [h.litEq]; exact .lit _, fun h => by rw [h.litEq]; exact .lit _⟩
theorem Br.sl {α : Type} [Inhabited α] {t : Nat} {l : List (U.Dat t)} {c : α → List Ab.AV} {l' : List α} (hlen : l.length = l'.length) (h : ∀ i, i < l.length → BrL (U.cells t l[i]!) (c l'[i]!)) : Br (.sl t l) (.sl (U.sz t) c l') := fun A w v => by
  constructor
  · intro hr
    obtain ⟨p, cap, u, rfl, h1, h2, h3, h4, h5⟩ := hr.slInv
    rw [hlen]
    refine .sl _ _ _ _ _ u (by omega) (by omega) (fun i hi => by rw [← (h i (by omega)).1]; exact h3 i (by omega)) (fun i hi => h4 i (by omega)) (fun i j a hi ha => ?_)
    obtain ⟨b, q1, q2⟩ := (h i (by omega)).get ha
    exact (q2 A w _).1 (h5 i j b (by omega) q1)
  · intro hr
    obtain ⟨p, cap, u, rfl, h1, h2, h3, h4, h5⟩ := hr.slInv
    rw [← hlen]
    refine .sl _ _ _ _ u (by omega) (by omega) (fun i hi => by rw [(h i (by omega)).1]; exact h3 i (by omega)) (fun i hi => h4 i (by omega)) (fun i j a hi ha => ?_)
    obtain ⟨b, q1, q2⟩ := (h i (by omega)).get' ha
    exact (q2 A w _).2 (h5 i j b (by omega) q1)
theorem Br.agg {cs : List AV} {ds : List Ab.AV} (h : BrL cs ds) : Br (.agg cs) (.agg ds) := fun A w v => by
  constructor
  · intro hr
    generalize ha : AVq.agg cs = a at hr
    cases hr with
    | agg cs' us hl hr =>
      cases ha
      refine .agg _ us (by rw [hl, h.1]) fun j a v h1 h2 => ?_
      obtain ⟨b, q1, q2⟩ := h.get h1
      exact (q2 A w _).1 (hr j b v q1 h2)
    | _ => cases ha
  · intro hr
    generalize ha : Ab.AV.agg ds = a at hr
    cases hr with
    | agg cs' us hl hr =>
      cases ha
      refine .agg _ us (by rw [hl, h.1]) fun j a v h1 h2 => ?_
      obtain ⟨b, q1, q2⟩ := h.get' h1
      exact (q2 A w _).2 (hr j b v q1 h2)
    | _ => cases ha
theorem Br.tup {cs : List AV} {ds : List Ab.AV} (h : BrL cs ds) : Br (.tup cs) (.tup ds) := fun A w v => by
  constructor
  · intro hr
    generalize ha : AVq.tup cs = a at hr
    cases hr with
    | tup cs' us hl hr =>
      cases ha
      refine .tup _ us (by rw [hl, h.1]) fun j a v h1 h2 => ?_
      obtain ⟨b, q1, q2⟩ := h.get h1
      exact (q2 A w _).1 (hr j b v q1 h2)
    | _ => cases ha
  · intro hr
    generalize ha : Ab.AV.tup ds = a at hr
    cases hr with
    | tup cs' us hl hr =>
      cases ha
      refine .tup _ us (by rw [hl, h.1]) fun j a v h1 h2 => ?_
      obtain ⟨b, q1, q2⟩ := h.get' h1
      exact (q2 A w _).2 (hr j b v q1 h2)
    | _ => cases ha
theorem Fn.ofAb {P : Program} {f : FuncId} {xs : List AV} {bs : List Ab.AV} {d : AV} {b : Ab.AV} (h : Ab.Fn P f bs [] (fun a s => a = b ∧ s = [])) (ha : BrL xs bs) (hd : Br d b) : Fn P f xs [] (fun a s => a = d ∧ s = []) := fun w A vs h1 h2 h3 =>
  (h w A vs ⟨by rw [h1.1, ha.1], fun j a v q1 q2 => by
      obtain ⟨x, e1, e2⟩ := ha.get q1
      exact (e2 A w v).1 (h1.2 j x v e1 q2)⟩ ⟨fun r hr => absurd hr (List.not_mem_nil), fun b hb => absurd hb (List.not_mem_nil)⟩ List.nodup_nil).mono fun e w' ⟨v, av, σ', q1, ⟨e1, e2⟩, q3, q4⟩ => by
    subst e1
    subst e2
    refine ⟨v, d, [], q1, ⟨rfl, rfl⟩, ⟨⟨⟨q3.good.kept.os, q3.good.kept.tape, q3.good.kept.output, q3.good.kept.size, q3.good.kept.block⟩, fun r hr => absurd hr (List.not_mem_nil), List.nodup_nil, fun b hb => absurd hb (List.not_mem_nil)⟩, ⟨q3.kp.os, q3.kp.tape, q3.kp.output, q3.kp.size, q3.kp.block⟩, fun b h1 h2 => q3.al b h1 h2⟩, (hd _ _ _).2 q4⟩
theorem fnY_ofFn {P : Program} {f : FuncId} {xs : List AV} {d : AV} (h : Fn P f xs [] (fun a s => a = d ∧ s = [])) (ha : ∀ ρ : Gh, xs.map (AVq.sub ρ) = xs) (hd : ∀ ρ : Gh, d.sub ρ = d) : FnY P f xs [] 0 ⟨d, [], 0⟩ := fun ρ => by
  rw [ha ρ]
  exact h.mono fun a s ⟨h1, h2⟩ => ⟨ρ, fun _ _ => ⟨rfl, rfl⟩, by rw [h1]; exact (hd ρ).symm, by rw [h2]; exact List.Perm.refl _⟩
end Go.Iv
end
