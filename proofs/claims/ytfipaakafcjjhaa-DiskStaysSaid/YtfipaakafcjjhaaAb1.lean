/- A calculus over Code.wp in which no world is in sight: what a frame's slots hold is said by terms (AV), what the function owns in memory by a list of resources (Res). Program-independent. -/
import Derived.OrdersHeld
import Derived.WalkKit
import Derived.KernelRfl
import Derived.Maps.AppendAt
set_option linter.unusedSectionVars false
set_option linter.unusedVariables false
set_option linter.unusedSimpArgs false
namespace Go.Ab
open Go Go.RowKit

/-- What a slot or a cell holds: a plain value; a slice that reads as a list and is not written; a place at which cells lie that are not written; cell k of an own slice; an aggregate; a tuple; a function. -/
inductive AV : Type 1
  | lit (v : Value)
  | sl {α : Type} [Inhabited α] (sz : Nat) (c : α → List AV) (l : List α)
  | fp (cs : List AV)
  | rp (v : Value) (k : Nat)
  | agg (cs : List AV)
  | tup (vs : List AV)
  | fn (f : Fn) (caps : List AV)

/-- the block of a slice that has room -/
def rblk : Value → Option Nat
  | .slice (some a) _ (_ + 1) => some a.block
  | _ => none

/-- v is a slice of n elements of sz cells over a row of its own (of type T), at its head; its cells are us. -/
def RowIs (w : World) (v : Value) (T : TypeId) (sz n : Nat) (us : List Value) : Prop :=
  us.length = n * sz ∧ ((∃ p, v = .slice p 0 0 ∧ n = 0) ∨
    ∃ g cap cur, v = .slice (some ⟨g, 0, none⟩) n (cap + 1) ∧ w.heap[g]? = some (.cells cur T (0, 0)) ∧ n ≤ cap + 1 ∧ cap + 1 ≤ maxLen ∧ cur.size = (cap + 1) * sz ∧ cur.toList.take (n * sz) = us)

theorem RowIs.lt {w : World} {v : Value} {T : TypeId} {sz n : Nat} {us : List Value} (h : RowIs w v T sz n us) {b : Nat} (hb : rblk v = some b) : b < w.heap.size := by
  rcases h.2 with ⟨p, rfl, _⟩ | ⟨g, cap, cur, rfl, hg, _⟩
  · cases p <;> cases hb
  · cases hb
    exact (Array.getElem?_eq_some_iff.1 hg).1

theorem RowIs.kept {w w' : World} {v : Value} {T : TypeId} {sz n : Nat} {us : List Value} (h : RowIs w v T sz n us) (hb : ∀ b, rblk v = some b → w'.heap[b]? = w.heap[b]?) : RowIs w' v T sz n us := by
  refine ⟨h.1, ?_⟩
  rcases h.2 with h1 | ⟨g, cap, cur, rfl, q1, q2⟩
  · exact .inl h1
  · exact .inr ⟨g, cap, cur, rfl, (hb g rfl).trans q1, q2⟩

/-- block b holds cells that may be written -/
def Uf (w : World) (b : Nat) : Prop := ∃ cs T, w.heap[b]? = some (.cells cs T (0, 0))
/-- Data may lie in block b; it is known that it may be written unless A holds of block 0. -/
def AF (A : Nat → Prop) (w : World) (b : Nat) : Prop := A b ∧ (A 0 ∨ Uf w b)

inductive Rel (A : Nat → Prop) (w : World) : AV → Value → Prop
  | lit (v : Value) : Rel A w (.lit v) v
  | sl {α : Type} [Inhabited α] (sz : Nat) (c : α → List AV) (l : List α) (p : Option Addr) (cap : Nat) (u : Nat → Nat → Value)
      (hl : l.length ≤ 9223372036854775807) (hcap : l.length ≤ cap) (hz : ∀ i, i < l.length → (c l[i]!).length = sz)
      (hc : ∀ i, i < l.length → ∃ b off, p = some ⟨b, off, none⟩ ∧ b < w.heap.size ∧ AF A w b ∧ ∀ j, j < sz → w.cell? ⟨b, off + i * sz + j, none⟩ = some (u i j))
      (hr : ∀ i j a, i < l.length → (c l[i]!)[j]? = some a → Rel A w a (u i j)) : Rel A w (.sl sz c l) (.slice p l.length cap)
  | fp (cs : List AV) (b o : Nat) (us : List Value) (hb : b < w.heap.size) (hA : AF A w b) (hl : us.length = cs.length)
      (hc : ∀ j v, us[j]? = some v → w.cell? ⟨b, o + j, none⟩ = some v) (hr : ∀ (j : Nat) a v, cs[j]? = some a → us[j]? = some v → Rel A w a v) : Rel A w (.fp cs) (.pointer (some ⟨b, o, none⟩))
  | rp (v : Value) (k g : Nat) (h : rblk v = some g) : Rel A w (.rp v k) (.pointer (some ⟨g, k, none⟩))
  | agg (cs : List AV) (us : List Value) (hl : us.length = cs.length) (hr : ∀ (j : Nat) a v, cs[j]? = some a → us[j]? = some v → Rel A w a v) : Rel A w (.agg cs) (.agg us.toArray)
  | tup (cs : List AV) (us : List Value) (hl : us.length = cs.length) (hr : ∀ (j : Nat) a v, cs[j]? = some a → us[j]? = some v → Rel A w a v) : Rel A w (.tup cs) (.tuple us.toArray)
  | fn (f : Fn) (cs : List AV) (us : List Value) (hl : us.length = cs.length) (hr : ∀ (j : Nat) a v, cs[j]? = some a → us[j]? = some v → Rel A w a v) : Rel A w (.fn f cs) (.func f #[] us.toArray)

theorem Rel.mono {A A' : Nat → Prop} {w w' : World} {a : AV} {v : Value} (h : Rel A w a v) (hk : ∀ b, b < w.heap.size → A b → A' b ∧ w'.heap[b]? = w.heap[b]?) : Rel A' w' a v := by
  have hsz : ∀ b, b < w.heap.size → A b → b < w'.heap.size := fun b hb hA => by
    have h1 := (hk b hb hA).2
    rw [Array.getElem?_eq_getElem hb] at h1
    exact (Array.getElem?_eq_some_iff.1 h1).1
  have hcell : ∀ b o, b < w.heap.size → A b → w'.cell? ⟨b, o, none⟩ = w.cell? ⟨b, o, none⟩ := fun b o hb hA => by
    simp [World.cell?, (hk b hb hA).2]
  have haf : ∀ b, b < w.heap.size → AF A w b → AF A' w' b := fun b hb hA => ⟨(hk b hb hA.1).1, hA.2.imp (fun h => (hk 0 (by omega) h).1) (fun ⟨cs, T, h⟩ => ⟨cs, T, (hk b hb hA.1).2.trans h⟩)⟩
  induction h with
  | lit v => exact .lit v
  | sl sz c l p cap u hl hcap hz hc hr ih =>
    refine .sl sz c l p cap u hl hcap hz (fun i hi => ?_) ih
    obtain ⟨b, off, h1, h2, h3, h4⟩ := hc i hi
    exact ⟨b, off, h1, hsz b h2 h3.1, haf b h2 h3, fun j hj => by rw [hcell b _ h2 h3.1]; exact h4 j hj⟩
  | fp cs b o us hb hA hl hc hr ih => exact .fp cs b o us (hsz b hb hA.1) (haf b hb hA) hl (fun j v hj => by rw [hcell b _ hb hA.1]; exact hc j v hj) ih
  | rp v k g h => exact .rp v k g h
  | agg cs us hl hr ih => exact .agg cs us hl ih
  | tup cs us hl hr ih => exact .tup cs us hl ih
  | fn f cs us hl hr ih => exact .fn f cs us hl ih

def RelL (A : Nat → Prop) (w : World) (as : List AV) (us : List Value) : Prop := us.length = as.length ∧ ∀ (j : Nat) a v, as[j]? = some a → us[j]? = some v → Rel A w a v

theorem RelL.mono {A A' : Nat → Prop} {w w' : World} {as : List AV} {us : List Value} (h : RelL A w as us) (hk : ∀ b, b < w.heap.size → A b → A' b ∧ w'.heap[b]? = w.heap[b]?) : RelL A' w' as us := ⟨h.1, fun j a v h1 h2 => (h.2 j a v h1 h2).mono hk⟩

theorem Rel.litEq {A : Nat → Prop} {w : World} {u v : Value} (h : Rel A w (.lit u) v) : v = u := by
  generalize ha : AV.lit u = a at h
  cases h with
  | lit v => cases ha; rfl
  | _ => cases ha

/-- Block b is a row of cells of type T that may be written. -/
def Blk (w : World) (b : Nat) (cs : Array Value) (T : TypeId) : Prop := w.heap[b]? = some (.cells cs T (0, 0))
theorem Blk.lt {w : World} {b : Nat} {cs : Array Value} {T : TypeId} (h : Blk w b cs T) : b < w.heap.size := (Array.getElem?_eq_some_iff.1 h).1
theorem Blk.cell {w : World} {b : Nat} {cs : Array Value} {T : TypeId} (h : Blk w b cs T) {i : Nat} {v : Value} (hv : cs[i]? = some v) : w.cell? ⟨b, i, none⟩ = some v := by
  unfold Blk at h
  simp [World.cell?, h, hv]

/-- What the function owns: a variable of several cells; a slice whose elements' cells are c x. -/
inductive Res : Type 1
  | box (b : Nat) (T : TypeId) (cs : List AV)
  | row {α : Type} [Inhabited α] (v : Value) (T : TypeId) (sz : Nat) (c : α → List AV) (l : List α)

def Res.blk : Res → Option Nat
  | .box b _ _ => some b
  | @Res.row _ _ v _ _ _ _ => rblk v

def Res.ok (A : Nat → Prop) (w : World) : Res → Prop
  | .box b T cs => ∃ us : List Value, Blk w b us.toArray T ∧ RelL A w cs us
  | @Res.row _ _ v T sz c l => ∃ us : List Value, RowIs w v T sz l.length us ∧ (∀ i, i < l.length → (c l[i]!).length = sz) ∧ ∀ i, i < l.length → RelL A w (c l[i]!) ((us.drop (i * sz)).take sz)

def blks (σ : List Res) : List Nat := σ.filterMap Res.blk
theorem mem_blks {σ : List Res} {b : Nat} : b ∈ blks σ ↔ ∃ r ∈ σ, r.blk = some b := by simp [blks]

theorem Res.ok.lt {A : Nat → Prop} {w : World} {r : Res} (h : r.ok A w) {b : Nat} (hb : r.blk = some b) : b < w.heap.size := by
  cases r with
  | box b' T cs => obtain ⟨us, h1, _⟩ := h; cases hb; exact h1.lt
  | row v T sz c l => obtain ⟨us, h1, _⟩ := h; exact h1.lt hb

theorem Res.ok.mono {A A' : Nat → Prop} {w w' : World} {r : Res} (h : r.ok A w) (hk : ∀ b, b < w.heap.size → A b → A' b ∧ w'.heap[b]? = w.heap[b]?) (hb : ∀ b, r.blk = some b → w'.heap[b]? = w.heap[b]?) : r.ok A' w' := by
  cases r with
  | box b T cs =>
    obtain ⟨us, h1, h2⟩ := h
    exact ⟨us, (hb b rfl).trans h1, h2.mono hk⟩
  | row v T sz c l =>
    obtain ⟨us, h1, h2, h3⟩ := h
    exact ⟨us, h1.kept hb, h2, fun i h4 => (h3 i h4).mono hk⟩

/-- Blocks outside X are as they were. -/
structure Kp (X : List Nat) (w w' : World) : Prop where
  os : w'.os = w.os
  tape : w'.tape = w.tape
  output : w'.output = w.output
  size : w.heap.size ≤ w'.heap.size
  block : ∀ k, k < w.heap.size → k ∉ X → w'.heap[k]? = w.heap[k]?

theorem Kp.refl (X : List Nat) (w : World) : Kp X w w := ⟨rfl, rfl, rfl, Nat.le_refl _, fun _ _ _ => rfl⟩
theorem Kp.trans {X Y : List Nat} {w w1 w2 : World} (h : Kp X w w1) (h' : Kp Y w1 w2) (hY : ∀ b, b ∈ Y → b < w.heap.size → b ∈ X) : Kp X w w2 :=
  ⟨h'.os.trans h.os, h'.tape.trans h.tape, h'.output.trans h.output, Nat.le_trans h.size h'.size, fun k hk hX =>
    (h'.block k (Nat.lt_of_lt_of_le hk h.size) (fun hy => hX (hY k hy hk))).trans (h.block k hk hX)⟩
theorem Kp.drew (w : World) : Kp [] w w.drew := ⟨rfl, rfl, rfl, Nat.le_refl _, fun _ _ _ => rfl⟩
theorem Kp.below {w w' : World} (h : Kp [] w w') : Below w.heap.size w w' := ⟨h.os, h.tape, h.output, h.size, fun k hk => h.block k hk (by simp)⟩
theorem Kp.ofBelow {w w' : World} (h : Below w.heap.size w w') : Kp [] w w' := ⟨h.os, h.tape, h.output, h.size, fun k hk _ => h.block k hk⟩

/-- Where the function began: its world, the blocks whose data it was given, the blocks that it was given to own. -/
structure Cx where
  w0 : World
  A0 : Nat → Prop
  O0 : List Nat

/-- The blocks in which data may lie that are not written. -/
def al (C : Cx) (σ : List Res) (b : Nat) : Prop := (C.A0 b ∨ b ∈ C.O0 ∨ C.w0.heap.size ≤ b) ∧ b ∉ blks σ

structure Good (C : Cx) (σ : List Res) (w : World) : Prop where
  kept : Kp C.O0 C.w0 w
  res : ∀ r ∈ σ, r.ok (al C σ) w
  dis : (blks σ).Nodup
  own : ∀ b ∈ blks σ, b ∈ C.O0 ∨ C.w0.heap.size ≤ b

/-- From one state of memory to the next; blocks outside X are as they were. -/
structure Tr (C : Cx) (X : List Nat) (σ : List Res) (w : World) (σ' : List Res) (w' : World) : Prop where
  good : Good C σ' w'
  kp : Kp X w w'
  al : ∀ b, b < w.heap.size → al C σ b → al C σ' b ∧ b ∉ X

theorem Tr.keep {C : Cx} {X : List Nat} {σ σ' : List Res} {w w' : World} (t : Tr C X σ w σ' w') : ∀ b, b < w.heap.size → Ab.al C σ b → Ab.al C σ' b ∧ w'.heap[b]? = w.heap[b]? :=
  fun b hb h => ⟨(t.al b hb h).1, t.kp.block b hb (t.al b hb h).2⟩

/-! ### Frames -/

abbrev Env := List (Nat × AV)

def Env.get : Env → Nat → Option AV
  | [], _ => none
  | (k, v) :: E, t => match Nat.beq k t with
    | true => some v
    | false => Env.get E t

def Env.ev (E : Env) : Operand → Option AV
  | .tmp t => Env.get E t
  | .const v => some (.lit v)
  | .global g => some (.lit (.pointer (some ⟨g, 0, none⟩)))
  | .func f => some (.fn (.func f) [])

theorem Env.get_hit (E : Env) (d : Nat) (v : AV) : Env.get ((d, v) :: E) d = some v := by
  have h : Nat.beq d d = true := Nat.beq_refl d
  simp only [Env.get, h]

theorem Env.get_miss (E : Env) {d t : Nat} (v : AV) (h : d ≠ t) : Env.get ((d, v) :: E) t = Env.get E t := by
  have h' : Nat.beq d t = false := by
    cases hb : Nat.beq d t with
    | false => rfl
    | true => exact absurd (Nat.eq_of_beq_eq_true hb) h
  simp only [Env.get, h']

/-- The slots hold what E says. -/
def Slots (A : Nat → Prop) (w : World) (E : Env) (tmps : Array Value) : Prop := ∀ t av, Env.get E t = some av → ∃ v, tmps[t]? = some v ∧ Rel A w av v

/-- The only calls deferred are marks of ranges over functions, whose rounds deferred none. -/
def Dq (C : Cx) (σ : List Res) (a : Act) (w : World) : Prop := ∃ Ds : List Nat, a.defers = Ds.map (fun D => { target := .collected D, args := #[] }) ∧ Ds.Nodup ∧
  ∀ D ∈ Ds, D < w.heap.size ∧ C.w0.heap.size ≤ D ∧ D ∉ blks σ ∧ w.heap[D]? = some (.deferred (some []))
theorem Dq.nil {C : Cx} {σ : List Res} {a : Act} {w : World} (h : a.defers = []) : Dq C σ a w := ⟨[], h, List.nodup_nil, fun _ h => by cases h⟩
theorem Dq.step {C : Cx} {σ σ' : List Res} {a : Act} {w w' : World} (h : Dq C σ a w) (hk : ∀ b, b < w.heap.size → al C σ b → al C σ' b ∧ w'.heap[b]? = w.heap[b]?) : Dq C σ' a w' := by
  obtain ⟨Ds, h1, h2, h3⟩ := h
  refine ⟨Ds, h1, h2, fun D hD => ?_⟩
  obtain ⟨q1, q2, q3, q4⟩ := h3 D hD
  obtain ⟨p1, p2⟩ := hk D q1 ⟨.inr (.inr q2), q3⟩
  have p3 := p2.trans q4
  exact ⟨(Array.getElem?_eq_some_iff.1 p3).1, q2, p1.2, p3⟩

structure Sim (C : Cx) (n : Nat) (E : Env) (σ : List Res) (a : Act) (w : World) : Prop where
  defers : Dq C σ a w
  size : a.tmps.size = n
  slots : Slots (al C σ) w E a.tmps
  good : Good C σ w

/-- what operands are -/
def Ops (A : Nat → Prop) (w : World) (E : Env) (ρ : Operand → Value) : Prop := ∀ x u, E.ev x = some u → Rel A w u (ρ x)

section
variable {C : Cx} {n : Nat} {E E' : Env} {σ σ' : List Res} {a : Act} {w w' : World} {x : Operand} {v : Value} {av : AV} {d : Nat} {A : Nat → Prop}

theorem Slots.ops (h : Slots A w E a.tmps) : Ops A w E a.eval := fun x u hx => by
  cases x with
  | tmp t =>
    obtain ⟨v, h1, h2⟩ := h t u hx
    simpa [Act.eval, h1] using h2
  | const u =>
    simp only [Env.ev, Option.some.injEq] at hx
    subst hx
    exact .lit _
  | global g =>
    simp only [Env.ev, Option.some.injEq] at hx
    subst hx
    exact .lit _
  | func f =>
    simp only [Env.ev, Option.some.injEq] at hx
    subst hx
    exact .fn _ [] [] rfl (fun j a v h => by cases h)

theorem Slots.put (h : Slots A w E a.tmps) (hd : d < a.tmps.size) (hv : Rel A w av v) : Slots A w ((d, av) :: E) (a.put (some d) v).tmps := fun t u ht => by
  by_cases hdt : d = t
  · subst hdt
    rw [Env.get_hit] at ht
    cases ht
    exact ⟨v, by simp [Act.put, hd], hv⟩
  · rw [Env.get_miss _ _ hdt] at ht
    obtain ⟨v', h1, h2⟩ := h t u ht
    exact ⟨v', by simp [Act.put, Array.getElem?_setIfInBounds_ne hdt, h1], h2⟩

theorem Slots.past (h : Slots A w E a.tmps) (hd : Env.get E d = none) (v : Value) : Slots A w E (a.put (some d) v).tmps := fun t u ht => by
  have hdt : d ≠ t := fun e => by rw [← e, hd] at ht; cases ht
  obtain ⟨v', h1, h2⟩ := h t u ht
  exact ⟨v', by simp [Act.put, Array.getElem?_setIfInBounds_ne hdt, h1], h2⟩

theorem Sim.put (h : Sim C n E σ a w) (hd : Nat.blt d n = true) (hv : Rel (al C σ) w av v) : Sim C n ((d, av) :: E) σ (a.put (some d) v) w :=
  ⟨h.defers, by simpa [Act.put] using h.size, h.slots.put (by rw [h.size]; simpa [Nat.blt_eq] using hd) hv, h.good⟩

theorem Sim.put_none (h : Sim C n E σ a w) (v : Value) : Sim C n E σ (a.put none v) w := h

theorem Sim.tr {X : List Nat} (h : Sim C n E σ a w) (t : Tr C X σ w σ' w') : Sim C n E σ' a w' :=
  ⟨h.defers.step t.keep, h.size, fun i u hi => let ⟨v, h1, h2⟩ := h.slots i u hi; ⟨v, h1, h2.mono t.keep⟩, t.good⟩

/-- Every entry of E is one of E'. -/
def Sub (E E' : Env) : Prop := ∀ t v, Env.get E t = some v → Env.get E' t = some v

theorem Sub.nil : Sub [] E := fun _ _ h => by cases h
theorem Sub.cons (h : Env.get E' d = some av) (hs : Sub E E') : Sub ((d, av) :: E) E' := fun t u ht => by
  by_cases hdt : d = t
  · subst hdt
    rw [Env.get_hit] at ht
    cases ht
    exact h
  · rw [Env.get_miss _ _ hdt] at ht
    exact hs t u ht
theorem Sub.refl : Sub E E := fun _ _ h => h
theorem Sub.trans {E1 E2 E3 : Env} (h : Sub E1 E2) (h' : Sub E2 E3) : Sub E1 E3 := fun t u ht => h' t u (h t u ht)

theorem Sim.sub (h : Sim C n E' σ a w) (hs : Sub E E') : Sim C n E σ a w := ⟨h.defers, h.size, fun t v ht => h.slots t v (hs t v ht), h.good⟩
end

/-! ### What operations do -/

/-- The resources hold, and no data lie in their blocks. -/
def Hd (A : Nat → Prop) (σ : List Res) (w : World) : Prop := (∀ r ∈ σ, r.ok A w) ∧ ∀ b ∈ blks σ, ¬ A b

theorem Good.hd {C : Cx} {σ : List Res} {w : World} (h : Good C σ w) : Hd (al C σ) σ w := ⟨h.res, fun _ hb hA => hA.2 hb⟩

section
variable (P : Program) (E : Env) (σ : List Res) (o : Oper)

/-- The operation yields av and leaves the world as it is, now and as long as nothing is written that it reads. -/
def Yp (av : AV) : Prop := ∀ (A : Nat → Prop) (w : World) (ρ : Operand → Value), Hd A σ w → Ops A w E ρ →
  ∃ v, Rel A w av v ∧ ∀ w' : World, (∀ b, b < w.heap.size → (A b ∨ b ∈ blks σ) → w'.heap[b]? = w.heap[b]?) → (execOp ρ o).run P w' = .ok (.value v) w'

/-- The operation yields something, and the state is one of N. -/
def Yv (C : Cx) (X : List Nat) (N : AV → List Res → Prop) : Prop := ∀ (w : World) (ρ : Operand → Value), Good C σ w → Ops (al C σ) w E ρ →
  ∃ v w' av σ', N av σ' ∧ Tr C X σ w σ' w' ∧ (execOp ρ o).run P w = .ok (.value v) w' ∧ Rel (al C σ') w' av v

/-- The operation yields nothing, and the resources are σ'. -/
def Yu (C : Cx) (X : List Nat) (σ' : List Res) : Prop := ∀ (w : World) (ρ : Operand → Value), Good C σ w → Ops (al C σ) w E ρ →
  ∃ w', Tr C X σ w σ' w' ∧ (execOp ρ o).run P w = .ok .skip w'

/-- The operation calls function f, whose results are of Φ. -/
def Yc (C : Cx) (X : List Nat) (N : AV → List Res → Prop) : Prop := ∀ (w : World) (ρ : Operand → Value), Good C σ w → Ops (al C σ) w E ρ →
  ∃ f args, (execOp ρ o).run P w = .ok (.enter f args) w ∧ Calls P f args w fun e w' => ∃ v av σ', e = .returned v ∧ N av σ' ∧ Tr C X σ w σ' w' ∧ Rel (al C σ') w' av v

/-- Is the operation wanted? -/
def Wants (ops : Array Oper) : Option Bool :=
  match o.guard with
  | none => some true
  | some (j, want) => match (ops[j]?).bind (·.dst) with
    | none => none
    | some t => match Env.get E t with
      | some (.lit (.bool b)) => some (b == want)
      | some (.lit (.tuple _)) => some false
      | _ => none
end

theorem Wants.spec {A : Nat → Prop} {w : World} {E : Env} {o : Oper} {ops : Array Oper} {tmps : Array Value} {b : Bool} (h : Slots A w E tmps) (hw : Wants E o ops = some b) : Region.wanted o (yielded ops tmps) = b := by
  unfold Wants at hw
  unfold Region.wanted
  cases hg : o.guard with
  | none => rw [hg] at hw; simpa using hw
  | some gw =>
    obtain ⟨j, want⟩ := gw
    rw [hg] at hw
    simp only at hw ⊢
    cases ht : (ops[j]?).bind (·.dst) with
    | none => rw [ht] at hw; cases hw
    | some t =>
      rw [ht] at hw
      simp only at hw
      cases he : Env.get E t with
      | none => rw [he] at hw; cases hw
      | some u =>
        obtain ⟨v, hv, hr⟩ := h t u he
        rw [he] at hw
        have hy : yielded ops tmps j = match v with | .bool b => some b | _ => none := by
          unfold yielded
          rw [ht]
          simp only [Option.bind_some, hv]
          cases v <;> rfl
        cases u with
        | lit u =>
          have hvu := hr.litEq
          subst hvu
          cases v <;> simp only at hw hy <;> first | (cases hw; done) | skip
          · rw [hy]; simpa using hw
          · rw [hy]; simp at hw; simp [← hw]
        | _ => cases hw

/-! ### Regions in the order of the text -/

def Q0 (C : Cx) (n : Nat) (K : Env → List Res → Prop) : Exit → Act → World → Prop := fun e a w => e = .normal ∧ ∃ E σ, Sim C n E σ a w ∧ K E σ
def Q1 (C : Cx) (n : Nat) (K : Env → List Res → Prop) (ds : List Deferred) : Exit → Act → World → Prop := fun e a w => e = .normal ∧ a.defers = ds ∧ ∃ E σ, Sim C n E σ a w ∧ K E σ

def RW (P : Program) (C : Cx) (n : Nat) (ops : Array Oper) (K : Env → List Res → Prop) (rest : List Oper) (E : Env) (σ : List Res) : Prop :=
  ∀ a w, Sim C n E σ a w → wpList P ops (Q1 C n K a.defers) rest a w

section
variable {P : Program} {C : Cx} {n : Nat} {ops : Array Oper} {K : Env → List Res → Prop} {rest : List Oper} {E E' : Env} {σ σ' : List Res} {o : Oper} {av : AV} {d : Nat} {X : List Nat} {N : AV → List Res → Prop}

theorem RW.nil (h : K E σ) : RW P C n ops K [] E σ := fun _ _ ha => ⟨rfl, rfl, E, σ, ha, h⟩

theorem RW.p (hg : Wants E o ops = some true) (hd : o.dst = some d) (hn : Nat.blt d n = true) (hr : Yp P E σ o av) (next : RW P C n ops K rest ((d, av) :: E) σ) : RW P C n ops K (o :: rest) E σ := by
  intro a w ha
  refine wpList_step fun K' hK => ?_
  rw [if_pos (Wants.spec ha.slots hg)]
  unfold Oper.wp
  obtain ⟨v, h1, h2⟩ := hr _ w a.eval ha.good.hd ha.slots.ops
  rw [h2 w (fun _ _ _ => rfl)]
  show K' (a.put o.dst v) w
  rw [hd]
  exact hK _ _ (next _ _ (ha.put hn h1))

theorem RW.v (hg : Wants E o ops = some true) (hd : o.dst = some d) (hn : Nat.blt d n = true) (hr : Yv P E σ o C X N) (next : ∀ av σ', N av σ' → RW P C n ops K rest ((d, av) :: E) σ') : RW P C n ops K (o :: rest) E σ := by
  intro a w ha
  refine wpList_step fun K' hK => ?_
  rw [if_pos (Wants.spec ha.slots hg)]
  unfold Oper.wp
  obtain ⟨v, w', av, σ', h1, h2, h3, h4⟩ := hr w a.eval ha.good ha.slots.ops
  rw [h3]
  show K' (a.put o.dst v) w'
  rw [hd]
  exact hK _ _ (next _ _ h1 _ _ ((ha.tr h2).put hn h4))

theorem RW.u (hg : Wants E o ops = some true) (hd : o.dst = none) (hr : Yu P E σ o C X σ') (next : RW P C n ops K rest E σ') : RW P C n ops K (o :: rest) E σ := by
  intro a w ha
  refine wpList_step fun K' hK => ?_
  rw [if_pos (Wants.spec ha.slots hg)]
  unfold Oper.wp
  obtain ⟨w', h2, h3⟩ := hr w a.eval ha.good ha.slots.ops
  rw [h3]
  show K' (a.put o.dst undef) w'
  rw [hd]
  exact hK _ _ (next _ _ (ha.tr h2))

theorem RW.skip (hg : Wants E o ops = some false) (hd : o.dst = some d) (hn : Nat.blt d n = true) (next : RW P C n ops K rest ((d, .lit undef) :: E) σ) : RW P C n ops K (o :: rest) E σ := by
  intro a w ha
  refine wpList_step fun K' hK => ?_
  rw [if_neg (by rw [Wants.spec ha.slots hg]; exact Bool.false_ne_true), hd]
  exact hK _ _ (next _ _ (ha.put hn (.lit _)))

theorem RW.skip' (hg : Wants E o ops = some false) (hd : o.dst = none) (next : RW P C n ops K rest E σ) : RW P C n ops K (o :: rest) E σ := by
  intro a w ha
  refine wpList_step fun K' hK => ?_
  rw [if_neg (by rw [Wants.spec ha.slots hg]; exact Bool.false_ne_true), hd]
  exact hK _ _ (next _ _ ha)

theorem RW.c (hg : Wants E o ops = some true) (hd : o.dst = some d) (hn : Nat.blt d n = true) (hr : Yc P E σ o C X N) (next : ∀ av σ', N av σ' → RW P C n ops K rest ((d, av) :: E) σ') : RW P C n ops K (o :: rest) E σ := by
  intro a w ha
  refine wpList_step fun K' hK => ?_
  rw [if_pos (Wants.spec ha.slots hg)]
  unfold Oper.wp
  obtain ⟨f, args, h1, h2⟩ := hr w a.eval ha.good ha.slots.ops
  rw [h1]
  refine Calls.mono h2 fun e w' he => ?_
  obtain ⟨v, av, σ', rfl, h3, h4, h5⟩ := he
  show K' (a.put o.dst v) w'
  rw [hd]
  exact hK _ _ (next _ _ h3 _ _ ((ha.tr h4).put hn h5))

theorem RW.c' (hg : Wants E o ops = some true) (hd : o.dst = none) (hr : Yc P E σ o C X N) (next : ∀ av σ', N av σ' → RW P C n ops K rest E σ') : RW P C n ops K (o :: rest) E σ := by
  intro a w ha
  refine wpList_step fun K' hK => ?_
  rw [if_pos (Wants.spec ha.slots hg)]
  unfold Oper.wp
  obtain ⟨f, args, h1, h2⟩ := hr w a.eval ha.good ha.slots.ops
  rw [h1]
  refine Calls.mono h2 fun e w' he => ?_
  obtain ⟨v, av, σ', rfl, h3, h4, h5⟩ := he
  show K' (a.put o.dst v) w'
  rw [hd]
  exact hK _ _ (next _ _ h3 _ _ (ha.tr h4))
end

/-! ### Regions that draw their order -/

/-- What stands at the beginning of a region: world w1, data in A1, resources σS that the region does not write. -/
structure Bs (X : List Nat) (A1 : Nat → Prop) (w1 : World) (σS : List Res) : Prop where
  hd : Hd A1 σS w1
  nA : ∀ b, A1 b → b ∉ X
  nS : ∀ b ∈ blks σS, b ∉ X

def S1 (X : List Nat) (w1 w : World) : Prop := w1.heap.size ≤ w.heap.size ∧ ∀ b, b < w1.heap.size → b ∉ X → w.heap[b]? = w1.heap[b]?

def RH (P : Program) (C : Cx) (n : Nat) (ops : Array Oper) (X : List Nat) (A1 : Nat → Prop) (w1 : World) (K : Env → List Res → Prop) (fuel : Nat) (listed : Array Bool) (Eb E : Env) (σ : List Res) : Prop :=
  ∀ a w, Sim C n E σ a w → Slots A1 w1 Eb a.tmps → S1 X w1 w → (∀ b, b < w1.heap.size → A1 b → al C σ b) → wpAnyH P .any ops (Q0 C n K) (S1 X w1) fuel listed a w

/-- Operation number i is carried out. -/
def RO (P : Program) (C : Cx) (n : Nat) (ops : Array Oper) (X : List Nat) (A1 : Nat → Prop) (w1 : World) (K : Env → List Res → Prop) (fuel : Nat) (listed : Array Bool) (i : Nat) (Eb E : Env) (σ : List Res) : Prop :=
  ∀ a w, Sim C n E σ a w → Slots A1 w1 Eb a.tmps → S1 X w1 w → (∀ b, b < w1.heap.size → A1 b → al C σ b) →
    wpOp P ops (Q0 C n K) i (fun a' w' => S1 X w1 w' ∧ wpAnyH P .any ops (Q0 C n K) (S1 X w1) fuel (listed.setIfInBounds i true) a' w') a w

section
variable {P : Program} {C : Cx} {n : Nat} {ops : Array Oper} {X X' : List Nat} {A1 : Nat → Prop} {w1 : World} {σS : List Res} {K : Env → List Res → Prop} {fuel : Nat} {listed : Array Bool} {i : Nat} {Eb E : Env} {σ σ' : List Res} {o : Oper} {av : AV} {d : Nat} {N : AV → List Res → Prop}

theorem RH.done (hr : Region.ready .any ops listed = []) (h : K E σ) : RH P C n ops X A1 w1 K fuel listed Eb E σ := fun _ _ ha _ _ _ => wpAnyH_done hr ⟨rfl, E, σ, ha, h⟩ _

theorem RH.take (i : Nat) (hi : ops[i]? = some o) (hf : (Region.noSelect ops && Region.free .any ops listed i && (Region.ready .any ops listed).contains i) = true)
    (hg : Wants E o ops = some true) (hd : o.dst = some d) (hn : Nat.blt d n = true) (hB : Bs X A1 w1 σS) (hy : Yp P Eb σS o av)
    (next : RH P C n ops X A1 w1 K fuel (listed.setIfInBounds i true) ((d, av) :: Eb) ((d, av) :: E) σ) : RH P C n ops X A1 w1 K (fuel + 1) listed Eb E σ := by
  intro a w ha hb hS hA
  simp only [Bool.and_eq_true] at hf
  obtain ⟨⟨h1, h2⟩, h3⟩ := hf
  obtain ⟨v, h4, h5⟩ := hy A1 w1 a.eval hB.hd hb.ops
  refine wpAnyH_take hi h1 h2 h3 (fun c a w h => by cases h.1) (.inl ⟨Wants.spec ha.slots hg, fun w' hw' => h5 w' (fun b hb hc => hw'.2 b hb (hc.elim (hB.nA b) (hB.nS b)))⟩) hS ?_
  rw [hd]
  have hlt : d < a.tmps.size := by rw [ha.size]; simpa [Nat.blt_eq] using hn
  exact next _ _ (ha.put hn (h4.mono fun b hb hc => ⟨hA b hb hc, hS.2 b hb (hB.nA b hc)⟩)) (hb.put hlt h4) hS hA

theorem RH.pass (i : Nat) (hi : ops[i]? = some o) (hf : (Region.noSelect ops && Region.free .any ops listed i && (Region.ready .any ops listed).contains i) = true)
    (hg : Wants E o ops = some false) (hd : o.dst = some d) (hn : Nat.blt d n = true)
    (next : RH P C n ops X A1 w1 K fuel (listed.setIfInBounds i true) ((d, .lit undef) :: Eb) ((d, .lit undef) :: E) σ) : RH P C n ops X A1 w1 K (fuel + 1) listed Eb E σ := by
  intro a w ha hb hS hA
  simp only [Bool.and_eq_true] at hf
  obtain ⟨⟨h1, h2⟩, h3⟩ := hf
  refine wpAnyH_take hi h1 h2 h3 (fun c a w h => by cases h.1) (.inr ⟨Wants.spec ha.slots hg, rfl⟩) hS ?_
  rw [hd]
  have hlt : d < a.tmps.size := by rw [ha.size]; simpa [Nat.blt_eq] using hn
  exact next _ _ (ha.put hn (.lit _)) (hb.put hlt (.lit _)) hS hA

theorem RH.one (i : Nat) (hr : Region.ready .any ops listed = [i]) (h : RO P C n ops X A1 w1 K fuel listed i Eb E σ) : RH P C n ops X A1 w1 K (fuel + 1) listed Eb E σ := fun a w ha hb hS hA =>
  wpAnyH_all hr (by simp) fun j hj => by
    rw [List.mem_singleton] at hj
    subst hj
    exact h a w ha hb hS hA

theorem RH.two (i j : Nat) (hr : Region.ready .any ops listed = [i, j]) (h : RO P C n ops X A1 w1 K fuel listed i Eb E σ) (h' : RO P C n ops X A1 w1 K fuel listed j Eb E σ) : RH P C n ops X A1 w1 K (fuel + 1) listed Eb E σ := fun a w ha hb hS hA =>
  wpAnyH_all hr (by simp) fun k hk => by
    rcases List.mem_cons.1 hk with rfl | hk
    · exact h a w ha hb hS hA
    · rw [List.mem_singleton] at hk
      subst hk
      exact h' a w ha hb hS hA

theorem RH.three (i j k : Nat) (hr : Region.ready .any ops listed = [i, j, k]) (h : RO P C n ops X A1 w1 K fuel listed i Eb E σ) (h' : RO P C n ops X A1 w1 K fuel listed j Eb E σ) (h'' : RO P C n ops X A1 w1 K fuel listed k Eb E σ) : RH P C n ops X A1 w1 K (fuel + 1) listed Eb E σ := fun a w ha hb hS hA =>
  wpAnyH_all hr (by simp) fun l hl => by
    rcases List.mem_cons.1 hl with rfl | hl
    · exact h a w ha hb hS hA
    · rcases List.mem_cons.1 hl with rfl | hl
      · exact h' a w ha hb hS hA
      · rw [List.mem_singleton] at hl
        subst hl
        exact h'' a w ha hb hS hA

theorem S1.step {w w' : World} (h : S1 X w1 w) (hk : Kp X' w w') (hX : ∀ b ∈ X', b ∈ X) : S1 X w1 w' :=
  ⟨Nat.le_trans h.1 hk.size, fun b hb hn => (hk.block b (Nat.lt_of_lt_of_le hb h.1) (fun hx => hn (hX b hx))).trans (h.2 b hb hn)⟩

theorem RO.p (hi : ops[i]? = some o) (hg : Wants E o ops = some true) (hd : o.dst = some d) (hn : Nat.blt d n = true) (he : Env.get Eb d = none) (hr : Yp P E σ o av)
    (next : RH P C n ops X A1 w1 K fuel (listed.setIfInBounds i true) Eb ((d, av) :: E) σ) : RO P C n ops X A1 w1 K fuel listed i Eb E σ := by
  intro a w ha hb hS hA
  unfold wpOp
  rw [hi]
  show if Region.wanted o (yielded ops a.tmps) = true then _ else _
  rw [if_pos (Wants.spec ha.slots hg)]
  refine .inl ?_
  unfold Oper.wp
  obtain ⟨v, h1, h2⟩ := hr _ w a.eval ha.good.hd ha.slots.ops
  rw [h2 w (fun _ _ _ => rfl)]
  show S1 X w1 w ∧ wpAnyH P .any ops (Q0 C n K) (S1 X w1) fuel (listed.setIfInBounds i true) (a.put o.dst v) w
  rw [hd]
  exact ⟨hS, next _ _ (ha.put hn h1) (hb.past he v) hS hA⟩

theorem RO.v (hi : ops[i]? = some o) (hg : Wants E o ops = some true) (hd : o.dst = some d) (hn : Nat.blt d n = true) (he : Env.get Eb d = none) (hr : Yv P E σ o C X' N) (hX : ∀ b ∈ X', b ∈ X)
    (next : ∀ av σ', N av σ' → RH P C n ops X A1 w1 K fuel (listed.setIfInBounds i true) Eb ((d, av) :: E) σ') : RO P C n ops X A1 w1 K fuel listed i Eb E σ := by
  intro a w ha hb hS hA
  unfold wpOp
  rw [hi]
  show if Region.wanted o (yielded ops a.tmps) = true then _ else _
  rw [if_pos (Wants.spec ha.slots hg)]
  refine .inl ?_
  unfold Oper.wp
  obtain ⟨v, w', av, σ', h1, h2, h3, h4⟩ := hr w a.eval ha.good ha.slots.ops
  rw [h3]
  show S1 X w1 w' ∧ wpAnyH P .any ops (Q0 C n K) (S1 X w1) fuel (listed.setIfInBounds i true) (a.put o.dst v) w'
  rw [hd]
  have hS' := hS.step h2.kp hX
  exact ⟨hS', next _ _ h1 _ _ ((ha.tr h2).put hn h4) (hb.past he v) hS' (fun b hb hc => (h2.al b (Nat.lt_of_lt_of_le hb hS.1) (hA b hb hc)).1)⟩

theorem RO.u (hi : ops[i]? = some o) (hg : Wants E o ops = some true) (hd : o.dst = none) (hr : Yu P E σ o C X' σ') (hX : ∀ b ∈ X', b ∈ X)
    (next : RH P C n ops X A1 w1 K fuel (listed.setIfInBounds i true) Eb E σ') : RO P C n ops X A1 w1 K fuel listed i Eb E σ := by
  intro a w ha hb hS hA
  unfold wpOp
  rw [hi]
  show if Region.wanted o (yielded ops a.tmps) = true then _ else _
  rw [if_pos (Wants.spec ha.slots hg)]
  refine .inl ?_
  unfold Oper.wp
  obtain ⟨w', h2, h3⟩ := hr w a.eval ha.good ha.slots.ops
  rw [h3]
  show S1 X w1 w' ∧ wpAnyH P .any ops (Q0 C n K) (S1 X w1) fuel (listed.setIfInBounds i true) (a.put o.dst undef) w'
  rw [hd]
  have hS' := hS.step h2.kp hX
  exact ⟨hS', next _ _ (ha.tr h2) hb hS' (fun b hb hc => (h2.al b (Nat.lt_of_lt_of_le hb hS.1) (hA b hb hc)).1)⟩

theorem RO.skip (hi : ops[i]? = some o) (hg : Wants E o ops = some false) (hd : o.dst = some d) (hn : Nat.blt d n = true) (he : Env.get Eb d = none)
    (next : RH P C n ops X A1 w1 K fuel (listed.setIfInBounds i true) Eb ((d, .lit undef) :: E) σ) : RO P C n ops X A1 w1 K fuel listed i Eb E σ := by
  intro a w ha hb hS hA
  unfold wpOp
  rw [hi]
  show if Region.wanted o (yielded ops a.tmps) = true then _ else _
  rw [if_neg (by rw [Wants.spec ha.slots hg]; exact Bool.false_ne_true), hd]
  exact ⟨hS, next _ _ (ha.put hn (.lit _)) (hb.past he _) hS hA⟩

theorem RO.skip' (hi : ops[i]? = some o) (hg : Wants E o ops = some false) (hd : o.dst = none)
    (next : RH P C n ops X A1 w1 K fuel (listed.setIfInBounds i true) Eb E σ) : RO P C n ops X A1 w1 K fuel listed i Eb E σ := by
  intro a w ha hb hS hA
  unfold wpOp
  rw [hi]
  show if Region.wanted o (yielded ops a.tmps) = true then _ else _
  rw [if_neg (by rw [Wants.spec ha.slots hg]; exact Bool.false_ne_true), hd]
  exact ⟨hS, next _ _ ha hb hS hA⟩

theorem RO.c (hi : ops[i]? = some o) (hg : Wants E o ops = some true) (hd : o.dst = some d) (hn : Nat.blt d n = true) (he : Env.get Eb d = none) (hr : Yc P E σ o C X' N) (hX : ∀ b ∈ X', b ∈ X)
    (next : ∀ av σ', N av σ' → RH P C n ops X A1 w1 K fuel (listed.setIfInBounds i true) Eb ((d, av) :: E) σ') : RO P C n ops X A1 w1 K fuel listed i Eb E σ := by
  intro a w ha hb hS hA
  unfold wpOp
  rw [hi]
  show if Region.wanted o (yielded ops a.tmps) = true then _ else _
  rw [if_pos (Wants.spec ha.slots hg)]
  refine .inl ?_
  unfold Oper.wp
  obtain ⟨f, args, h1, h2⟩ := hr w a.eval ha.good ha.slots.ops
  rw [h1]
  refine Calls.mono h2 fun e w' hr => ?_
  obtain ⟨v, av, σ', rfl, h3, h4, h5⟩ := hr
  show S1 X w1 w' ∧ wpAnyH P .any ops (Q0 C n K) (S1 X w1) fuel (listed.setIfInBounds i true) (a.put o.dst v) w'
  rw [hd]
  have hS' := hS.step h4.kp hX
  exact ⟨hS', next _ _ h3 _ _ ((ha.tr h4).put hn h5) (hb.past he v) hS' (fun b hb hc => (h4.al b (Nat.lt_of_lt_of_le hb hS.1) (hA b hb hc)).1)⟩

theorem RO.c' (hi : ops[i]? = some o) (hg : Wants E o ops = some true) (hd : o.dst = none) (hr : Yc P E σ o C X' N) (hX : ∀ b ∈ X', b ∈ X)
    (next : ∀ av σ', N av σ' → RH P C n ops X A1 w1 K fuel (listed.setIfInBounds i true) Eb E σ') : RO P C n ops X A1 w1 K fuel listed i Eb E σ := by
  intro a w ha hb hS hA
  unfold wpOp
  rw [hi]
  show if Region.wanted o (yielded ops a.tmps) = true then _ else _
  rw [if_pos (Wants.spec ha.slots hg)]
  refine .inl ?_
  unfold Oper.wp
  obtain ⟨f, args, h1, h2⟩ := hr w a.eval ha.good ha.slots.ops
  rw [h1]
  refine Calls.mono h2 fun e w' hr => ?_
  obtain ⟨v, av, σ', rfl, h3, h4, h5⟩ := hr
  show S1 X w1 w' ∧ wpAnyH P .any ops (Q0 C n K) (S1 X w1) fuel (listed.setIfInBounds i true) (a.put o.dst v) w'
  rw [hd]
  have hS' := hS.step h4.kp hX
  exact ⟨hS', next _ _ h3 _ _ (ha.tr h4) hb hS' (fun b hb hc => (h4.al b (Nat.lt_of_lt_of_le hb hS.1) (hA b hb hc)).1)⟩
end

/-! ### Code -/

def CW (P : Program) (C : Cx) (n : Nat) (c : Code) (Q : Exit → Env → List Res → Prop) (E : Env) (σ : List Res) : Prop :=
  ∀ a w, Sim C n E σ a w → c.wp P (fun e a' w' => ∃ E' σ', Sim C n E' σ' a' w' ∧ Q e E' σ') a w

def SeqQ (P : Program) (C : Cx) (n : Nat) (y : Code) (Q : Exit → Env → List Res → Prop) : Exit → Env → List Res → Prop
  | .normal, E, σ => CW P C n y Q E σ
  | e, E, σ => Q e E σ

def CutQ (K : Env → List Res → Prop) (Q : Exit → Env → List Res → Prop) : Exit → Env → List Res → Prop
  | .normal, E, σ => K E σ
  | e, E, σ => Q e E σ

def BlockQ (id : Nat) (Q : Exit → Env → List Res → Prop) : Exit → Env → List Res → Prop
  | .exit id', E, σ => match Nat.beq id' id with
    | true => Q .normal E σ
    | false => Q (.exit id') E σ
  | e, E, σ => Q e E σ

def LoopQ {α : Type 1} (R : α → Nat → Env → List Res → Prop) (k : Nat) (Q : Exit → Env → List Res → Prop) : Exit → Env → List Res → Prop
  | .normal, E, σ => ∃ x k', k' < k ∧ R x k' E σ
  | e, E, σ => Q e E σ

section
variable {P : Program} {C : Cx} {n : Nat} {c x y : Code} {Q Q' : Exit → Env → List Res → Prop} {E E' : Env} {σ σ' : List Res}

theorem CW.weak (h : CW P C n c Q E σ) (hs : Sub E E') : CW P C n c Q E' σ := fun a w ha => h a w (ha.sub hs)

theorem CW.mono (h : CW P C n c Q E σ) (hq : ∀ e E σ, Q e E σ → Q' e E σ) : CW P C n c Q' E σ := fun a w ha =>
  wp_mono (h a w ha) fun _ _ _ ⟨E', σ', h1, h2⟩ => ⟨E', σ', h1, hq _ _ _ h2⟩

theorem CW.seq (h : CW P C n x (SeqQ P C n y Q) E σ) : CW P C n (.seq x y) Q E σ := fun a w ha => by
  refine wp_seq (wp_mono (h a w ha) fun e a' w' ⟨E', σ', h1, h2⟩ => ?_)
  cases e with
  | normal => exact h2 a' w' h1
  | _ => exact ⟨E', σ', h1, h2⟩

/-- What stands behind is shown once, of all that K says. -/
theorem CW.cut (K : Env → List Res → Prop) (first : CW P C n c (CutQ K Q) E σ) (rest : ∀ E σ, K E σ → Q .normal E σ) : CW P C n c Q E σ :=
  CW.mono first fun e E σ h => by cases e <;> first | exact rest E σ h | exact h

theorem CW.block {id : Nat} (h : CW P C n c (BlockQ id Q) E σ) : CW P C n (.block id c) Q E σ := fun a w ha => by
  refine wp_block (wp_mono (h a w ha) fun e a' w' ⟨E', σ', h1, h2⟩ => ?_)
  cases e with
  | exit id' =>
    simp only [BlockQ] at h2
    simp only [Exit.inBlock]
    split
    · rename_i he
      subst he
      have hb : Nat.beq id' id' = true := Nat.beq_refl _
      simp only [hb] at h2
      exact ⟨E', σ', h1, h2⟩
    · rename_i he
      have hb : Nat.beq id' id = false := by
        cases hb : Nat.beq id' id with
        | false => rfl
        | true => exact absurd (Nat.eq_of_beq_eq_true hb) he
      simp only [hb] at h2
      exact ⟨E', σ', h1, h2⟩
  | _ => exact ⟨E', σ', h1, h2⟩

theorem CW.exit {id : Nat} (h : Q (.exit id) E σ) : CW P C n (.exit id) Q E σ := fun _ _ ha => wp_exit ⟨E, σ, ha, h⟩
theorem CW.ret (h : Q .ret E σ) : CW P C n .ret Q E σ := fun _ _ ha => wp_ret ⟨E, σ, ha, h⟩
theorem CW.skip (h : Q .normal E σ) : CW P C n .skip Q E σ := fun _ _ ha => wp_skip ⟨E, σ, ha, h⟩

theorem ev_bool {a : Act} {w : World} {cnd : Operand} {b : Bool} (ha : Sim C n E σ a w) (hc : E.ev cnd = some (.lit (.bool b))) : a.eval cnd = .bool b := by
  exact (ha.slots.ops _ _ hc).litEq

theorem CW.cond {cnd : Operand} {b : Bool} (hc : E.ev cnd = some (.lit (.bool b))) (ht : b = true → CW P C n x Q E σ) (hf : b = false → CW P C n y Q E σ) : CW P C n (.cond cnd x y) Q E σ := fun a w ha => by
  have he := ev_bool ha hc
  cases b with
  | true => exact wp_cond_true he (ht rfl a w ha)
  | false => exact wp_cond_false he (hf rfl a w ha)
theorem CW.condT {cnd : Operand} (hc : E.ev cnd = some (.lit (.bool true))) (ht : CW P C n x Q E σ) : CW P C n (.cond cnd x y) Q E σ := fun a w ha => wp_cond_true (ev_bool ha hc) (ht a w ha)
theorem CW.condF {cnd : Operand} (hc : E.ev cnd = some (.lit (.bool false))) (ht : CW P C n y Q E σ) : CW P C n (.cond cnd x y) Q E σ := fun a w ha => wp_cond_false (ev_bool ha hc) (ht a w ha)

/-- R x k E σ: the loop begins a round with k to go. -/
theorem CW.loop {α : Type 1} (R : α → Nat → Env → List Res → Prop) (x0 : α) (k0 : Nat) (h0 : R x0 k0 E σ)
    (h : ∀ x k E σ, R x k E σ → CW P C n c (LoopQ R k Q) E σ) : CW P C n (.loop c) Q E σ := fun a w ha => by
  intro b kk cs
  have key : ∀ k a w, (∃ x E σ, R x k E σ ∧ Sim C n E σ a w) →
      ∃ e a' w', (∃ E' σ', Sim C n E' σ' a' w' ∧ Q e E' σ') ∧ Arrives P (lone (b.at a (.code c :: .inLoop c :: kk)) cs w) b kk cs e a' w' := by
    intro k
    induction k using Nat.strongRecOn with
    | _ k ih =>
      intro a w ⟨x, E, σ, hR, hE⟩
      obtain ⟨e, a₁, w₁, ⟨E', σ', hE', hq⟩, harr⟩ := h x k E σ hR a w hE b (.inLoop c :: kk) cs
      cases e with
      | normal =>
        obtain ⟨x', k', hlt, hR'⟩ := hq
        obtain ⟨e₂, a₂, w₂, hq₂, harr₂⟩ := ih k' hlt a₁ w₁ ⟨x', E', σ', hR', hE'⟩
        exact ⟨e₂, a₂, w₂, hq₂, .of_steps (Steps.trans harr (.one step_inLoop)) harr₂⟩
      | exit id => exact ⟨_, a₁, w₁, ⟨E', σ', hE', hq⟩, .pass (x := .inLoop c) rfl (fun _ _ => .inl (by simp)) harr⟩
      | goto l => exact ⟨_, a₁, w₁, ⟨E', σ', hE', hq⟩, .pass (x := .inLoop c) rfl (fun _ _ => .inl (by simp)) harr⟩
      | ret => exact ⟨_, a₁, w₁, ⟨E', σ', hE', hq⟩, .pass (x := .inLoop c) rfl (fun _ _ => .inl (by simp)) harr⟩
      | panic ch => exact ⟨_, a₁, w₁, ⟨E', σ', hE', hq⟩, .pass (x := .inLoop c) rfl (fun _ _ => .inl (by simp)) harr⟩
      | outgrown => exact ⟨_, a₁, w₁, ⟨E', σ', hE', hq⟩, .pass (x := .inLoop c) rfl (fun _ _ => .inl (by simp)) harr⟩
  obtain ⟨e, a', w', hq, harr⟩ := key k0 a w ⟨x0, E, σ, h0, ha⟩
  exact ⟨e, a', w', hq, .of_steps (.one step_loop) harr⟩

theorem CW.region {id : Nat} {l : List Oper} (h : RW P C n l.toArray (fun E' σ' => Q .normal E' σ') l E σ) : CW P C n (.region id l.toArray false) Q E σ := fun a w ha => by
  refine wp_mono (wp_region_lit (h a w ha)) fun e a' w' ⟨he, _, E', σ', h1, h2⟩ => ?_
  subst he
  exact ⟨E', σ', h1, h2⟩

theorem Good.drew {w : World} (h : Good C σ w) : Good C σ w.drew :=
  ⟨h.kept.trans (Kp.drew w) (by simp), fun r hr => (h.res r hr).mono (fun b _ hA => ⟨hA, rfl⟩) (fun _ _ => rfl), h.dis, h.own⟩

theorem Sim.drew {a : Act} {w : World} (h : Sim C n E σ a w) : Sim C n E σ a w.drew :=
  ⟨h.defers, h.size, fun i u hi => let ⟨v, h1, h2⟩ := h.slots i u hi; ⟨v, h1, h2.mono fun _ _ hA => ⟨hA, rfl⟩⟩, h.good.drew⟩

/-- X: the blocks that the region writes; σS: resources whose blocks are none of those. -/
theorem CW.draw {id : Nat} {l : List Oper} (N : Nat) (hN : l.toArray.size = N) (X : List Nat) (σS : List Res) (hX : ∀ b ∈ X, b ∈ blks σ) (hS : ∀ r ∈ σS, r ∈ σ) (hd : (blks σ).Nodup → ∀ b ∈ blks σS, b ∉ X) (hm : P.follows .mixedOrders = true)
    (h : ∀ A1 w1, Bs X A1 w1 σS → RH P C n l.toArray X A1 w1 (fun E' σ' => Q .normal E' σ') N (Array.replicate N false) E E σ) : CW P C n (.region id l.toArray true) Q E σ := fun a w ha => by
  subst hN
  have hb : Bs X (al C σ) w.drew σS := ⟨⟨fun r hr => ha.drew.good.res r (hS r hr), fun b hb hA => hA.2 (by
      obtain ⟨r, h1, h2⟩ := mem_blks.1 hb
      exact mem_blks.2 ⟨r, hS r h1, h2⟩)⟩, fun b hA hx => hA.2 (hX b hx), hd ha.good.dis⟩
  refine wp_mono (wp_region_held (S := S1 X w.drew) hm (h _ _ hb a w.drew ha.drew ha.drew.slots ⟨Nat.le_refl _, fun _ _ _ => rfl⟩ (fun b _ h => h))) fun e a' w' ⟨he, E', σ', h1, h2⟩ => ?_
  subst he
  exact ⟨E', σ', h1, h2⟩

/-! ### What is known, said otherwise -/

theorem blks_sub {σ σ' : List Res} (h : ∀ r ∈ σ', r ∈ σ) : ∀ b ∈ blks σ', b ∈ blks σ := fun b hb => by
  obtain ⟨r, h1, h2⟩ := mem_blks.1 hb
  exact mem_blks.2 ⟨r, h r h1, h2⟩

theorem Sim.less {a : Act} {w : World} (h : Sim C n E σ a w) (hs : List.Sublist σ' σ) : Sim C n E σ' a w := by
  have hm : ∀ r ∈ σ', r ∈ σ := fun r hr => hs.subset hr
  have hal : ∀ b, al C σ b → al C σ' b := fun b hb => ⟨hb.1, fun hx => hb.2 (blks_sub hm b hx)⟩
  exact ⟨h.defers.step (fun b _ hA => ⟨hal b hA, rfl⟩), h.size, fun i u hi => let ⟨v, h1, h2⟩ := h.slots i u hi; ⟨v, h1, h2.mono fun b _ hA => ⟨hal b hA, rfl⟩⟩,
    ⟨h.good.kept, fun r hr => (h.good.res r (hm r hr)).mono (fun b _ hA => ⟨hal b hA, rfl⟩) (fun _ _ => rfl), h.good.dis.sublist (hs.filterMap _), fun b hb => h.good.own b (blks_sub hm b hb)⟩⟩

theorem Sim.perm {a : Act} {w : World} (h : Sim C n E σ a w) (hp : List.Perm σ σ') : Sim C n E σ' a w := by
  have hb : ∀ b, b ∈ blks σ' ↔ b ∈ blks σ := fun b => (hp.filterMap _).symm.mem_iff
  have hal : ∀ b, al C σ b → al C σ' b := fun b hA => ⟨hA.1, fun hx => hA.2 ((hb b).1 hx)⟩
  exact ⟨h.defers.step (fun b _ hA => ⟨hal b hA, rfl⟩), h.size, fun i u hi => let ⟨v, h1, h2⟩ := h.slots i u hi; ⟨v, h1, h2.mono fun b _ hA => ⟨hal b hA, rfl⟩⟩,
    ⟨h.good.kept, fun r hr => (h.good.res r (hp.mem_iff.2 hr)).mono (fun b _ hA => ⟨hal b hA, rfl⟩) (fun _ _ => rfl), (hp.filterMap _).nodup_iff.1 h.good.dis, fun b hx => h.good.own b ((hb b).1 hx)⟩⟩

theorem CW.less (hs : List.Sublist σ' σ) (h : CW P C n c Q E σ') : CW P C n c Q E σ := fun a w ha => h a w (ha.less hs)
theorem CW.perm (hs : List.Perm σ σ') (h : CW P C n c Q E σ') : CW P C n c Q E σ := fun a w ha => h a w (ha.perm hs)
end
end Go.Ab
