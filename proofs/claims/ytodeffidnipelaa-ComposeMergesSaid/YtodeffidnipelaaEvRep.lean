/- How data lie in memory: integers, slices, slices of slices, with the blocks between which they lie. Program-independent. -/
import Derived.Test.YtodeffidnipelaaEvMem
namespace Go.Ev
open Go Go.RowKit

/-- What a function returns. -/
def Ret (Φ : Value → World → Prop) : Ending → World → Prop := fun e w => ∃ v, e = .returned v ∧ Φ v w

/-- The value is a slice of one-cell elements that read as l; its cells lie in blocks from lo on and below hi. -/
def Sl {α : Type} [Inhabited α] (R : World → Value → α → Prop) (lo hi : Nat) (w : World) (v : Value) (l : List α) : Prop :=
  ∃ p c, v = .slice p l.length c ∧ l.length ≤ 9223372036854775807 ∧ ∀ i, i < l.length → ∃ b off x, p = some ⟨b, off, none⟩ ∧ lo ≤ b ∧ b < hi ∧ w.cell? ⟨b, off + i, none⟩ = some x ∧ R w x (l[i]!)

def RI : World → Value → Int → Prop := fun _ v n => v = .int .i64 n
def RInts (lo hi : Nat) : World → Value → List Int → Prop := Sl RI lo hi
def RRows (lo hi : Nat) : World → Value → List (List Int) → Prop := Sl (RInts lo hi) lo hi

/-- The blocks between lo and hi are as they were. -/
def Kept (lo hi : Nat) (w w' : World) : Prop := ∀ b, lo ≤ b → b < hi → w'.heap[b]? = w.heap[b]?

theorem Kept.cell {lo hi : Nat} {w w' : World} (h : Kept lo hi w w') {b o : Nat} (h1 : lo ≤ b) (h2 : b < hi) : w'.cell? ⟨b, o, none⟩ = w.cell? ⟨b, o, none⟩ :=
  World.cell?_of_block (w := w) (h b h1 h2)

theorem Sl.mono {α : Type} [Inhabited α] {R : World → Value → α → Prop} {lo hi : Nat} {w w' : World} {v : Value} {l : List α} (h : Sl R lo hi w v l)
    (hk : Kept lo hi w w') (hR : ∀ x a, R w x a → R w' x a) : Sl R lo hi w' v l := by
  obtain ⟨p, c, hv, hl, hc⟩ := h
  refine ⟨p, c, hv, hl, fun i hi => ?_⟩
  obtain ⟨b, off, x, hp, h1, h2, hx, hr⟩ := hc i hi
  exact ⟨b, off, x, hp, h1, h2, by rw [hk.cell h1 h2]; exact hx, hR _ _ hr⟩

theorem Sl.wide {α : Type} [Inhabited α] {R R' : World → Value → α → Prop} {lo hi lo' hi' : Nat} {w : World} {v : Value} {l : List α} (h : Sl R lo hi w v l) (h1 : lo' ≤ lo) (h2 : hi ≤ hi')
    (hR : ∀ x a, R w x a → R' w x a) : Sl R' lo' hi' w v l := by
  obtain ⟨p, c, hv, hl, hc⟩ := h
  refine ⟨p, c, hv, hl, fun i hi => ?_⟩
  obtain ⟨b, off, x, hp, h3, h4, hx, hr⟩ := hc i hi
  exact ⟨b, off, x, hp, Nat.le_trans h1 h3, Nat.lt_of_lt_of_le h4 h2, hx, hR _ _ hr⟩

section
variable {lo hi lo' hi' : Nat} {w w' : World} {v : Value} {l : List Int} {m : List (List Int)}
theorem RInts.mono (h : RInts lo hi w v l) (hk : Kept lo hi w w') : RInts lo hi w' v l := Sl.mono h hk fun _ _ h => h
theorem RInts.wide (h : RInts lo hi w v l) (h1 : lo' ≤ lo) (h2 : hi ≤ hi') : RInts lo' hi' w v l := Sl.wide h h1 h2 fun _ _ h => h
theorem RRows.mono (h : RRows lo hi w v m) (hk : Kept lo hi w w') : RRows lo hi w' v m := Sl.mono h hk fun _ _ h => RInts.mono h hk
theorem RRows.wide (h : RRows lo hi w v m) (h1 : lo' ≤ lo) (h2 : hi ≤ hi') : RRows lo' hi' w v m := Sl.wide h h1 h2 fun _ _ h => RInts.wide h h1 h2

theorem RInts.form (h : RInts lo hi w v l) : ∃ p c, v = .slice p l.length c ∧ l.length ≤ 9223372036854775807 := let ⟨p, c, h1, h2, _⟩ := h; ⟨p, c, h1, h2⟩
theorem RRows.form (h : RRows lo hi w v m) : ∃ p c, v = .slice p m.length c ∧ m.length ≤ 9223372036854775807 := let ⟨p, c, h1, h2, _⟩ := h; ⟨p, c, h1, h2⟩

theorem RInts.at {p : Option Addr} {n c : Nat} (h : RInts lo hi w (.slice p n c) l) (i : Nat) (hi' : i < l.length) : ∃ b off, p = some ⟨b, off, none⟩ ∧ lo ≤ b ∧ b < hi ∧ w.cell? ⟨b, off + i, none⟩ = some (.int .i64 (l[i]!)) := by
  obtain ⟨p', c', hv, _, hc⟩ := h
  cases hv
  obtain ⟨b, off, x, hp, h3, h4, hx, hr⟩ := hc i hi'
  cases hr
  exact ⟨b, off, hp, h3, h4, hx⟩
theorem RRows.at {p : Option Addr} {n c : Nat} (h : RRows lo hi w (.slice p n c) m) (i : Nat) (hi' : i < m.length) : ∃ b off p' c', p = some ⟨b, off, none⟩ ∧ lo ≤ b ∧ b < hi ∧ w.cell? ⟨b, off + i, none⟩ = some (.slice p' (m[i]!).length c') ∧
    RInts lo hi w (.slice p' (m[i]!).length c') (m[i]!) ∧ (m[i]!).length ≤ 9223372036854775807 := by
  obtain ⟨p', c', hv, _, hc⟩ := h
  cases hv
  obtain ⟨b, off, x, hp, h3, h4, hx, hr⟩ := hc i hi'
  obtain ⟨p2, c2, rfl, hl⟩ := RInts.form hr
  exact ⟨b, off, p2, c2, hp, h3, h4, hx, hr, hl⟩
end

theorem kept_below {w w' : World} {lo hi : Nat} (h : Below w.heap.size w w') (hh : hi ≤ w.heap.size) : Kept lo hi w w' := fun b _ h2 => h.block b (by omega)
theorem kept_from {w0 w w' : World} {lo hi : Nat} (h : Below w0.heap.size w0 w) (h' : Below w0.heap.size w0 w') (hh : hi ≤ w0.heap.size) : Kept lo hi w w' := fun b _ h2 => (h'.block b (by omega)).trans (h.block b (by omega)).symm
theorem kept_sto {w w' : World} {lo hi b : Nat} {cs : Array Value} {T : TypeId} (h : Sto w w' b cs T) (hh : hi ≤ w.heap.size) (hb : b < lo ∨ hi ≤ b) : Kept lo hi w w' := fun k h1 h2 => h.grown.block k (by omega) (by simp; omega)

/-- All blocks but those of X are as they were. -/
structure Kp (X : List Nat) (w w' : World) : Prop where
  os : w'.os = w.os
  tape : w'.tape = w.tape
  output : w'.output = w.output
  size : w.heap.size ≤ w'.heap.size
  block : ∀ k, k < w.heap.size → k ∉ X → w'.heap[k]? = w.heap[k]?

theorem Kp.refl (X : List Nat) (w : World) : Kp X w w := ⟨rfl, rfl, rfl, Nat.le_refl _, fun _ _ _ => rfl⟩
theorem Kp.step {X : List Nat} {w w' w'' : World} (h : Kp X w w') (h' : Below w'.heap.size w' w'') : Kp X w w'' :=
  ⟨h'.os.trans h.os, h'.tape.trans h.tape, h'.output.trans h.output, Nat.le_trans h.size h'.size, fun k hk hX => (h'.block k (Nat.lt_of_lt_of_le hk h.size)).trans (h.block k hk hX)⟩
theorem Kp.sto {X : List Nat} {w w' w'' : World} {b : Nat} {cs : Array Value} {T : TypeId} (h : Kp X w w') (hs : Sto w' w'' b cs T) (hb : b ∈ X ∨ w.heap.size ≤ b) : Kp X w w'' :=
  ⟨hs.grown.os.trans h.os, hs.grown.tape.trans h.tape, hs.grown.output.trans h.output, Nat.le_trans h.size hs.grown.size, fun k hk hX =>
    (hs.grown.block k (Nat.lt_of_lt_of_le hk h.size) (by
      rintro he
      cases he
      rcases hb with hb | hb
      · exact hX hb
      · omega)).trans (h.block k hk hX)⟩
theorem Kp.app {X : List Nat} {w w' w'' : World} {lo : Nat} {e : TypeId} {v v' : Value} {xs xs0 : List Value} (h : Kp X w w') (ha : App w' w'' lo e v v' xs) (_h0 : Own w' lo e v xs0) (hb : ∀ k, v.ownBlock = some k → k ∈ X ∨ w.heap.size ≤ k) : Kp X w w'' :=
  ⟨ha.grown.os.trans h.os, ha.grown.tape.trans h.tape, ha.grown.output.trans h.output, Nat.le_trans h.size ha.grown.size, fun k hk hX =>
    (ha.grown.block k (Nat.lt_of_lt_of_le hk h.size) (fun he => by
      rcases hb k he.symm with hb | hb
      · exact hX hb
      · omega)).trans (h.block k hk hX)⟩
theorem Kp.cell {X : List Nat} {w w' : World} (h : Kp X w w') {a : Addr} {v : Value} (hc : w.cell? a = some v) (hX : a.block ∉ X) : w'.cell? a = some v := by
  rw [World.cell?_of_block (w := w) (h.block a.block (World.block_lt_of_cell? w a hc) hX)]
  exact hc
theorem Kp.blk {X : List Nat} {w w' : World} (h : Kp X w w') {b : Nat} {cs : Array Value} {T : TypeId} (hb : Blk w b cs T) (hX : b ∉ X) : Blk w' b cs T := (h.block b hb.lt hX).trans hb
theorem Kp.below {w w' : World} (h : Kp [] w w') : Below w.heap.size w w' := ⟨h.os, h.tape, h.output, h.size, fun k hk => h.block k hk (by simp)⟩

theorem Yl.eqb {P : Program} {E : Env} {o : Oper} {w : World} {b b' : Bool} (h : Yl P E o w (.bool b)) (hb : b = b') : Yl P E o w (.bool b') := hb ▸ h

section
variable {P : Program} {n : Nat} {ops : Array Oper} {K : Env → World → Prop} {rest : List Oper} {E : Env} {w w' : World} {o : Oper} {v : Value} {d : Nat}
/-- a new variable -/
theorem RW.newP {cs : Array Value} {T : TypeId} (hg : Wants E o ops = some true) (hd : o.dst = some d) (hn : Nat.blt d n = true) (hr : Yv P E o w (.pointer (some ⟨w.heap.size, 0, none⟩)) (w.alloc (.cells cs T)))
    (next : ∀ b w', New w w' b cs T → RW P n ops K rest ((d, .pointer (some ⟨b, 0, none⟩)) :: E) w') : RW P n ops K (o :: rest) E w := RW.value hg hd hn hr (next _ _ (new_alloc w cs T))
theorem RW.newS {cs : Array Value} {T : TypeId} {l c : Nat} (hg : Wants E o ops = some true) (hd : o.dst = some d) (hn : Nat.blt d n = true) (hr : Yv P E o w (.slice (some ⟨w.heap.size, 0, none⟩) l c) (w.alloc (.cells cs T)))
    (next : ∀ b w', New w w' b cs T → RW P n ops K rest ((d, .slice (some ⟨b, 0, none⟩) l c) :: E) w') : RW P n ops K (o :: rest) E w := RW.value hg hd hn hr (next _ _ (new_alloc w cs T))
theorem RW.sto {b i : Nat} {cs : Array Value} {T : TypeId} (hg : Wants E o ops = some true) (hd : o.dst = none) (hb : Blk w b cs T) (hr : Yu P E o w (w.setCell ⟨b, i, none⟩ v)) (next : ∀ w', Sto w w' b (cs.setIfInBounds i v) T → RW P n ops K rest E w') : RW P n ops K (o :: rest) E w :=
  RW.unit hg hd hr (next _ (sto_setCell hb v))
theorem RW.stoAll {b : Nat} {cs cs' : Array Value} {T : TypeId} (hg : Wants E o ops = some true) (hd : o.dst = none) (hb : Blk w b cs T) (hr : Yu P E o w (w.setRow b cs')) (next : ∀ w', Sto w w' b cs' T → RW P n ops K rest E w') : RW P n ops K (o :: rest) E w :=
  RW.unit hg hd hr (next _ (sto_setRow hb))
theorem RW.app {lo : Nat} {e : TypeId} {u : Value} {xs : List Value} (hg : Wants E o ops = some true) (hd : o.dst = some d) (hn : Nat.blt d n = true) (hr : ∃ v' w', Yv P E o w v' w' ∧ App w w' lo e u v' xs) (next : ∀ v' w', App w w' lo e u v' xs → RW P n ops K rest ((d, v') :: E) w') : RW P n ops K (o :: rest) E w := by
  obtain ⟨v', w', h1, h2⟩ := hr
  exact RW.value hg hd hn h1 (next v' w' h2)
theorem RW.fn {f : FuncId} {args : Array Value} {Φ : Value → World → Prop} (hg : Wants E o ops = some true) (hd : o.dst = some d) (hn : Nat.blt d n = true) (hr : Yc P E o w f args) (hc : Calls P f args w (Ret Φ))
    (next : ∀ v w', Φ v w' → RW P n ops K rest ((d, v) :: E) w') : RW P n ops K (o :: rest) E w :=
  RW.call hg hd hn hr hc fun _ w' ⟨v, he, h⟩ => ⟨v, he, next v w' h⟩
theorem RW.fn' {f : FuncId} {args : Array Value} {Φ : Value → World → Prop} (hg : Wants E o ops = some true) (hd : o.dst = none) (hr : Yc P E o w f args) (hc : Calls P f args w (Ret Φ))
    (next : ∀ v w', Φ v w' → RW P n ops K rest E w') : RW P n ops K (o :: rest) E w :=
  RW.call' hg hd hr hc fun _ w' ⟨v, he, h⟩ => ⟨v, he, next v w' h⟩
end

section
variable {P : Program} {n : Nat} {ops : Array Oper} {S : World → Prop} {K : Env → World → Prop} {fuel : Nat} {listed : Array Bool} {i : Nat} {E : Env} {w w' : World} {o : Oper} {v : Value} {d : Nat}
theorem RO.newP {cs : Array Value} {T : TypeId} (hi : ops[i]? = some o) (hg : Wants E o ops = some true) (hd : o.dst = some d) (hn : Nat.blt d n = true) (hr : Yv P E o w (.pointer (some ⟨w.heap.size, 0, none⟩)) (w.alloc (.cells cs T)))
    (next : ∀ b w', New w w' b cs T → S w' ∧ RH P n ops S K fuel (listed.setIfInBounds i true) ((d, .pointer (some ⟨b, 0, none⟩)) :: E) w') : RO P n ops S K fuel listed i E w :=
  let ⟨h1, h2⟩ := next _ _ (new_alloc w cs T); RO.value hi hg hd hn hr h1 h2
theorem RO.newS {cs : Array Value} {T : TypeId} {l c : Nat} (hi : ops[i]? = some o) (hg : Wants E o ops = some true) (hd : o.dst = some d) (hn : Nat.blt d n = true) (hr : Yv P E o w (.slice (some ⟨w.heap.size, 0, none⟩) l c) (w.alloc (.cells cs T)))
    (next : ∀ b w', New w w' b cs T → S w' ∧ RH P n ops S K fuel (listed.setIfInBounds i true) ((d, .slice (some ⟨b, 0, none⟩) l c) :: E) w') : RO P n ops S K fuel listed i E w :=
  let ⟨h1, h2⟩ := next _ _ (new_alloc w cs T); RO.value hi hg hd hn hr h1 h2
theorem RO.sto {b j : Nat} {cs : Array Value} {T : TypeId} (hi : ops[i]? = some o) (hg : Wants E o ops = some true) (hd : o.dst = none) (hb : Blk w b cs T) (hr : Yu P E o w (w.setCell ⟨b, j, none⟩ v)) (next : ∀ w', Sto w w' b (cs.setIfInBounds j v) T → S w' ∧ RH P n ops S K fuel (listed.setIfInBounds i true) E w') : RO P n ops S K fuel listed i E w :=
  let ⟨h1, h2⟩ := next _ (sto_setCell hb v); RO.unit hi hg hd hr h1 h2
theorem RO.stoAll {b : Nat} {cs cs' : Array Value} {T : TypeId} (hi : ops[i]? = some o) (hg : Wants E o ops = some true) (hd : o.dst = none) (hb : Blk w b cs T) (hr : Yu P E o w (w.setRow b cs')) (next : ∀ w', Sto w w' b cs' T → S w' ∧ RH P n ops S K fuel (listed.setIfInBounds i true) E w') : RO P n ops S K fuel listed i E w :=
  let ⟨h1, h2⟩ := next _ (sto_setRow hb); RO.unit hi hg hd hr h1 h2
theorem RO.app {lo : Nat} {e : TypeId} {u : Value} {xs : List Value} (hi : ops[i]? = some o) (hg : Wants E o ops = some true) (hd : o.dst = some d) (hn : Nat.blt d n = true) (hr : ∃ v' w', Yv P E o w v' w' ∧ App w w' lo e u v' xs) (next : ∀ v' w', App w w' lo e u v' xs → S w' ∧ RH P n ops S K fuel (listed.setIfInBounds i true) ((d, v') :: E) w') : RO P n ops S K fuel listed i E w := by
  obtain ⟨v', w', h1, h2⟩ := hr
  obtain ⟨h3, h4⟩ := next v' w' h2
  exact RO.value hi hg hd hn h1 h3 h4
theorem RO.fn {f : FuncId} {args : Array Value} {Φ : Value → World → Prop} (hi : ops[i]? = some o) (hg : Wants E o ops = some true) (hd : o.dst = some d) (hn : Nat.blt d n = true) (hr : Yc P E o w f args) (hc : Calls P f args w (Ret Φ))
    (next : ∀ v w', Φ v w' → S w' ∧ RH P n ops S K fuel (listed.setIfInBounds i true) ((d, v) :: E) w') : RO P n ops S K fuel listed i E w :=
  RO.call hi hg hd hn hr hc fun _ w' ⟨v, he, h⟩ => ⟨v, he, (next v w' h).1, (next v w' h).2⟩
end

section
variable {P : Program} {n : Nat} {c : Code} {Q : Exit → Env → World → Prop} {E : Env} {w : World}
theorem CW.draw {id : Nat} {l : List Oper} (N : Nat) (hN : l.toArray.size = N) (S : World → World → Prop) (hm : P.follows .mixedOrders = true)
    (h : ∀ w1, Below w.heap.size w w1 → RH P n l.toArray (S w1) (fun E' w' => Q .normal E' w') N (Array.replicate N false) E w1) : CW P n (.region id l.toArray true) Q E w := by
  subst hN
  exact CW.drawn (S w.drew) hm (h w.drew (Below.refl _ _).drew)

/-- What stands behind is shown once, of all that K says. -/
theorem CW.cut (K : Env → World → Prop) (first : CW P n c (fun e E w => match e with | .normal => K E w | e => Q e E w) E w) (rest : ∀ E w, K E w → Q .normal E w) : CW P n c Q E w :=
  CW.mono first fun e E w h => by cases e <;> first | exact rest E w h | exact h

theorem CW.loop0 (E0 : Env) (R : Nat → World → Prop) (k0 : Nat) (h0 : R k0 w) (hs : Sub E0 E) (h : ∀ k w, R k w → CW P n c (LoopQ (fun _ : Unit => E0) (fun _ => R) k Q) E0 w) : CW P n (.loop c) Q E w :=
  CW.loop (fun _ : Unit => E0) (fun _ => R) () k0 h0 hs fun _ => h
theorem CW.loop1 {α : Type} (E0 : α → Env) (R : α → Nat → World → Prop) (a0 : α) (k0 : Nat) (h0 : R a0 k0 w) (hs : Sub (E0 a0) E) (h : ∀ a k w, R a k w → CW P n c (LoopQ E0 R k Q) (E0 a) w) : CW P n (.loop c) Q E w :=
  CW.loop E0 R a0 k0 h0 hs h
theorem CW.loop2 {α β : Type} (E0 : α → β → Env) (R : α → β → Nat → World → Prop) (a0 : α) (b0 : β) (k0 : Nat) (h0 : R a0 b0 k0 w) (hs : Sub (E0 a0 b0) E) (h : ∀ a b k w, R a b k w → CW P n c (LoopQ (fun x : α × β => E0 x.1 x.2) (fun x => R x.1 x.2) k Q) (E0 a b) w) : CW P n (.loop c) Q E w :=
  CW.loop (fun x : α × β => E0 x.1 x.2) (fun x => R x.1 x.2) (a0, b0) k0 h0 hs fun x => h x.1 x.2
theorem CW.loop3 {α β γ : Type} (E0 : α → β → γ → Env) (R : α → β → γ → Nat → World → Prop) (a0 : α) (b0 : β) (c0 : γ) (k0 : Nat) (h0 : R a0 b0 c0 k0 w) (hs : Sub (E0 a0 b0 c0) E) (h : ∀ a b g k w, R a b g k w → CW P n c (LoopQ (fun x : α × β × γ => E0 x.1 x.2.1 x.2.2) (fun x => R x.1 x.2.1 x.2.2) k Q) (E0 a b g) w) : CW P n (.loop c) Q E w :=
  CW.loop (fun x : α × β × γ => E0 x.1 x.2.1 x.2.2) (fun x => R x.1 x.2.1 x.2.2) (a0, b0, c0) k0 h0 hs fun x => h x.1 x.2.1 x.2.2
theorem CW.loop4 {α β γ δ : Type} (E0 : α → β → γ → δ → Env) (R : α → β → γ → δ → Nat → World → Prop) (a0 : α) (b0 : β) (c0 : γ) (d0 : δ) (k0 : Nat) (h0 : R a0 b0 c0 d0 k0 w) (hs : Sub (E0 a0 b0 c0 d0) E) (h : ∀ a b g d k w, R a b g d k w → CW P n c (LoopQ (fun x : α × β × γ × δ => E0 x.1 x.2.1 x.2.2.1 x.2.2.2) (fun x => R x.1 x.2.1 x.2.2.1 x.2.2.2) k Q) (E0 a b g d) w) : CW P n (.loop c) Q E w :=
  CW.loop (fun x : α × β × γ × δ => E0 x.1 x.2.1 x.2.2.1 x.2.2.2) (fun x => R x.1 x.2.1 x.2.2.1 x.2.2.2) (a0, b0, c0, d0) k0 h0 hs fun x => h x.1 x.2.1 x.2.2.1 x.2.2.2
end

section
variable {P : Program} {E : Env} {o : Oper} {w : World} {T T' : TypeId} {x y : Operand} {a b : Nat}
theorem Yl.addN (ho : o.op = .binOp .add T x y T') (hx : E.ev x = some (.int .i64 (a : Int))) (hy : E.ev y = some (.int .i64 (b : Int))) (h : a + b ≤ 9223372036854775807) : Yl P E o w (.int .i64 ((a + b : Nat) : Int)) := by
  have := Yl.add (P := P) (w := w) ho hx hy (by omega)
  rwa [← Int.natCast_add] at this
theorem Yl.subN (ho : o.op = .binOp .sub T x y T') (hx : E.ev x = some (.int .i64 (a : Int))) (hy : E.ev y = some (.int .i64 (b : Int))) (h : b ≤ a ∧ a ≤ 9223372036854775807) : Yl P E o w (.int .i64 ((a - b : Nat) : Int)) := by
  have := Yl.sub (P := P) (w := w) ho hx hy (by omega)
  rwa [← Int.natCast_sub h.1] at this
theorem Yl.mulN (ho : o.op = .binOp .mul T x y T') (hx : E.ev x = some (.int .i64 (a : Int))) (hy : E.ev y = some (.int .i64 (b : Int))) (h : a * b ≤ 9223372036854775807) : Yl P E o w (.int .i64 ((a * b : Nat) : Int)) := by
  have h1 : (a : Int) * (b : Int) = ((a * b : Nat) : Int) := (Int.natCast_mul a b).symm
  have := Yl.mul (P := P) (w := w) ho hx hy (by rw [h1]; omega)
  rwa [h1] at this
theorem Yl.quoN (ho : o.op = .binOp .quo T x y T') (hx : E.ev x = some (.int .i64 (a : Int))) (hy : E.ev y = some (.int .i64 (b : Int))) (h : 0 < b ∧ a ≤ 9223372036854775807) : Yl P E o w (.int .i64 ((a / b : Nat) : Int)) :=
  Yl.quo (P := P) (w := w) ho hx hy (by omega)
theorem Yl.remN (ho : o.op = .binOp .rem T x y T') (hx : E.ev x = some (.int .i64 (a : Int))) (hy : E.ev y = some (.int .i64 (b : Int))) (h : 0 < b) : Yl P E o w (.int .i64 ((a % b : Nat) : Int)) :=
  Yl.rem (P := P) (w := w) ho hx hy (by omega)
end

theorem Yl.build0 {P : Program} {E : Env} {o : Oper} {w : World} {T : TypeId} {ps : Array (Nat × Operand)} {cells : Array Value} (ho : o.op = .build T ps) (hp : ps = #[]) (hb : P.built T [] = some cells) : Yl P E o w (.agg cells) := fun ρ _ => by
  subst hp
  have := run_build (P := P) w T #[] cells hb
  simp [execOp, ho, this]

theorem info_of {P : Program} {T : TypeId} {z : Value} {s b : Nat} (h : (P.info? T).map (fun i => (i.zero, i.size, i.bytes)) = some (some z, s, b)) : ∃ i, P.info? T = some i ∧ i.zero = some z ∧ i.size = s ∧ i.bytes = b := by
  obtain ⟨i, h1, h2⟩ := Option.map_eq_some_iff.1 h
  simp only [Prod.mk.injEq] at h2
  exact ⟨i, h1, h2.1, h2.2.1, h2.2.2⟩

theorem not_t {b : Bool} (h : (!b) = true) : b = false := by cases b <;> first | rfl | cases h
theorem not_f {b : Bool} (h : (!b) = false) : b = true := by cases b <;> first | rfl | cases h

theorem ival {a b : Int} (h : a = b) : Value.int .i64 a = .int .i64 b := by rw [h]
theorem bval {a b : Bool} (h : a = b) : Value.bool a = .bool b := by rw [h]

theorem Sl.nil {α : Type} [Inhabited α] (R : World → Value → α → Prop) (lo hi : Nat) (w : World) : Sl R lo hi w (.slice none 0 0) [] := ⟨none, 0, rfl, by simp, fun i h => by cases h⟩

theorem args1 {E : Env} {x : Operand} {u : Value} (h : E.ev x = some u) : ∀ ρ : Operand → Value, (∀ x u, E.ev x = some u → ρ x = u) → #[x].map ρ = #[u] := fun ρ hρ => by simp [hρ _ _ h]
theorem args0 {E : Env} : ∀ ρ : Operand → Value, (∀ x u, E.ev x = some u → ρ x = u) → #[].map ρ = #[] := fun ρ _ => by simp
theorem args2 {E : Env} {x y : Operand} {u v : Value} (h : E.ev x = some u) (h' : E.ev y = some v) : ∀ ρ : Operand → Value, (∀ x u, E.ev x = some u → ρ x = u) → #[x, y].map ρ = #[u, v] := fun ρ hρ => by simp [hρ _ _ h, hρ _ _ h']
theorem args3 {E : Env} {x y z : Operand} {u v t : Value} (h : E.ev x = some u) (h' : E.ev y = some v) (h'' : E.ev z = some t) : ∀ ρ : Operand → Value, (∀ x u, E.ev x = some u → ρ x = u) → #[x, y, z].map ρ = #[u, v, t] := fun ρ hρ => by simp [hρ _ _ h, hρ _ _ h', hρ _ _ h'']
theorem args4 {E : Env} {x y z q : Operand} {u v t r : Value} (h : E.ev x = some u) (h' : E.ev y = some v) (h'' : E.ev z = some t) (h3 : E.ev q = some r) : ∀ ρ : Operand → Value, (∀ x u, E.ev x = some u → ρ x = u) → #[x, y, z, q].map ρ = #[u, v, t, r] := fun ρ hρ => by
  simp [hρ _ _ h, hρ _ _ h', hρ _ _ h'', hρ _ _ h3]
theorem args5 {E : Env} {x0 x1 x2 x3 x4 : Operand} {u0 u1 u2 u3 u4 : Value} (h0 : E.ev x0 = some u0) (h1 : E.ev x1 = some u1) (h2 : E.ev x2 = some u2) (h3 : E.ev x3 = some u3) (h4 : E.ev x4 = some u4) : ∀ ρ : Operand → Value, (∀ x u, E.ev x = some u → ρ x = u) → #[x0, x1, x2, x3, x4].map ρ = #[u0, u1, u2, u3, u4] := fun ρ hρ => by
  simp [hρ _ _ h0, hρ _ _ h1, hρ _ _ h2, hρ _ _ h3, hρ _ _ h4]
theorem args6 {E : Env} {x0 x1 x2 x3 x4 x5 : Operand} {u0 u1 u2 u3 u4 u5 : Value} (h0 : E.ev x0 = some u0) (h1 : E.ev x1 = some u1) (h2 : E.ev x2 = some u2) (h3 : E.ev x3 = some u3) (h4 : E.ev x4 = some u4) (h5 : E.ev x5 = some u5) : ∀ ρ : Operand → Value, (∀ x u, E.ev x = some u → ρ x = u) → #[x0, x1, x2, x3, x4, x5].map ρ = #[u0, u1, u2, u3, u4, u5] := fun ρ hρ => by
  simp [hρ _ _ h0, hρ _ _ h1, hρ _ _ h2, hρ _ _ h3, hρ _ _ h4, hρ _ _ h5]
theorem args7 {E : Env} {x0 x1 x2 x3 x4 x5 x6 : Operand} {u0 u1 u2 u3 u4 u5 u6 : Value} (h0 : E.ev x0 = some u0) (h1 : E.ev x1 = some u1) (h2 : E.ev x2 = some u2) (h3 : E.ev x3 = some u3) (h4 : E.ev x4 = some u4) (h5 : E.ev x5 = some u5) (h6 : E.ev x6 = some u6) : ∀ ρ : Operand → Value, (∀ x u, E.ev x = some u → ρ x = u) → #[x0, x1, x2, x3, x4, x5, x6].map ρ = #[u0, u1, u2, u3, u4, u5, u6] := fun ρ hρ => by
  simp [hρ _ _ h0, hρ _ _ h1, hρ _ _ h2, hρ _ _ h3, hρ _ _ h4, hρ _ _ h5, hρ _ _ h6]
theorem capt {E : Env} {xs : Array Operand} {args all cap : Array Value} (h : ∀ ρ : Operand → Value, (∀ x u, E.ev x = some u → ρ x = u) → xs.map ρ = args) (h' : args ++ cap = all) : ∀ ρ : Operand → Value, (∀ x u, E.ev x = some u → ρ x = u) → xs.map ρ ++ cap = all := fun ρ hρ => by rw [h ρ hρ]; exact h'
end Go.Ev
