/- A calculus over Code.wp: frames as association lists; one lemma an operation; regions in the order of the text, or held against every order. Program-independent. -/
import Derived.OrdersHeld
import Derived.WalkKit
import Derived.KernelRfl
namespace Go.Ev
open Go Go.RowKit

abbrev Env := List (Nat × Value)

def Env.get : Env → Nat → Option Value
  | [], _ => none
  | (k, v) :: E, t => match Nat.beq k t with
    | true => some v
    | false => Env.get E t

def Env.ev (E : Env) : Operand → Option Value
  | .tmp t => Env.get E t
  | .const v => some v
  | .global g => some (.pointer (some ⟨g, 0, none⟩))
  | .func f => some (.func (.func f) #[] #[])

theorem Env.get_hit (E : Env) (d : Nat) (v : Value) : Env.get ((d, v) :: E) d = some v := by
  have h : Nat.beq d d = true := Nat.beq_refl d
  simp only [Env.get, h]

theorem Env.get_miss (E : Env) {d t : Nat} (v : Value) (h : d ≠ t) : Env.get ((d, v) :: E) t = Env.get E t := by
  have h' : Nat.beq d t = false := by
    cases hb : Nat.beq d t with
    | false => rfl
    | true => exact absurd (Nat.eq_of_beq_eq_true hb) h
  simp only [Env.get, h']

structure Has (n : Nat) (E : Env) (a : Act) : Prop where
  defers : a.defers = []
  size : a.tmps.size = n
  get : ∀ t v, Env.get E t = some v → a.tmps[t]? = some v

section
variable {n : Nat} {E E' : Env} {a : Act} {x : Operand} {v : Value} {d : Nat}

theorem Has.ev (h : Has n E a) (hx : E.ev x = some v) : a.eval x = v := by
  cases x with
  | tmp t =>
    have := h.get t v hx
    simp [Act.eval, this]
  | const u => simpa [Env.ev, Act.eval] using hx
  | global g => simpa [Env.ev, Act.eval] using hx
  | func f => simpa [Env.ev, Act.eval] using hx

theorem Has.put (h : Has n E a) (hd : Nat.blt d n = true) (v : Value) : Has n ((d, v) :: E) (a.put (some d) v) := by
  have hlt : d < n := by simpa [Nat.blt_eq] using hd
  refine ⟨h.defers, by simpa [Act.put] using h.size, fun t u ht => ?_⟩
  by_cases hdt : d = t
  · subst hdt
    rw [Env.get_hit] at ht
    cases ht
    simp [Act.put, h.size, hlt]
  · rw [Env.get_miss _ _ hdt] at ht
    simp [Act.put, Array.getElem?_setIfInBounds_ne hdt, h.get t u ht]

theorem Has.put_none (h : Has n E a) (v : Value) : Has n E (a.put none v) := h

/-- Every entry of E is one of E'. -/
def Sub (E E' : Env) : Prop := ∀ t v, Env.get E t = some v → Env.get E' t = some v

theorem Sub.nil : Sub [] E := fun _ _ h => by cases h
theorem Sub.cons (h : Env.get E' d = some v) (hs : Sub E E') : Sub ((d, v) :: E) E' := fun t u ht => by
  by_cases hdt : d = t
  · subst hdt
    rw [Env.get_hit] at ht
    cases ht
    exact h
  · rw [Env.get_miss _ _ hdt] at ht
    exact hs t u ht
theorem Sub.refl : Sub E E := fun _ _ h => h

theorem Has.sub (h : Has n E' a) (hs : Sub E E') : Has n E a := ⟨h.defers, h.size, fun t v ht => h.get t v (hs t v ht)⟩
end

/-! ### Operations -/

section
variable (P : Program) (E : Env) (o : Oper) (w : World)

/-- The operation yields v and leaves the world as it is. -/
def Yl (v : Value) : Prop := ∀ ρ : Operand → Value, (∀ x u, E.ev x = some u → ρ x = u) → (execOp ρ o).run P w = .ok (.value v) w
/-- The operation yields v and leaves the world w'. -/
def Yv (v : Value) (w' : World) : Prop := ∀ ρ : Operand → Value, (∀ x u, E.ev x = some u → ρ x = u) → (execOp ρ o).run P w = .ok (.value v) w'
/-- The operation yields nothing and leaves the world w'. -/
def Yu (w' : World) : Prop := ∀ ρ : Operand → Value, (∀ x u, E.ev x = some u → ρ x = u) → (execOp ρ o).run P w = .ok .skip w'
/-- The operation calls function f. -/
def Yc (f : FuncId) (args : Array Value) : Prop := ∀ ρ : Operand → Value, (∀ x u, E.ev x = some u → ρ x = u) → (execOp ρ o).run P w = .ok (.enter f args) w

/-- Is the operation wanted? -/
def Wants (ops : Array Oper) : Option Bool :=
  match o.guard with
  | none => some true
  | some (j, want) => match (ops[j]?).bind (·.dst) with
    | none => none
    | some t => match Env.get E t with
      | some (.bool b) => some (b == want)
      | some (.tuple _) => some false
      | _ => none
end

theorem Wants.spec {n : Nat} {E : Env} {o : Oper} {ops : Array Oper} {a : Act} {b : Bool} (h : Has n E a) (hw : Wants E o ops = some b) : Region.wanted o (yielded ops a.tmps) = b := by
  unfold Wants at hw
  unfold Region.wanted
  cases hg : o.guard with
  | none => rw [hg] at hw; simpa using hw
  | some gw =>
    obtain ⟨j, want⟩ := gw
    rw [hg] at hw
    simp only at hw ⊢
    cases ht : (ops[j]?).bind (·.dst) with
    | none => rw [ht] at hw; cases hw
    | some t =>
      rw [ht] at hw
      simp only at hw
      cases he : Env.get E t with
      | none => rw [he] at hw; cases hw
      | some u =>
        have hu := h.get t u he
        rw [he] at hw
        have hy : yielded ops a.tmps j = match u with | .bool b => some b | _ => none := by
          unfold yielded
          rw [ht]
          simp only [Option.bind_some, hu]
          cases u <;> rfl
        cases u <;> simp only at hw hy <;> first | (cases hw; done) | skip
        · rw [hy]; simpa using hw
        · rw [hy]; simp at hw; simp [← hw]

/-! ### Regions in the order of the text -/

def Q0 (n : Nat) (K : Env → World → Prop) : Exit → Act → World → Prop := fun e a w => e = .normal ∧ ∃ E, Has n E a ∧ K E w

def RW (P : Program) (n : Nat) (ops : Array Oper) (K : Env → World → Prop) (rest : List Oper) (E : Env) (w : World) : Prop :=
  ∀ a, Has n E a → wpList P ops (Q0 n K) rest a w

section
variable {P : Program} {n : Nat} {ops : Array Oper} {K : Env → World → Prop} {rest : List Oper} {E : Env} {w w' : World} {o : Oper} {v : Value} {d : Nat}

theorem RW.nil (h : K E w) : RW P n ops K [] E w := fun _ ha => ⟨rfl, E, ha, h⟩

theorem RW.value (hg : Wants E o ops = some true) (hd : o.dst = some d) (hn : Nat.blt d n = true) (hr : Yv P E o w v w') (next : RW P n ops K rest ((d, v) :: E) w') : RW P n ops K (o :: rest) E w := by
  intro a ha
  refine wpList_step fun K' hK => ?_
  rw [if_pos (Wants.spec ha hg)]
  unfold Oper.wp
  rw [hr a.eval (fun x u hx => ha.ev hx)]
  show K' (a.put o.dst v) w'
  rw [hd]
  exact hK _ _ (next _ (ha.put hn v))

theorem RW.yl (hg : Wants E o ops = some true) (hd : o.dst = some d) (hn : Nat.blt d n = true) (hr : Yl P E o w v) (next : RW P n ops K rest ((d, v) :: E) w) : RW P n ops K (o :: rest) E w :=
  RW.value hg hd hn hr next

theorem RW.unit (hg : Wants E o ops = some true) (hd : o.dst = none) (hr : Yu P E o w w') (next : RW P n ops K rest E w') : RW P n ops K (o :: rest) E w := by
  intro a ha
  refine wpList_step fun K' hK => ?_
  rw [if_pos (Wants.spec ha hg)]
  unfold Oper.wp
  rw [hr a.eval (fun x u hx => ha.ev hx)]
  show K' (a.put o.dst undef) w'
  rw [hd]
  exact hK _ _ (next _ ha)

theorem RW.skip (hg : Wants E o ops = some false) (hd : o.dst = some d) (hn : Nat.blt d n = true) (next : RW P n ops K rest ((d, undef) :: E) w) : RW P n ops K (o :: rest) E w := by
  intro a ha
  refine wpList_step fun K' hK => ?_
  rw [if_neg (by rw [Wants.spec ha hg]; exact Bool.false_ne_true), hd]
  exact hK _ _ (next _ (ha.put hn undef))

theorem RW.skip' (hg : Wants E o ops = some false) (hd : o.dst = none) (next : RW P n ops K rest E w) : RW P n ops K (o :: rest) E w := by
  intro a ha
  refine wpList_step fun K' hK => ?_
  rw [if_neg (by rw [Wants.spec ha hg]; exact Bool.false_ne_true), hd]
  exact hK _ _ (next _ ha)

theorem RW.call {f : FuncId} {args : Array Value} {R : Ending → World → Prop} (hg : Wants E o ops = some true) (hd : o.dst = some d) (hn : Nat.blt d n = true) (hr : Yc P E o w f args) (hc : Calls P f args w R)
    (next : ∀ e w', R e w' → ∃ v, e = .returned v ∧ RW P n ops K rest ((d, v) :: E) w') : RW P n ops K (o :: rest) E w := by
  intro a ha
  refine wpList_step fun K' hK => ?_
  rw [if_pos (Wants.spec ha hg)]
  unfold Oper.wp
  rw [hr a.eval (fun x u hx => ha.ev hx)]
  refine Calls.mono hc fun e w' he => ?_
  obtain ⟨v, rfl, hn'⟩ := next e w' he
  show K' (a.put o.dst v) w'
  rw [hd]
  exact hK _ _ (hn' _ (ha.put hn v))

theorem RW.call' {f : FuncId} {args : Array Value} {R : Ending → World → Prop} (hg : Wants E o ops = some true) (hd : o.dst = none) (hr : Yc P E o w f args) (hc : Calls P f args w R)
    (next : ∀ e w', R e w' → ∃ v, e = .returned v ∧ RW P n ops K rest E w') : RW P n ops K (o :: rest) E w := by
  intro a ha
  refine wpList_step fun K' hK => ?_
  rw [if_pos (Wants.spec ha hg)]
  unfold Oper.wp
  rw [hr a.eval (fun x u hx => ha.ev hx)]
  refine Calls.mono hc fun e w' he => ?_
  obtain ⟨v, rfl, hn'⟩ := next e w' he
  show K' (a.put o.dst v) w'
  rw [hd]
  exact hK _ _ (hn' _ ha)
end

/-! ### Regions that draw their order -/

def RH (P : Program) (n : Nat) (ops : Array Oper) (S : World → Prop) (K : Env → World → Prop) (fuel : Nat) (listed : Array Bool) (E : Env) (w : World) : Prop :=
  ∀ a, Has n E a → wpAnyH P .any ops (Q0 n K) S fuel listed a w

/-- Operation number i is carried out. -/
def RO (P : Program) (n : Nat) (ops : Array Oper) (S : World → Prop) (K : Env → World → Prop) (fuel : Nat) (listed : Array Bool) (i : Nat) (E : Env) (w : World) : Prop :=
  ∀ a, Has n E a → wpOp P ops (Q0 n K) i (fun a' w' => S w' ∧ wpAnyH P .any ops (Q0 n K) S fuel (listed.setIfInBounds i true) a' w') a w

section
variable {P : Program} {n : Nat} {ops : Array Oper} {S : World → Prop} {K : Env → World → Prop} {fuel : Nat} {listed : Array Bool} {i : Nat} {E : Env} {w w' : World} {o : Oper} {v : Value} {d : Nat}

theorem RH.done (hr : Region.ready .any ops listed = []) (h : K E w) : RH P n ops S K fuel listed E w := fun _ ha => wpAnyH_done hr ⟨rfl, E, ha, h⟩ _

theorem RH.take (i : Nat) (hi : ops[i]? = some o) (hf : (Region.noSelect ops && Region.free .any ops listed i && (Region.ready .any ops listed).contains i) = true)
    (hg : Wants E o ops = some true) (hd : o.dst = some d) (hn : Nat.blt d n = true) (hS : S w) (hy : ∀ w', S w' → Yl P E o w' v)
    (next : RH P n ops S K fuel (listed.setIfInBounds i true) ((d, v) :: E) w) : RH P n ops S K (fuel + 1) listed E w := by
  intro a ha
  simp only [Bool.and_eq_true] at hf
  obtain ⟨⟨h1, h2⟩, h3⟩ := hf
  refine wpAnyH_take hi h1 h2 h3 (fun c a w h => by cases h.1) (.inl ⟨Wants.spec ha hg, fun w' hw' => hy w' hw' a.eval (fun x u hx => ha.ev hx)⟩) hS ?_
  rw [hd]
  exact next _ (ha.put hn v)

theorem RH.pass (i : Nat) (hi : ops[i]? = some o) (hf : (Region.noSelect ops && Region.free .any ops listed i && (Region.ready .any ops listed).contains i) = true)
    (hg : Wants E o ops = some false) (hd : o.dst = some d) (hn : Nat.blt d n = true) (hS : S w)
    (next : RH P n ops S K fuel (listed.setIfInBounds i true) ((d, undef) :: E) w) : RH P n ops S K (fuel + 1) listed E w := by
  intro a ha
  simp only [Bool.and_eq_true] at hf
  obtain ⟨⟨h1, h2⟩, h3⟩ := hf
  refine wpAnyH_take hi h1 h2 h3 (fun c a w h => by cases h.1) (.inr ⟨Wants.spec ha hg, rfl⟩) hS ?_
  rw [hd]
  exact next _ (ha.put hn undef)

theorem RH.one (i : Nat) (hr : Region.ready .any ops listed = [i]) (h : RO P n ops S K fuel listed i E w) : RH P n ops S K (fuel + 1) listed E w := fun a ha =>
  wpAnyH_all hr (by simp) fun j hj => by
    rw [List.mem_singleton] at hj
    subst hj
    exact h a ha

theorem RH.two (i j : Nat) (hr : Region.ready .any ops listed = [i, j]) (h : RO P n ops S K fuel listed i E w) (h' : RO P n ops S K fuel listed j E w) : RH P n ops S K (fuel + 1) listed E w := fun a ha =>
  wpAnyH_all hr (by simp) fun k hk => by
    rcases List.mem_cons.1 hk with rfl | hk
    · exact h a ha
    · rw [List.mem_singleton] at hk
      subst hk
      exact h' a ha

theorem RH.three (i j k : Nat) (hr : Region.ready .any ops listed = [i, j, k]) (h : RO P n ops S K fuel listed i E w) (h' : RO P n ops S K fuel listed j E w) (h'' : RO P n ops S K fuel listed k E w) : RH P n ops S K (fuel + 1) listed E w := fun a ha =>
  wpAnyH_all hr (by simp) fun l hl => by
    rcases List.mem_cons.1 hl with rfl | hl
    · exact h a ha
    · rcases List.mem_cons.1 hl with rfl | hl
      · exact h' a ha
      · rw [List.mem_singleton] at hl
        subst hl
        exact h'' a ha

theorem RO.value (hi : ops[i]? = some o) (hg : Wants E o ops = some true) (hd : o.dst = some d) (hn : Nat.blt d n = true) (hr : Yv P E o w v w') (hS : S w')
    (next : RH P n ops S K fuel (listed.setIfInBounds i true) ((d, v) :: E) w') : RO P n ops S K fuel listed i E w := by
  intro a ha
  unfold wpOp
  rw [hi]
  show if Region.wanted o (yielded ops a.tmps) = true then _ else _
  rw [if_pos (Wants.spec ha hg)]
  refine .inl ?_
  unfold Oper.wp
  rw [hr a.eval (fun x u hx => ha.ev hx)]
  show S w' ∧ wpAnyH P .any ops (Q0 n K) S fuel (listed.setIfInBounds i true) (a.put o.dst v) w'
  rw [hd]
  exact ⟨hS, next _ (ha.put hn v)⟩

theorem RO.yl (hi : ops[i]? = some o) (hg : Wants E o ops = some true) (hd : o.dst = some d) (hn : Nat.blt d n = true) (hr : Yl P E o w v) (hS : S w)
    (next : RH P n ops S K fuel (listed.setIfInBounds i true) ((d, v) :: E) w) : RO P n ops S K fuel listed i E w := RO.value hi hg hd hn hr hS next

theorem RO.unit (hi : ops[i]? = some o) (hg : Wants E o ops = some true) (hd : o.dst = none) (hr : Yu P E o w w') (hS : S w')
    (next : RH P n ops S K fuel (listed.setIfInBounds i true) E w') : RO P n ops S K fuel listed i E w := by
  intro a ha
  unfold wpOp
  rw [hi]
  show if Region.wanted o (yielded ops a.tmps) = true then _ else _
  rw [if_pos (Wants.spec ha hg)]
  refine .inl ?_
  unfold Oper.wp
  rw [hr a.eval (fun x u hx => ha.ev hx)]
  show S w' ∧ wpAnyH P .any ops (Q0 n K) S fuel (listed.setIfInBounds i true) (a.put o.dst undef) w'
  rw [hd]
  exact ⟨hS, next _ ha⟩

theorem RO.skip (hi : ops[i]? = some o) (hg : Wants E o ops = some false) (hd : o.dst = some d) (hn : Nat.blt d n = true) (hS : S w)
    (next : RH P n ops S K fuel (listed.setIfInBounds i true) ((d, undef) :: E) w) : RO P n ops S K fuel listed i E w := by
  intro a ha
  unfold wpOp
  rw [hi]
  show if Region.wanted o (yielded ops a.tmps) = true then _ else _
  rw [if_neg (by rw [Wants.spec ha hg]; exact Bool.false_ne_true), hd]
  exact ⟨hS, next _ (ha.put hn undef)⟩

theorem RO.call {f : FuncId} {args : Array Value} {R : Ending → World → Prop} (hi : ops[i]? = some o) (hg : Wants E o ops = some true) (hd : o.dst = some d) (hn : Nat.blt d n = true) (hr : Yc P E o w f args) (hc : Calls P f args w R)
    (next : ∀ e w', R e w' → ∃ v, e = .returned v ∧ S w' ∧ RH P n ops S K fuel (listed.setIfInBounds i true) ((d, v) :: E) w') : RO P n ops S K fuel listed i E w := by
  intro a ha
  unfold wpOp
  rw [hi]
  show if Region.wanted o (yielded ops a.tmps) = true then _ else _
  rw [if_pos (Wants.spec ha hg)]
  refine .inl ?_
  unfold Oper.wp
  rw [hr a.eval (fun x u hx => ha.ev hx)]
  refine Calls.mono hc fun e w' he => ?_
  obtain ⟨v, rfl, hS, hn'⟩ := next e w' he
  show S w' ∧ wpAnyH P .any ops (Q0 n K) S fuel (listed.setIfInBounds i true) (a.put o.dst v) w'
  rw [hd]
  exact ⟨hS, hn' _ (ha.put hn v)⟩
end

/-! ### Code -/

def CW (P : Program) (n : Nat) (c : Code) (Q : Exit → Env → World → Prop) (E : Env) (w : World) : Prop :=
  ∀ a, Has n E a → c.wp P (fun e a' w' => ∃ E', Has n E' a' ∧ Q e E' w') a w

def SeqQ (P : Program) (n : Nat) (y : Code) (Q : Exit → Env → World → Prop) : Exit → Env → World → Prop
  | .normal, E, w => CW P n y Q E w
  | e, E, w => Q e E w

def BlockQ (id : Nat) (Q : Exit → Env → World → Prop) : Exit → Env → World → Prop
  | .exit id', E, w => match Nat.beq id' id with
    | true => Q .normal E w
    | false => Q (.exit id') E w
  | e, E, w => Q e E w

def LoopQ {α : Type} (E0 : α → Env) (R : α → Nat → World → Prop) (k : Nat) (Q : Exit → Env → World → Prop) : Exit → Env → World → Prop
  | .normal, E, w => ∃ x k', k' < k ∧ R x k' w ∧ Sub (E0 x) E
  | e, E, w => Q e E w

section
variable {P : Program} {n : Nat} {c x y : Code} {Q Q' : Exit → Env → World → Prop} {E E' : Env} {w : World}

theorem CW.weak (h : CW P n c Q E w) (hs : Sub E E') : CW P n c Q E' w := fun a ha => h a (ha.sub hs)

theorem CW.mono (h : CW P n c Q E w) (hq : ∀ e E w, Q e E w → Q' e E w) : CW P n c Q' E w := fun a ha =>
  wp_mono (h a ha) fun _ _ _ ⟨E', h1, h2⟩ => ⟨E', h1, hq _ _ _ h2⟩

theorem CW.seq (h : CW P n x (SeqQ P n y Q) E w) : CW P n (.seq x y) Q E w := fun a ha => by
  refine wp_seq (wp_mono (h a ha) fun e a' w' ⟨E', h1, h2⟩ => ?_)
  cases e with
  | normal => exact h2 a' h1
  | _ => exact ⟨E', h1, h2⟩

theorem CW.block {id : Nat} (h : CW P n c (BlockQ id Q) E w) : CW P n (.block id c) Q E w := fun a ha => by
  refine wp_block (wp_mono (h a ha) fun e a' w' ⟨E', h1, h2⟩ => ?_)
  cases e with
  | exit id' =>
    simp only [BlockQ] at h2
    simp only [Exit.inBlock]
    split
    · rename_i he
      subst he
      have hb : Nat.beq id' id' = true := Nat.beq_refl _
      simp only [hb] at h2
      exact ⟨E', h1, h2⟩
    · rename_i he
      have hb : Nat.beq id' id = false := by
        cases hb : Nat.beq id' id with
        | false => rfl
        | true => exact absurd (Nat.eq_of_beq_eq_true hb) he
      simp only [hb] at h2
      exact ⟨E', h1, h2⟩
  | _ => exact ⟨E', h1, h2⟩

theorem CW.exit {id : Nat} (h : Q (.exit id) E w) : CW P n (.exit id) Q E w := fun _ ha => wp_exit ⟨E, ha, h⟩
theorem CW.ret (h : Q .ret E w) : CW P n .ret Q E w := fun _ ha => wp_ret ⟨E, ha, h⟩
theorem CW.skip (h : Q .normal E w) : CW P n .skip Q E w := fun _ ha => wp_skip ⟨E, ha, h⟩

theorem CW.cond {cnd : Operand} {b : Bool} (hc : E.ev cnd = some (.bool b)) (ht : b = true → CW P n x Q E w) (hf : b = false → CW P n y Q E w) : CW P n (.cond cnd x y) Q E w := fun a ha => by
  have he := ha.ev hc
  cases b with
  | true => exact wp_cond_true he (ht rfl a ha)
  | false => exact wp_cond_false he (hf rfl a ha)
theorem CW.condT {cnd : Operand} (hc : E.ev cnd = some (.bool true)) (ht : CW P n x Q E w) : CW P n (.cond cnd x y) Q E w := fun a ha => wp_cond_true (ha.ev hc) (ht a ha)
theorem CW.condF {cnd : Operand} (hc : E.ev cnd = some (.bool false)) (ht : CW P n y Q E w) : CW P n (.cond cnd x y) Q E w := fun a ha => wp_cond_false (ha.ev hc) (ht a ha)

theorem CW.loop {α : Type} (E0 : α → Env) (R : α → Nat → World → Prop) (x0 : α) (k0 : Nat) (h0 : R x0 k0 w) (hs : Sub (E0 x0) E)
    (h : ∀ x k w, R x k w → CW P n c (LoopQ E0 R k Q) (E0 x) w) : CW P n (.loop c) Q E w := fun a ha => by
  intro b kk cs
  have key : ∀ k a w, (∃ x, R x k w ∧ Has n (E0 x) a) →
      ∃ e a' w', (∃ E', Has n E' a' ∧ Q e E' w') ∧ Arrives P (lone (b.at a (.code c :: .inLoop c :: kk)) cs w) b kk cs e a' w' := by
    intro k
    induction k using Nat.strongRecOn with
    | _ k ih =>
      intro a w ⟨x, hR, hE⟩
      obtain ⟨e, a₁, w₁, ⟨E', hE', hq⟩, harr⟩ := h x k w hR a hE b (.inLoop c :: kk) cs
      cases e with
      | normal =>
        obtain ⟨x', k', hlt, hR', hs'⟩ := hq
        obtain ⟨e₂, a₂, w₂, hq₂, harr₂⟩ := ih k' hlt a₁ w₁ ⟨x', hR', hE'.sub hs'⟩
        exact ⟨e₂, a₂, w₂, hq₂, .of_steps (Steps.trans harr (.one step_inLoop)) harr₂⟩
      | exit id => exact ⟨_, a₁, w₁, ⟨E', hE', hq⟩, .pass (x := .inLoop c) rfl (fun _ _ => .inl (by simp)) harr⟩
      | goto l => exact ⟨_, a₁, w₁, ⟨E', hE', hq⟩, .pass (x := .inLoop c) rfl (fun _ _ => .inl (by simp)) harr⟩
      | ret => exact ⟨_, a₁, w₁, ⟨E', hE', hq⟩, .pass (x := .inLoop c) rfl (fun _ _ => .inl (by simp)) harr⟩
      | panic ch => exact ⟨_, a₁, w₁, ⟨E', hE', hq⟩, .pass (x := .inLoop c) rfl (fun _ _ => .inl (by simp)) harr⟩
      | outgrown => exact ⟨_, a₁, w₁, ⟨E', hE', hq⟩, .pass (x := .inLoop c) rfl (fun _ _ => .inl (by simp)) harr⟩
  obtain ⟨e, a', w', hq, harr⟩ := key k0 a w ⟨x0, h0, ha.sub hs⟩
  exact ⟨e, a', w', hq, .of_steps (.one step_loop) harr⟩

theorem CW.region {id : Nat} {l : List Oper} (h : RW P n l.toArray (fun E' w' => Q .normal E' w') l E w) : CW P n (.region id l.toArray false) Q E w := fun a ha => by
  refine wp_mono (wp_region_lit (h a ha)) fun e a' w' ⟨he, E', h1, h2⟩ => ?_
  subst he
  exact ⟨E', h1, h2⟩

theorem CW.drawn {id : Nat} {l : List Oper} (S : World → Prop) (hm : P.follows .mixedOrders = true)
    (h : RH P n l.toArray S (fun E' w' => Q .normal E' w') l.toArray.size (Array.replicate l.toArray.size false) E w.drew) : CW P n (.region id l.toArray true) Q E w := fun a ha => by
  refine wp_mono (wp_region_held (S := S) hm (h a ha)) fun e a' w' ⟨he, E', h1, h2⟩ => ?_
  subst he
  exact ⟨E', h1, h2⟩
end

/-! ### Functions -/

def argsEnv : Nat → List Value → Env
  | _, [] => []
  | i, v :: l => (i, v) :: argsEnv (i + 1) l

theorem argsEnv_get : ∀ (l : List Value) (i t : Nat) (v : Value), Env.get (argsEnv i l) t = some v → i ≤ t ∧ l[t - i]? = some v
  | [], _, _, _, h => by cases h
  | u :: l, i, t, v, h => by
    by_cases hit : i = t
    · subst hit
      rw [argsEnv, Env.get_hit] at h
      cases h
      simp
    · rw [argsEnv, Env.get_miss _ _ hit] at h
      obtain ⟨h1, h2⟩ := argsEnv_get l (i + 1) t v h
      refine ⟨by omega, ?_⟩
      rw [show t - i = (t - (i + 1)) + 1 from by omega]
      simpa using h2

/-- What a function comes to at its end. -/
def FinQ (P : Program) (fn : Func) (R : Ending → World → Prop) : Exit → Env → World → Prop := fun e E w =>
  (e = .normal ∨ e = .ret) ∧ ∃ v, (∀ tmps : Array Value, (∀ t u, Env.get E t = some u → tmps[t]? = some u) → (results fn tmps).run P w = .ok v w) ∧ R (.returned v) w

theorem calls {P : Program} {f : FuncId} {fn : Func} {c : Code} {n : Nat} {l : List Value} {w : World} {R : Ending → World → Prop} (hf : P.funcs[f]? = some fn) (hb : fn.body = some c) (hn : fn.ntmps = n) (hl : Nat.ble l.length n = true)
    (h : CW P n c (FinQ P fn R) (argsEnv 0 l) w) : Calls P f l.toArray w R := by
  have hl' : l.length ≤ n := by simpa using hl
  refine calls_of_wp hf hb (wp_mono (h _ ⟨rfl, ?_, fun t v ht => ?_⟩) ?_)
  · simp [hn]; omega
  · obtain ⟨_, h2⟩ := argsEnv_get l 0 t v ht
    rw [Nat.sub_zero] at h2
    have hlt : t < l.length := (List.getElem?_eq_some_iff.1 h2).1
    rw [Array.getElem?_append_left (by simpa using hlt)]
    simpa using h2
  · rintro e a' w' ⟨E', h1, he, v, h2, h3⟩
    rcases he with rfl | rfl
    · exact ⟨h1.defers, v, h2 _ h1.get, h3⟩
    · exact ⟨h1.defers, v, h2 _ h1.get, h3⟩

section
variable {P : Program} {fn : Func} {R : Ending → World → Prop} {E : Env} {w : World} {t u : Nat} {v v' : Value} {e : Exit}
theorem fin0 (he : e = .normal ∨ e = .ret) (h : fn.results = #[]) (hR : R (.returned (.tuple #[])) w) : FinQ P fn R e E w :=
  ⟨he, _, fun _ _ => results_none h _ P w, hR⟩
theorem fin1 (he : e = .normal ∨ e = .ret) (h : fn.results = #[.tmp t]) (hv : Env.get E t = some v) (hR : R (.returned v) w) : FinQ P fn R e E w :=
  ⟨he, v, fun tmps ht => by rw [results_tmp h]; simp [ht t v hv], hR⟩
theorem fin2 (he : e = .normal ∨ e = .ret) (h : fn.results = #[.tmp t, .tmp u]) (hv : Env.get E t = some v) (hv' : Env.get E u = some v') (hR : R (.returned (.tuple #[v, v'])) w) : FinQ P fn R e E w :=
  ⟨he, _, fun tmps ht => by rw [results_tmp2 h]; simp [ht t v hv, ht u v' hv'], hR⟩
/-- one result, which lies in memory -/
theorem finC {a : Addr} {ty : TypeId} (he : e = .normal ∨ e = .ret) (h : fn.results = #[.cell t ty]) (hv : Env.get E t = some (.pointer (some a))) (hl : (loadVar ty a).run P w = .ok v w) (hR : R (.returned v) w) : FinQ P fn R e E w :=
  ⟨he, v, fun tmps ht => by simp [results, h, ht t _ hv, asAddr, hl], hR⟩
theorem finC1 {a : Addr} {ty : TypeId} (he : e = .normal ∨ e = .ret) (h : fn.results = #[.cell t ty, .tmp u]) (hv : Env.get E t = some (.pointer (some a))) (hl : (loadVar ty a).run P w = .ok v w) (hv' : Env.get E u = some v')
    (hR : R (.returned (.tuple #[v, v'])) w) : FinQ P fn R e E w :=
  ⟨he, _, fun tmps ht => by simp [results, h, ht t _ hv, ht u _ hv', asAddr, hl], hR⟩
end
end Go.Ev
