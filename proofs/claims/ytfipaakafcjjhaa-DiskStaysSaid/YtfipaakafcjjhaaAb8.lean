/- A range over a function: its rounds. Program-independent. -/
import Derived.Test.YtfipaakafcjjhaaAb7
import Derived.RangeFuncNested
import Derived.RangeFuncBound
import Derived.Shelf.Abstract
import Derived.TacticsIn
import Derived.OwnWalkIn
set_option linter.unusedSectionVars false
set_option linter.unusedVariables false
set_option linter.unusedSimpArgs false
namespace Go.Ab
open Go Go.RowKit Go.Shelf Go.Proofs

/-! ### Code in a round -/

/-- no operation of the list defers a call -/
def plainOp (o : Oper) : Bool := match o.op with
  | .defer _ => false
  | _ => true

theorem plainOp.ne {o : Oper} (h : plainOp o = true) : ∀ c, o.op ≠ .defer c := fun c e => by
  unfold plainOp at h
  rw [e] at h
  cases h

theorem operIn_of {P : Program} {l m : Nat} {o : Oper} {a : Act} {w : World} {K K' : Act → World → Prop} {Q : Exit → Act → World → Prop} (hp : plainOp o = true) (h : o.wp P a w K Q) (hK : ∀ a w, K a w → K' a w) : o.wpIn (Fence.wide.inRound l) m P a w K' Q := by
  refine ⟨fun _ _ => trivial, ?_⟩
  rw [Fence.inRound_round, Oper.semAt_some l _ _ (plainOp.ne hp)]
  unfold Oper.wp at h
  generalize (execOp a.eval o).run P w = r at h
  cases r with
  | ok x w' =>
    cases x with
    | value v => exact hK _ _ h
    | skip => exact hK _ _ h
    | defer d => exact hK _ _ h
    | enter f args =>
      refine ⟨fun h => by simp [Fence.inRound, Fence.wide] at h, CallsIn.inRound l (callsIn_wide.2 (Calls.mono h fun e w'' he => ?_))⟩
      cases e with
      | returned v => exact hK _ _ he
      | panicked ch => exact he
      | outgrown => exact he
    | row row args =>
      refine ⟨fun h => by simp [Fence.inRound, Fence.wide] at h, fun c cs _ => ?_⟩
      obtain ⟨v, w'', q1, q2⟩ := h c cs
      exact ⟨v, w'', hK _ _ q1, stepsIn_wide.2 q2⟩
    | _ => exact h.elim
  | halt x w' =>
    cases x with
    | panic v => exact h
    | _ => exact h.elim

theorem wpListIn_of {P : Program} {l m : Nat} {ops : Array Oper} {Q : Exit → Act → World → Prop} (hQ : ¬ LetsOut Q) : ∀ (rest : List Oper) (a : Act) (w : World), rest.all plainOp = true → wpList P ops Q rest a w → wpListIn (Fence.wide.inRound l) m P ops Q rest a w
  | [], _, _, _, h => h
  | o :: rest, a, w, hp, h => by
    rw [List.all_cons, Bool.and_eq_true] at hp
    unfold wpList at h
    unfold wpListIn
    by_cases hw : Region.wanted o (yielded ops a.tmps) = true
    · rw [if_pos hw] at h ⊢
      rcases h with h | h
      · exact operIn_of hp.1 h fun a' w' h' => wpListIn_of hQ rest a' w' hp.2 h'
      · exact absurd h.2 hQ
    · rw [if_neg hw] at h ⊢
      exact ⟨fun _ _ => trivial, wpListIn_of hQ rest _ _ hp.2 h⟩

def CWR (P : Program) (C : Cx) (n : Nat) (c : Code) (Q : Exit → Env → List Res → Prop) (E : Env) (σ : List Res) : Prop :=
  ∀ lp m a w, Sim C n E σ a w → a.defers = [] → c.wpIn (Fence.wide.inRound lp) m P (fun e a' w' => a'.defers = [] ∧ ∃ E' σ', Sim C n E' σ' a' w' ∧ Q e E' σ') a w

def SeqR (P : Program) (C : Cx) (n : Nat) (y : Code) (Q : Exit → Env → List Res → Prop) : Exit → Env → List Res → Prop
  | .normal, E, σ => CWR P C n y Q E σ
  | e, E, σ => Q e E σ

section
variable {P : Program} {C : Cx} {n : Nat} {c x y : Code} {Q Q' : Exit → Env → List Res → Prop} {E E' : Env} {σ σ' : List Res}

theorem CWR.mono (h : CWR P C n c Q E σ) (hq : ∀ e E σ, Q e E σ → Q' e E σ) : CWR P C n c Q' E σ := fun lp m a w ha hd =>
  wpIn_mono (h lp m a w ha hd) fun _ _ _ ⟨hd', E', σ', h1, h2⟩ => ⟨hd', E', σ', h1, hq _ _ _ h2⟩

theorem CWR.seq (h : CWR P C n x (SeqR P C n y Q) E σ) : CWR P C n (.seq x y) Q E σ := fun lp m a w ha hd => by
  refine wpIn_seq (wpIn_mono (h lp m a w ha hd) fun e a' w' ⟨hd', E', σ', h1, h2⟩ => ?_)
  cases e with
  | normal => exact h2 lp m a' w' h1 hd'
  | _ => exact ⟨hd', E', σ', h1, h2⟩

theorem CWR.block {id : Nat} (h : CWR P C n c (BlockQ id Q) E σ) : CWR P C n (.block id c) Q E σ := fun lp m a w ha hd => by
  refine wpIn_block (wpIn_mono (h lp m a w ha hd) fun e a' w' ⟨hd', E', σ', h1, h2⟩ => ?_)
  cases e with
  | exit id' =>
    simp only [BlockQ] at h2
    simp only [Exit.inBlock]
    split
    · rename_i he
      subst he
      have hb : Nat.beq id' id' = true := Nat.beq_refl _
      simp only [hb] at h2
      exact ⟨hd', E', σ', h1, h2⟩
    · rename_i he
      have hb : Nat.beq id' id = false := by
        cases hb : Nat.beq id' id with
        | false => rfl
        | true => exact absurd (Nat.eq_of_beq_eq_true hb) he
      simp only [hb] at h2
      exact ⟨hd', E', σ', h1, h2⟩
  | _ => exact ⟨hd', E', σ', h1, h2⟩

theorem CWR.exit {id : Nat} (h : Q (.exit id) E σ) : CWR P C n (.exit id) Q E σ := fun _ _ _ _ ha hd => wpIn_exit ⟨hd, E, σ, ha, h⟩
theorem CWR.ret (h : Q .ret E σ) : CWR P C n .ret Q E σ := fun _ _ _ _ ha hd => wpIn_ret ⟨hd, E, σ, ha, h⟩
theorem CWR.skip (h : Q .normal E σ) : CWR P C n .skip Q E σ := fun _ _ _ _ ha hd => wpIn_skip ⟨hd, E, σ, ha, h⟩
theorem CWR.cond {cnd : Operand} {b : Bool} (hc : E.ev cnd = some (.lit (.bool b))) (ht : b = true → CWR P C n x Q E σ) (hf : b = false → CWR P C n y Q E σ) : CWR P C n (.cond cnd x y) Q E σ := fun lp m a w ha hd =>
  wpIn_cond_split (ev_bool ha hc) (fun h => ht h lp m a w ha hd) (fun h => hf h lp m a w ha hd)
theorem CWR.region {id : Nat} {l : List Oper} (hp : l.all plainOp = true) (h : RW P C n l.toArray (fun E' σ' => Q .normal E' σ') l E σ) : CWR P C n (.region id l.toArray false) Q E σ := fun lp m a w ha hd => by
  refine wpIn_mono (wpIn_region_lit (wpListIn_of (fun ⟨_, _, h⟩ => by cases h.1) l a w hp (h a w ha))) fun e a' w' ⟨he, hd', E', σ', h1, h2⟩ => ?_
  subst he
  exact ⟨hd'.trans hd, E', σ', h1, h2⟩
theorem CWR.sel {cd : Code} {Q : Exit → Env → List Res → Prop} (is : List Nat) (hs : Ab.sel σ is = some σ') (h : CWR P C n cd Q E σ') : CWR P C n cd Q E σ := fun lp m a w ha hd => h lp m a w (ha.sel is hs) hd
end

theorem CWR.weak {P : Program} {C : Cx} {n : Nat} {c : Code} {Q : Exit → Env → List Res → Prop} {E E' : Env} {σ : List Res} (h : CWR P C n c Q E σ) (hs : Sub E E') : CWR P C n c Q E' σ := fun lp m a w ha hd => h lp m a w (ha.sub hs) hd
theorem CWR.cut {P : Program} {C : Cx} {n : Nat} {c : Code} {Q : Exit → Env → List Res → Prop} {E : Env} {σ : List Res} (K : Env → List Res → Prop) (first : CWR P C n c (CutQ K Q) E σ) (rest : ∀ E σ, K E σ → Q .normal E σ) : CWR P C n c Q E σ :=
  CWR.mono first fun e E σ h => by cases e <;> first | exact rest E σ h | exact h

/-- A box that is not written any more is data. -/
theorem Vw.box {σ : List Res} {b : Nat} {T : TypeId} {cs : List AV} (i : Nat) (hσ : σ[i]? = some (.box b T cs)) : Vw σ (.lit (.pointer (some ⟨b, 0, none⟩))) (.fp cs) := fun A w v hd hr => by
  have hv := hr.litEq
  subst hv
  have hm := List.mem_of_getElem? hσ
  obtain ⟨us, h1, h2⟩ := hd.1 _ hm
  exact .fp cs b 0 us h1.lt ⟨.inr (mem_blks.2 ⟨_, hm, rfl⟩), .inr ⟨_, _, h1⟩⟩ h2.1 (fun j v hj => by rw [Nat.zero_add]; exact h1.cell (by simpa using hj)) (fun j a v q1 q2 => (h2.2 j a v q1 q2).mono fun b _ hA => ⟨.inl hA, rfl⟩)
theorem Vw.fn {σ : List Res} {f : Go.Fn} {cs cs' : List AV} (h : VwL σ cs cs') : Vw σ (.fn f cs) (.fn f cs') := fun A w v hd hr => by
  obtain ⟨us, rfl, h1⟩ := hr.fnInv
  have := h A w us hd h1
  exact .fn f _ us this.1 this.2

/-! ### The rule -/

/-- Function gf, with caps captured, calls yield with the values es, one after the other, as long as yield says so; it reads data that is not written. -/
def Iter (P : Program) (gf : FuncId) (caps : List AV) (es : List (List AV)) : Prop :=
  ∀ (A : Nat → Prop) (w : World) (lb : List Value), RelL A w caps lb → ∃ us : List (List Value), us.length = es.length ∧ (∀ i, i < es.length → RelL A w es[i]! us[i]!) ∧
    SeqStopsK Fence.wide 1 P gf lb.toArray (fun i : Fin es.length => us[i.1]!.toArray) (fun W W' => ∀ b, b < w.heap.size → A b → W'.heap[b]? = W.heap[b]?) (fun xs => xs = List.finRange es.length) (fun pre => pre <+: List.finRange es.length) es.length w

/-- the parameters of a round -/
def penv : List Tmp → List AV → Env → Env
  | p :: ps, e :: es, E => penv ps es ((p, e) :: E)
  | _, _, E => E

theorem Slots.penv {A : Nat → Prop} {w : World} : ∀ (ps : List Tmp) (es : List AV) (us : List Value) (E : Env) (tmps : Array Value), Slots A w E tmps → RelL A w es us → (∀ p ∈ ps, p < tmps.size) → ps.length = es.length →
    Slots A w (penv ps es E) ((ps.zip us).foldl (fun t (p, v) => t.setIfInBounds p v) tmps)
  | [], [], us, E, tmps, h, _, _, _ => by simpa [Ab.penv] using h
  | [], _ :: _, _, _, _, _, _, _, hl => by cases hl
  | _ :: _, [], _, _, _, _, _, _, hl => by cases hl
  | p :: ps, e :: es, [], E, tmps, h, hr, _, _ => by have := hr.1; simp at this
  | p :: ps, e :: es, u :: us, E, tmps, h, hr, hp, hl => by
    have h1 : Slots A w ((p, e) :: E) (tmps.setIfInBounds p u) := Slots.put (a := { tmps := tmps, defers := [] }) h (hp p List.mem_cons_self) (hr.2 0 e u rfl rfl)
    exact Slots.penv ps es us _ _ h1 ⟨by have := hr.1; simpa using this, fun j a v q1 q2 => hr.2 (j + 1) a v (by simpa using q1) (by simpa using q2)⟩ (fun q hq => by simpa using hp q (List.mem_cons_of_mem _ hq)) (by simpa using hl)

def setAll (tmps : Array Value) (zs : List (Tmp × Value)) : Array Value := zs.foldl (fun t (p, v) => t.setIfInBounds p v) tmps
theorem setAll_size : ∀ (zs : List (Tmp × Value)) (tmps : Array Value), (setAll tmps zs).size = tmps.size
  | [], _ => rfl
  | z :: zs, tmps => (setAll_size zs (tmps.setIfInBounds z.1 z.2)).trans (by simp)
theorem setAll_eq (ps : Array Tmp) (us : List Value) (tmps : Array Value) : (ps.zip us.toArray).foldl (fun t (p, v) => t.setIfInBounds p v) tmps = setAll tmps (ps.toList.zip us) := by
  rw [← Array.foldl_toList, Array.toList_zip]
  rfl

/-- What a stretch of code did, seen from its own beginning, seen from the function's. -/
theorem tr_out {C : Cx} {σ σ1 : List Res} {W W' : World} (h : Good C σ W) (h' : Good ⟨W, al C σ, blks σ⟩ σ1 W') : Tr C (blks σ) σ W σ1 W' := by
  have hal : ∀ b, al ⟨W, al C σ, blks σ⟩ σ1 b → al C σ1 b := fun b hb => by
    refine ⟨?_, hb.2⟩
    rcases hb.1 with q | q | q
    · exact q.1
    · rcases h.own b q with q | q
      · exact .inr (.inl q)
      · exact .inr (.inr q)
    · exact .inr (.inr (Nat.le_trans h.kept.size q))
  refine ⟨⟨h.kept.trans h'.kept (fun b hb hlt => (h.own b hb).elim id (fun q => by omega)), fun r hr => (h'.res r hr).mono (fun b _ hA => ⟨hal b hA, rfl⟩) (fun _ _ => rfl), h'.dis, fun b hb => ?_⟩, h'.kept, fun b hb hA => ⟨⟨hA.1, fun hx => ?_⟩, hA.2⟩⟩
  · rcases h'.own b hb with q | q
    · exact h.own b q
    · exact .inr (Nat.le_trans h.kept.size q)
  · rcases h'.own b hx with q | q
    · exact hA.2 q
    · have q' : W.heap.size ≤ b := q
      omega
theorem al_out {C : Cx} {σ σ1 : List Res} {W : World} (h : Good C σ W) : ∀ b, al ⟨W, al C σ, blks σ⟩ σ1 b → al C σ1 b := fun b hb => by
  refine ⟨?_, hb.2⟩
  rcases hb.1 with q | q | q
  · exact q.1
  · rcases h.own b q with q | q
    · exact .inr (.inl q)
    · exact .inr (.inr q)
  · exact .inr (.inr (Nat.le_trans h.kept.size q))

/-- A function's state, seen afresh. -/
theorem Good.fresh {C : Cx} {σ : List Res} {W : World} (h : Good C σ W) : Good ⟨W, al C σ, blks σ⟩ σ W :=
  ⟨Kp.refl _ _, fun r hr => (h.res r hr).mono (fun b _ hA => ⟨⟨.inl hA, hA.2⟩, rfl⟩) (fun _ _ => rfl), h.dis, fun b hb => .inl hb⟩

theorem Good.less {C : Cx} {σ σ' : List Res} {W : World} (h : Good C σ W) (hs : List.Sublist σ' σ) : Good C σ' W := by
  have hm : ∀ r ∈ σ', r ∈ σ := fun r hr => hs.subset hr
  exact ⟨h.kept, fun r hr => (h.res r (hm r hr)).mono (fun b _ hA => ⟨⟨hA.1, fun hx => hA.2 (blks_sub hm b hx)⟩, rfl⟩) (fun _ _ => rfl), h.dis.sublist (hs.filterMap _), fun b hb => h.own b (blks_sub hm b hb)⟩

/-- what the loop began with lies as it lay -/
def Lay (C : Cx) (σ : List Res) (w : World) (σ' : List Res) (W : World) : Prop := ∀ b, b < w.heap.size → al C σ b → al C σ' b ∧ W.heap[b]? = w.heap[b]?

theorem Lay.less {C : Cx} {σ σ' σ'' : List Res} {w W : World} (h : Lay C σ w σ' W) (hs : List.Sublist σ'' σ') : Lay C σ w σ'' W := fun b hb hA =>
  ⟨⟨(h b hb hA).1.1, fun hx => (h b hb hA).1.2 (blks_sub (fun _ hr => hs.subset hr) b hx)⟩, (h b hb hA).2⟩
theorem Lay.tr {C : Cx} {X : List Nat} {σ σ' σ'' : List Res} {w W W' : World} (h : Lay C σ w σ' W) (t : Tr C X σ' W σ'' W') (hs : w.heap.size ≤ W.heap.size) : Lay C σ w σ'' W' := fun b hb hA =>
  have q := t.keep b (Nat.lt_of_lt_of_le hb hs) (h b hb hA).1
  ⟨q.1, q.2.trans (h b hb hA).2⟩

theorem tn_grown {C : Cx} {W W' : World} {row : Option Nat} (hg : W.grownBy W' row) (hw : ∀ r, row = some r → C.w0.heap.size ≤ r ∧ ∃ o : Obj, W.heap[r]? = some o ∧ o.isCells = false) (h0 : C.w0.heap.size ≤ W.heap.size) : Tn C W W' :=
  ⟨hg.os, hg.tape, hg.output, hg.size, fun k hk => hg.block k (by omega) (fun e => by have := (hw k e.symm).1; omega), fun b cs T m hx => hg.block b (Array.getElem?_eq_some_iff.1 hx).1 (fun e => by
    obtain ⟨_, o, h1, h2⟩ := hw b e.symm
    rw [hx] at h1
    cases h1
    cases h2)⟩

/-- What holds between two rounds. -/
def Mid (C : Cx) (σ : List Res) (w : World) (J : List Res → Prop) (W : World) : Prop :=
  ∃ σ', J σ' ∧ Good C σ' W ∧ Lay C σ w σ' W ∧ w.heap.size ≤ W.heap.size

theorem Mid.own {α : Type} {C : Cx} {σ : List Res} {w : World} (hw : C.w0.heap.size ≤ w.heap.size) (J : α → List Res → Prop) : OwnFrom w.heap.size (fun pre => Mid C σ w (J pre)) := fun pre W W' row ⟨σ', h1, h2, h3, h4⟩ hg hr => by
  refine ⟨σ', h1, h2.turn (tn_grown hg (fun r e => ⟨by have := (hr r e).1; omega, (hr r e).2⟩) h2.kept.size), fun b hb hA => ⟨(h3 b hb hA).1, ?_⟩, Nat.le_trans h4 hg.size⟩
  exact (hg.block b (by omega) (fun e => by have := (hr b e.symm).1; omega)).trans (h3 b hb hA).2

/-- what is no cells is not written -/
theorem keepsFrom_tr {C : Cx} {σ σ' : List Res} {W W' : World} (B : Nat) (h : Good C σ W) (t : Tr C (blks σ) σ W σ' W') : KeepsFrom B W W' :=
  ⟨t.kp.size, fun k o _ hk ho => (t.kp.block k (Array.getElem?_eq_some_iff.1 hk).1 (fun hx => by
    obtain ⟨r, h1, h2⟩ := mem_blks.1 hx
    obtain ⟨cs, T, m, h3⟩ := (h.res r h1).cells h2
    rw [hk] at h3
    cases h3
    cases ho)).trans hk⟩

/-- A round's frame, its variables set. -/
def Rnd (C : Cx) (n : Nat) (σ : List Res) (w : World) (KA : Env → List Res → Prop) (a : Act) (W : World) : Prop :=
  ∃ E1 σ1, KA E1 σ1 ∧ Sim C n E1 σ1 a W ∧ a.defers = [] ∧ Lay C σ w σ1 W ∧ w.heap.size ≤ W.heap.size

theorem Rnd.own {C : Cx} {n : Nat} {σ : List Res} {w : World} (hw : C.w0.heap.size ≤ w.heap.size) (KA : Env → List Res → Prop) (a : Act) : OwnFrom w.heap.size (fun (_ : Unit) => Rnd C n σ w KA a) := fun _ W W' row ⟨E1, σ1, h1, h2, h5, h3, h4⟩ hg hr => by
  have ht := tn_grown (C := C) hg (fun r e => ⟨by have := (hr r e).1; omega, (hr r e).2⟩) h2.good.kept.size
  refine ⟨E1, σ1, h1, ⟨.nil h5, h2.size, h2.slots.turn ht, h2.good.turn ht⟩, h5, fun b hb hA => ⟨(h3 b hb hA).1, ?_⟩, Nat.le_trans h4 hg.size⟩
  exact (hg.block b (by omega) (fun e => by have := (hr b e.symm).1; omega)).trans (h3 b hb hA).2

theorem blks_lt {C : Cx} {σ : List Res} {W : World} (h : Good C σ W) : ∀ b ∈ blks σ, b < W.heap.size := fun b hb => by
  obtain ⟨r, h1, h2⟩ := mem_blks.1 hb
  exact (h.res r h1).lt h2

theorem CW.rf {P : Program} {C : Cx} {n : Nat} {Q : Exit → Env → List Res → Prop} {E : Env} {σ : List Res} {g : Operand} {ps : Array Tmp} {assign body : Code} {gf : Nat} {caps : List AV} {es : List (List AV)}
    (J : List Res → Prop) (Jx : Nat → List Res → Prop) (p : Nat → Bool) (KA : Nat → Env → List Res → Prop) (hg : E.ev g = some (.fn (.func gf) caps)) (eg : Enters P gf) (hit : Iter P gf caps es) (hps : ∀ i, i < es.length → es[i]!.length = ps.size) (hpn : ∀ p ∈ ps.toList, p < n) (h0 : J σ)
    (hassign : ∀ C' i σ', i < es.length → J σ' → CWR P C' n assign (fun e E1 σ1 => e = .normal ∧ KA i E1 σ1 ∧ ∃ σ2, J σ2 ∧ List.Sublist σ2 σ1) (penv ps.toList es[i]! E) σ')
    (hbody : ∀ C' i E1 σ1, i < es.length → KA i E1 σ1 → CWR P C' n body (fun e _ σ2 => (e = .normal ∧ p i = false ∧ ∃ σ3, J σ3 ∧ List.Sublist σ3 σ2) ∨ (e = .ret ∧ p i = true ∧ ∃ σ3, Jx i σ3 ∧ List.Sublist σ3 σ2)) E1 σ1)
    (hdone : ∀ σ', J σ' → (∀ i, i < es.length → p i = false) → Q .normal E σ')
    (hstop : ∀ i σ', i < es.length → (∀ j, j < i → p j = false) → p i = true → Jx i σ' → Q .ret E σ') : CW P C n (.rangeFunc g ps assign body) Q E σ := fun a w ha => by
  have hgv := ha.slots.ops g _ hg
  obtain ⟨lb, hlb, hev⟩ : ∃ lb : List Value, RelL (al C σ) w caps lb ∧ a.eval g = .func (.func gf) #[] lb.toArray := by
    generalize hx : AV.fn (.func gf) caps = x at hgv
    generalize a.eval g = v at hgv
    cases hgv with
    | fn f cs us hl hr => cases hx; exact ⟨us, ⟨hl, hr⟩, rfl⟩
    | _ => cases hx
  obtain ⟨us, hul, hur, hseq⟩ := hit (al C σ) w lb hlb
  have hw0 : C.w0.heap.size ≤ w.heap.size := ha.good.kept.size
  have hKt : ∀ {A B D : World}, (∀ b, b < w.heap.size → al C σ b → B.heap[b]? = A.heap[b]?) → (∀ b, b < w.heap.size → al C σ b → D.heap[b]? = B.heap[b]?) → (∀ b, b < w.heap.size → al C σ b → D.heap[b]? = A.heap[b]?) := fun h k b hb hA => (k b hb hA).trans (h b hb hA)
  have after : ∀ (a : Act) D W σ', Lay C σ w σ' W → Good C σ' W → w.heap.size ≤ W.heap.size → w.heap.size ≤ D → W.heap[D]? = some (.deferred (some [])) → Sim C n E σ a w → Sim C n E σ' { a with defers := { target := .collected D, args := #[] } :: a.defers } W := fun a D W σ' hL hG hSz hD hdf ha => by
    have hcell : ∀ (b : Nat) ds, W.heap[b]? = some (Obj.deferred ds) → b ∉ blks σ' := fun b ds hb hx => by
      obtain ⟨r, h1, h2⟩ := mem_blks.1 hx
      obtain ⟨cs, T, m, h3⟩ := (hG.res r h1).cells h2
      rw [hb] at h3
      cases h3
    refine ⟨?_, ha.size, fun s av q => ?_, hG⟩
    · obtain ⟨Ds, h1, h2, h3⟩ := ha.defers
      refine ⟨D :: Ds, by simp [h1], List.nodup_cons.2 ⟨fun hx => by have := (h3 D hx).1; omega, h2⟩, fun D' hD' => ?_⟩
      rcases List.mem_cons.1 hD' with rfl | hD'
      · exact ⟨(Array.getElem?_eq_some_iff.1 hdf).1, by omega, hcell _ _ hdf, hdf⟩
      · obtain ⟨q1, q2, q3, q4⟩ := h3 D' hD'
        have q5 := (hL D' q1 ⟨.inr (.inr q2), q3⟩).2.trans q4
        exact ⟨(Array.getElem?_eq_some_iff.1 q5).1, q2, hcell _ _ q5, q5⟩
    · obtain ⟨v, q1, q2⟩ := ha.slots s av q
      exact ⟨v, q1, q2.mono fun b hb hA => hL b hb hA⟩
  refine wpIn_wide.1 (wpIn_rangeFunc_ownH (F := Fence.wide) (n := 2) (g := g) (ps := ps) (assign := assign) (body := body) (α := Fin es.length) (w0 := w) (gf := gf) (lb := lb.toArray) rfl (by omega) hev trivial eg hseq hKt (fun W l o o' hl _ _ _ b hb _ => World.putObj_heap_other (by omega)) (Below.refl _ _) (fun x => ?_)
    (fun pre W => (∀ i ∈ pre, p i.1 = false) ∧ Mid C σ w J W) (fun c pre W => c = .ret ∧ (∃ ini i, pre = ini ++ [i] ∧ (∀ j ∈ ini, p j.1 = false) ∧ p i.1 = true ∧ Mid C σ w (Jx i.1) W))
    (OwnFrom.and (fun _ _ _ _ h _ _ => h) (Mid.own (α := List (Fin es.length)) hw0 (fun _ => J))) (fun c pre W W' row h hg hr => ?_) ⟨by simp, σ, h0, ha.good, fun b _ hA => ⟨hA, rfl⟩, Nat.le_refl _⟩
    (fun x a' => Rnd C n σ w (KA x.1) a') (fun x a' => Rnd.own hw0 _ a') ?_ ?_ ?_ ?_)
  · have := (hur x.1 x.2).1
    rw [List.size_toArray, this]
    exact hps x.1 x.2
  · obtain ⟨h1, ini, i, h2, h3, h4, h5⟩ := h
    exact ⟨h1, ini, i, h2, h3, h4, Mid.own (α := Unit) hw0 (fun _ => Jx i.1) () W W' row h5 hg hr⟩
  · intro l pre x W K ⟨hp, σ', hJ, hG, hL, hS⟩ hK
    have hsl : Slots (al ⟨W, al C σ', blks σ'⟩ σ') W (penv ps.toList es[x.1]! E) (setAll a.tmps (ps.toList.zip us[x.1]!)) := by
      refine Slots.penv _ _ _ _ _ (fun t av ht => ?_) ?_ (fun p hp => by rw [ha.size]; exact hpn p hp) (by rw [hps x.1 x.2]; simp)
      · obtain ⟨v, q1, q2⟩ := ha.slots t av ht
        exact ⟨v, q1, q2.mono fun b hb hA => ⟨⟨.inl (hL b hb hA).1, (hL b hb hA).1.2⟩, (hL b hb hA).2⟩⟩
      · exact (hur x.1 x.2).mono fun b hb hA => ⟨⟨.inl (hL b hb hA).1, (hL b hb hA).1.2⟩, (hL b hb hA).2⟩
    rw [setAll_eq]
    refine wpIn_mono (hassign ⟨W, al C σ', blks σ'⟩ x.1 σ' x.2 hJ l 0 _ W ⟨.nil rfl, (setAll_size _ _).trans ha.size, hsl, hG.fresh⟩ rfl) ?_
    · rintro e a' W' ⟨hd1, E1, σ1, hs1, rfl, hka, σ2, hj2, hsub⟩
      have t := tr_out hG hs1.good
      refine hK a' W' (keepsFrom_tr _ hG t) (fun b hb hA => t.kp.block b (Nat.lt_of_lt_of_le hb hS) (hL b hb hA).1.2) ⟨hp, σ2, hj2, t.good.less hsub, (hL.tr t hS).less hsub, Nat.le_trans hS t.kp.size⟩ ?_
      refine ⟨E1, σ1, hka, ⟨.nil hd1, hs1.size, fun s av q => ?_, t.good⟩, hd1, hL.tr t hS, Nat.le_trans hS t.kp.size⟩
      obtain ⟨v, q1, q2⟩ := hs1.slots s av q
      exact ⟨v, q1, q2.mono fun b _ hA => ⟨al_out hG b hA, rfl⟩⟩
  · intro l pre x a' W hl hr ⟨hp, _⟩ ⟨E1, σ1, hka, hs1, hd1, hL1, hS1⟩ hlt
    have hs2 : Sim ⟨W, al C σ1, blks σ1⟩ n E1 σ1 a' W := ⟨.nil hd1, hs1.size, fun s av q => by
      obtain ⟨v, q1, q2⟩ := hs1.slots s av q
      exact ⟨v, q1, q2.mono fun b _ hA => ⟨⟨.inl hA, hA.2⟩, rfl⟩⟩, hs1.good.fresh⟩
    refine wpIn_mono (hbody ⟨W, al C σ1, blks σ1⟩ x.1 E1 σ1 x.2 hka l 0 a' W hs2 hd1) ?_
    rintro e a2 W' ⟨_, E2, σ2, hs3, hq⟩
    have t := tr_out hs1.good hs3.good
    have hkf := keepsFrom_tr w.heap.size hs1.good t
    rcases hq with ⟨rfl, hpx, σ3, hj3, hsub⟩ | ⟨rfl, hpx, σ3, hj3, hsub⟩
    · refine ⟨hkf, fun b hb hA => t.kp.block b (Nat.lt_of_lt_of_le hb hS1) (hL1 b hb hA).1.2, fun i hi => ?_, σ3, hj3, t.good.less hsub, (hL1.tr t hS1).less hsub, Nat.le_trans hS1 t.kp.size⟩
      rcases List.mem_append.1 hi with hi | hi
      · exact hp i hi
      · rw [List.mem_singleton] at hi
        rw [hi]; exact hpx
    · exact ⟨hkf, rfl, pre, x, rfl, hp, hpx, σ3, hj3, t.good.less hsub, (hL1.tr t hS1).less hsub, Nat.le_trans hS1 t.kp.size⟩
  · intro D xs W hD hS ⟨hp, σ', hJ, hG, hL, hSz⟩ hdf
    subst hS
    exact ⟨E, σ', after a D W σ' hL hG hSz hD hdf ha, hdone σ' hJ fun i hi => hp ⟨i, hi⟩ (List.mem_finRange _)⟩
  · intro D c pre W hD hS ⟨hc, ini, i, hpre, hini, hi, σ', hJ, hG, hL, hSz⟩ hdf
    subst hc
    refine wpIn_ret ⟨E, σ', after a D W σ' hL hG hSz hD hdf ha, hstop i.1 σ' i.2 (fun j hj => ?_) hi hJ⟩
    refine hini ⟨j, by have := i.2; omega⟩ ?_
    subst hpre
    obtain ⟨rest, hrest⟩ := hS
    have hk : i.1 = ini.length := by
      have h1 : (List.finRange es.length)[ini.length]? = some i := by rw [← hrest]; simp
      obtain ⟨h2, h3⟩ := List.getElem?_eq_some_iff.1 h1
      rw [List.getElem_finRange] at h3
      rw [← h3]; rfl
    have h1 : (List.finRange es.length)[j]? = some ⟨j, by have := i.2; omega⟩ := by
      rw [List.getElem?_eq_getElem (by rw [List.length_finRange]; have := i.2; omega), List.getElem_finRange]; rfl
    rw [← hrest, List.append_assoc, List.getElem?_append_left (by omega)] at h1
    exact List.mem_of_getElem? h1
end Go.Ab
