/- Slice expressions, comparisons with nil, calls, functions, what is given up. Program-independent. -/
import Derived.Test.YtfipaakafcjjhaaAb4
import Derived.Lib.SliceRun
import Derived.RangeFuncLeaves
import Derived.RangeFuncNested
set_option linter.unusedSectionVars false
set_option linter.unusedVariables false
set_option linter.unusedSimpArgs false
namespace Go.Ab
open Go Go.RowKit

/-! ### parts of slices -/

theorem Rel.slTake {A : Nat → Prop} {w : World} {α : Type} [Inhabited α] {sz : Nat} {c : α → List AV} {l : List α} {p : Option Addr} {cap : Nat} (h : Rel A w (.sl sz c l) (.slice p l.length cap)) {lo hi cap' : Nat} (h1 : lo ≤ hi) (h2 : hi ≤ l.length) (hc' : hi - lo ≤ cap') (q : Option Addr) (hq : hi - lo = 0 ∨ q = p.map (·.add (lo * sz))) :
    Rel A w (.sl sz c ((l.take hi).drop lo)) (.slice q (hi - lo) cap') := by
  obtain ⟨p', cp, u, hv, hl, hcap, hz, hc, hr⟩ := h.slInv
  cases hv
  have hln : ((l.take hi).drop lo).length = hi - lo := by rw [List.length_drop, List.length_take]; omega
  have hget : ∀ i, i < hi - lo → ((l.take hi).drop lo)[i]! = l[lo + i]! := fun i hi' => by
    rw [getElem!_pos _ i (by rw [hln]; exact hi'), getElem!_pos l (lo + i) (by omega), List.getElem_drop, List.getElem_take]
  have hgoal : Rel A w (.sl sz c ((l.take hi).drop lo)) (.slice q ((l.take hi).drop lo).length cap') := by
    refine .sl sz c _ q cap' (fun i j => u (lo + i) j) (by omega) (by omega) (fun i hi' => ?_) (fun i hi' => ?_) (fun i j a hi' ha => ?_)
    · rw [hln] at hi'
      rw [hget i hi']; exact hz _ (by omega)
    · rw [hln] at hi'
      obtain ⟨b, off, hp, hb, hA, hcc⟩ := hc (lo + i) (by omega)
      refine ⟨b, off + lo * sz, ?_, hb, hA, fun j hj => ?_⟩
      · rcases hq with hq | hq
        · omega
        · rw [hq, hp, Option.map_some, add0]
      · have := hcc j hj
        rwa [Nat.add_mul, ← Nat.add_assoc] at this
    · rw [hln] at hi'
      rw [hget i hi'] at ha
      exact hr _ j a (by omega) ha
  rwa [hln] at hgoal

section
variable {P : Program} {E E' : Env} {σ σ' : List Res} {o : Oper} {T T' e : TypeId} {x y z : Operand} {av bv : AV} {v u : Value} {m n : Int} {b : Bool} {k k' : IntKind} {C : Cx} {X : List Nat}

theorem slice_run {w : World} {a : Option Addr} {len cap lo hi : Nat} {s : Nat} {L H : Option Value} (hT : P.underlying T = some (.slice e)) (hs : (P.info? e).map (·.size) = some s)
    (hb : (Instr.sliceBounds true len cap L H none).run P w = .ok (lo, hi, cap) w) : (Instr.slice T (.slice a len cap) L H none).run P w = .ok (.slice (if cap = lo then a else a.map (·.add (lo * s))) (hi - lo) (cap - lo)) w := by
  obtain ⟨j, hj, hj'⟩ := Option.map_eq_some_iff.1 hs
  simp [Instr.slice, run_underlying hT, hb, sizeOf, typeInfo, hj, hj']

theorem bounds_lohi {w : World} {len cap : Nat} (hh : 0 ≤ m ∧ m ≤ n ∧ n ≤ (len : Int)) (hc : len ≤ cap) : (Instr.sliceBounds true len cap (some (.int k m)) (some (.int k' n)) none).run P w = .ok (m.toNat, n.toNat, cap) w := by
  have h1 : 0 ≤ n ∧ n ≤ (cap : Int) := by omega
  have h2 : 0 ≤ m ∧ m ≤ ((n.toNat : Nat) : Int) := by omega
  simp [Instr.sliceBounds, Instr.sliceBound, asIntOf, h1]
  intro hc
  exfalso
  have := hc (by omega)
  omega
theorem bounds_hi {w : World} {len cap : Nat} (hh : 0 ≤ n ∧ n ≤ (len : Int)) (hc : len ≤ cap) : (Instr.sliceBounds true len cap none (some (.int k' n)) none).run P w = .ok (0, n.toNat, cap) w := by
  have h1 : 0 ≤ n ∧ n ≤ (cap : Int) := by omega
  simp [Instr.sliceBounds, Instr.sliceBound, asIntOf, h1]
theorem bounds_lo {w : World} {len cap : Nat} (hh : 0 ≤ m ∧ m ≤ (len : Int)) : (Instr.sliceBounds true len cap (some (.int k m)) none none).run P w = .ok (m.toNat, len, cap) w := by
  simp [Instr.sliceBounds, Instr.sliceBound, asIntOf, hh]

theorem slice_fin {A : Nat → Prop} {w : World} {ρ : Operand → Value} {α : Type} [Inhabited α] {sz : Nat} {c : α → List AV} {l : List α} {L H : Option Operand} {lo hi : Nat} (ho : o.op = .slice T x L H none) (hx : Rel A w (.sl sz c l) (ρ x)) (hT : P.underlying T = some (.slice e)) (hs : (P.info? e).map (·.size) = some sz) (h1 : lo ≤ hi) (h2 : hi ≤ l.length)
    (hb : ∀ cap, l.length ≤ cap → ∀ w', (Instr.sliceBounds true l.length cap (L.map ρ) (H.map ρ) none).run P w' = .ok (lo, hi, cap) w') : ∃ v, Rel A w (.sl sz c ((l.take hi).drop lo)) v ∧ ∀ w' : World, (execOp ρ o).run P w' = .ok (.value v) w' := by
  obtain ⟨p, cap, u, hv, hl, hcap, _⟩ := hx.slInv
  rw [hv] at hx
  refine ⟨.slice (if cap = lo then p else p.map (·.add (lo * sz))) (hi - lo) (cap - lo), hx.slTake h1 h2 (by omega) _ ?_, fun w' => ?_⟩
  · by_cases h : cap = lo
    · left; omega
    · right; rw [if_neg h]
  · have := slice_run (P := P) (T := T) (w := w') (a := p) (len := l.length) hT hs (hb cap hcap w')
    simp [execOp, ho, hv, Instr.sliceAt, run_underlying hT, this]

theorem Yp.slice2 {α : Type} [Inhabited α] {sz : Nat} {c : α → List AV} {l : List α} (ho : o.op = .slice T x (some y) (some z) none) (hx : E.ev x = some (.sl sz c l)) (hy : E.ev y = some (.n k m)) (hz : E.ev z = some (.n k' n)) (hT : P.underlying T = some (.slice e)) (hs : (P.info? e).map (·.size) = some sz)
    (hm : 0 ≤ m ∧ m ≤ n ∧ n ≤ (l.length : Int)) : Yp P E σ o (.sl sz c ((l.take n.toNat).drop m.toNat)) := fun A w ρ _ hρ => by
  obtain ⟨v, h1, h2⟩ := slice_fin (P := P) (lo := m.toNat) (hi := n.toNat) ho (hρ _ _ hx) hT hs (by omega) (by omega) (fun cap hc w' => by
    simp only [Option.map_some, (hρ _ _ hy).litEq, (hρ _ _ hz).litEq]
    exact bounds_lohi hm hc)
  exact ⟨v, h1, fun w' _ => h2 w'⟩
theorem Yp.sliceHi {α : Type} [Inhabited α] {sz : Nat} {c : α → List AV} {l : List α} (ho : o.op = .slice T x none (some z) none) (hx : E.ev x = some (.sl sz c l)) (hz : E.ev z = some (.n k' n)) (hT : P.underlying T = some (.slice e)) (hs : (P.info? e).map (·.size) = some sz)
    (hm : 0 ≤ n ∧ n ≤ (l.length : Int)) : Yp P E σ o (.sl sz c (l.take n.toNat)) := fun A w ρ _ hρ => by
  obtain ⟨v, h1, h2⟩ := slice_fin (P := P) (lo := 0) (hi := n.toNat) ho (hρ _ _ hx) hT hs (by omega) (by omega) (fun cap hc w' => by
    simp only [Option.map_some, Option.map_none, (hρ _ _ hz).litEq]
    exact bounds_hi hm hc)
  exact ⟨v, h1, fun w' _ => h2 w'⟩
theorem Yp.sliceLo {α : Type} [Inhabited α] {sz : Nat} {c : α → List AV} {l : List α} (ho : o.op = .slice T x (some y) none none) (hx : E.ev x = some (.sl sz c l)) (hy : E.ev y = some (.n k m)) (hT : P.underlying T = some (.slice e)) (hs : (P.info? e).map (·.size) = some sz)
    (hm : 0 ≤ m ∧ m ≤ (l.length : Int)) : Yp P E σ o (.sl sz c (l.drop m.toNat)) := fun A w ρ _ hρ => by
  obtain ⟨v, h1, h2⟩ := slice_fin (P := P) (lo := m.toNat) (hi := l.length) ho (hρ _ _ hx) hT hs (by omega) (by omega) (fun cap hc w' => by
    simp only [Option.map_some, Option.map_none, (hρ _ _ hy).litEq]
    exact bounds_lo hm)
  rw [List.take_length] at h1
  exact ⟨v, h1, fun w' _ => h2 w'⟩

/-- x[:0:0]: a slice without room -/
theorem Yv.slice00 {α β : Type} [Inhabited α] [Inhabited β] {sz sz' : Nat} {c : α → List AV} {l : List α} (c' : β → List AV) (ho : o.op = .slice T x none (some (.const (.int k 0))) (some (.const (.int k' 0)))) (hx : E.ev x = some (.sl sz c l) ∨ E.ev x = some (.lit (.slice none 0 0))) (hT : P.underlying T = some (.slice e)) (hs : (P.info? e).map (·.size) = some sz') :
    Yv P E σ o C [] (fun a σ' => ∃ v, a = .lit v ∧ σ' = .row v e sz' c' ([] : List β) :: σ) := fun w ρ hg hρ => by
  obtain ⟨j, hj, hj'⟩ := Option.map_eq_some_iff.1 hs
  obtain ⟨p, n, cap, hv⟩ : ∃ p n cap, ρ x = .slice p n cap := by
    rcases hx with hx | hx
    · obtain ⟨p, cap, u, hv, _⟩ := (hρ _ _ hx).slInv
      exact ⟨p, _, cap, hv⟩
    · exact ⟨none, 0, 0, (hρ _ _ hx).litEq⟩
  have h0 : ρ (.const (.int k 0)) = .int k 0 := (hρ (.const (.int k 0)) _ rfl).litEq
  have h0' : ρ (.const (.int k' 0)) = .int k' 0 := (hρ (.const (.int k' 0)) _ rfl).litEq
  refine ⟨.slice p 0 0, w, _, _, ⟨_, rfl, rfl⟩, tr_new hg (Kp.refl [] w) (.inl (by cases p <;> rfl)) ⟨[], ⟨by simp, .inl ⟨_, rfl, rfl⟩⟩, fun i hi => by simp at hi, fun i hi => by simp at hi⟩, ?_, .lit _⟩
  simp [execOp, ho, hv, h0, h0', Instr.sliceAt, Instr.slice, Instr.sliceBounds, Instr.sliceBound, run_underlying hT, sizeOf, typeInfo, hj, asIntOf]

/-! ### against nil -/

theorem Yp.eqNilL {p : Option Addr} {l c : Nat} (ho : o.op = .binOp .eql T x y T') (hx : E.ev x = some (.lit (.slice p l c))) (hy : E.ev y = some (.lit (.slice none 0 0))) (hT : P.underlying T = some (.slice e)) : Yp P E σ o (.b p.isNone) := Yp.lits fun ρ hρ w => by
  have := Lib.run_eql_slice_nil (P := P) w T e p l c 0 0 hT
  simp [execOp, ho, hρ _ _ hx, hρ _ _ hy, eqGuard, this]

/-- whether a slice that reads as l is nil is open where l is empty -/
def YpNil (P : Program) (E : Env) (σ : List Res) (o : Oper) (Q : Bool → Prop) : Prop := ∀ (A : Nat → Prop) (w : World) (ρ : Operand → Value), Hd A σ w → Ops A w E ρ → ∃ b, Q b ∧ (execOp ρ o).run P w = .ok (.value (.bool b)) w
theorem YpNil.sl {α : Type} [Inhabited α] {sz : Nat} {c : α → List AV} {l : List α} (ho : o.op = .binOp .eql T x y T') (hx : E.ev x = some (.sl sz c l)) (hy : E.ev y = some (.lit (.slice none 0 0))) (hT : P.underlying T = some (.slice e)) : YpNil P E σ o (fun b => b = true → l = []) := fun A w ρ _ hρ => by
  obtain ⟨p, cap, u, hv, hl, hcap, hz, hc, hr⟩ := (hρ _ _ hx).slInv
  have h1 := Lib.run_eql_slice_nil (P := P) w T e p l.length cap 0 0 hT
  have h2 := (hρ _ _ hy).litEq
  refine ⟨p.isNone, fun hn => ?_, by simp [execOp, ho, hv, h2, eqGuard, h1]⟩
  rcases Nat.eq_zero_or_pos l.length with h | h
  · exact List.eq_nil_of_length_eq_zero h
  · obtain ⟨b, off, hp, _⟩ := hc 0 h
    rw [hp] at hn
    cases hn

theorem RW.nil? {n : Nat} {ops : Array Oper} {K : Env → List Res → Prop} {rest : List Oper} {d : Nat} {Q : Bool → Prop} (hg : Wants E o ops = some true) (hd : o.dst = some d) (hn : Nat.blt d n = true) (hr : YpNil P E σ o Q) (next : ∀ b, Q b → RW P C n ops K rest ((d, .b b) :: E) σ) : RW P C n ops K (o :: rest) E σ := by
  intro a w ha
  refine wpList_step fun K' hK => ?_
  rw [if_pos (Wants.spec ha.slots hg)]
  unfold Oper.wp
  obtain ⟨b, h1, h2⟩ := hr _ w a.eval ha.good.hd ha.slots.ops
  rw [h2]
  show K' (a.put o.dst (.bool b)) w
  rw [hd]
  exact hK _ _ (next b h1 _ _ (ha.put hn (.lit _)))

/-! ### what is given up -/

/-- An empty slice without room begins to be the function's own. -/
theorem tr_own {w : World} {α : Type} [Inhabited α] (p : Option Addr) (T : TypeId) (sz : Nat) (c : α → List AV) (h : Good C σ w) : Tr C [] σ w (.row (.slice p 0 0) T sz c ([] : List α) :: σ) w :=
  tr_new h (Kp.refl [] w) (.inl (by cases p <;> rfl)) ⟨[], ⟨by simp, .inl ⟨_, rfl, rfl⟩⟩, fun i hi => by simp at hi, fun i hi => by simp at hi⟩
theorem RW.own {n : Nat} {ops : Array Oper} {K : Env → List Res → Prop} {rest : List Oper} {α : Type} [Inhabited α] (p : Option Addr) (T : TypeId) (sz : Nat) (c : α → List AV) (h : RW P C n ops K rest E (.row (.slice p 0 0) T sz c ([] : List α) :: σ)) : RW P C n ops K rest E σ := fun a w ha =>
  h a w (ha.tr (tr_own p T sz c ha.good))
theorem CW.own {n : Nat} {cd : Code} {Q : Exit → Env → List Res → Prop} {α : Type} [Inhabited α] (p : Option Addr) (T : TypeId) (sz : Nat) (c : α → List AV) (h : CW P C n cd Q E (.row (.slice p 0 0) T sz c ([] : List α) :: σ)) : CW P C n cd Q E σ := fun a w ha =>
  h a w (ha.tr (tr_own p T sz c ha.good))

/-- a', in place of a: own slices said as data -/
def Vw (σ : List Res) (a a' : AV) : Prop := ∀ (A : Nat → Prop) (w : World) (v : Value), Hd A σ w → Rel A w a v → Rel (fun b => A b ∨ b ∈ blks σ) w a' v
def VwL (σ : List Res) (as as' : List AV) : Prop := ∀ (A : Nat → Prop) (w : World) (us : List Value), Hd A σ w → RelL A w as us → RelL (fun b => A b ∨ b ∈ blks σ) w as' us
theorem Vw.id (a : AV) : Vw σ a a := fun A w v _ h => h.mono fun b _ hA => ⟨.inl hA, rfl⟩
theorem Vw.row {α : Type} [Inhabited α] {sz : Nat} {c : α → List AV} {l : List α} {t : TypeId} (i : Nat) (hσ : σ[i]? = some (.row v t sz c l)) : Vw σ (.lit v) (.sl sz c l) := fun A w u hd h => by
  have hu := h.litEq
  subst hu
  have hm := List.mem_of_getElem? hσ
  obtain ⟨us, h1, h2, h3⟩ := hd.1 _ hm
  have hlm : l.length ≤ 9223372036854775807 := by
    rcases h1.2 with ⟨_, _, h⟩ | ⟨_, _, _, _, _, q1, q2, _⟩
    · omega
    · unfold maxLen at q2; omega
  obtain ⟨p, cap, hv, hcap⟩ := h1.len
  by_cases h0 : l.length = 0
  · rw [hv]
    exact .sl sz c l p cap (fun _ _ => undef) hlm hcap (fun i hi => by omega) (fun i hi => by omega) (fun i j a hi => by omega)
  · obtain ⟨g, ck, cur, hv2, hgb, hB, _⟩ := h1.at (by omega)
    rw [hv2] at hv
    cases hv
    rw [hv2]
    refine .sl sz c l _ (ck + 1) (fun i j => (us[i * sz + j]?).getD undef) hlm hcap h2 (fun i hi => ⟨g, 0, rfl, hB.lt, ⟨.inr (mem_blks.2 ⟨_, hm, hgb⟩), .inr ⟨_, _, hB⟩⟩, fun j hj => ?_⟩) (fun i j a hi ha => ?_)
    · have hlt : i * sz + j < us.length := by
        have : i * sz + sz ≤ l.length * sz := by rw [← Nat.succ_mul]; exact Nat.mul_le_mul_right _ hi
        rw [h1.1]; omega
      rw [Nat.zero_add, List.getElem?_eq_getElem hlt]
      exact h1.cells hgb _ _ (List.getElem?_eq_getElem hlt)
    · obtain ⟨u, q1, q2⟩ := (h3 i hi).get ha
      rw [List.getElem?_take] at q1
      split at q1
      · rw [List.getElem?_drop] at q1
        rw [q1]
        exact q2.mono fun b _ hA => ⟨.inl hA, rfl⟩
      · cases q1
theorem Vw.nil {α : Type} [Inhabited α] (sz : Nat) (c : α → List AV) : Vw σ (.lit (.slice none 0 0)) (.sl sz c ([] : List α)) := fun A w u _ h => by
  have hu := h.litEq
  subst hu
  exact .sl sz c [] none 0 (fun _ _ => undef) (by simp) (by simp) (fun i hi => by cases hi) (fun i hi => by cases hi) (fun i j a hi => by cases hi)
theorem VwL.nil : VwL σ [] [] := fun A w us _ h => h.mono fun b _ hA => ⟨.inl hA, rfl⟩
theorem VwL.cons {as as' : List AV} {a a' : AV} (h : Vw σ a a') (hs : VwL σ as as') : VwL σ (a :: as) (a' :: as') := fun A w us hd hr => by
  obtain ⟨v, us', rfl, h1, h2⟩ := hr.head
  exact RelL.cons (h A w v hd h1) (hs A w us' hd h2)
theorem VwL.id (as : List AV) : VwL σ as as := fun A w us _ h => h.mono fun b _ hA => ⟨.inl hA, rfl⟩
theorem Vw.agg {as as' : List AV} (h : VwL σ as as') : Vw σ (.agg as) (.agg as') := fun A w v hd hr => by
  obtain ⟨us, rfl, h1⟩ := hr.aggInv
  exact Rel.aggL (h A w us hd h1)
theorem Vw.tup {as as' : List AV} (h : VwL σ as as') : Vw σ (.tup as) (.tup as') := fun A w v hd hr => by
  obtain ⟨us, rfl, h1⟩ := hr.tupInv
  exact Rel.tupL (h A w us hd h1)

theorem blks_erase {r : Res} {i : Nat} (hσ : σ[i]? = some r) : List.Perm (blks σ) (blks (r :: σ.eraseIdx i)) := by
  obtain ⟨h1, _⟩ := set_split (r' := r) hσ
  have h2 : σ.eraseIdx i = σ.take i ++ σ.drop (i + 1) := List.eraseIdx_eq_take_drop_succ ..
  rw [h2]
  have hp : List.Perm (σ.take i ++ r :: σ.drop (i + 1)) (r :: (σ.take i ++ σ.drop (i + 1))) := List.perm_middle
  rw [← h1] at hp
  exact hp.filterMap _

theorem al_erase {r : Res} {i : Nat} {w : World} (hσ : σ[i]? = some r) (hg : Good C σ w) : ∀ b, (al C σ b ∨ b ∈ blks [r]) → al C (σ.eraseIdx i) b := fun b hb => by
  have hp := blks_erase hσ
  have hnd := hp.nodup_iff.1 hg.dis
  rcases hb with hb | hb
  · exact ⟨hb.1, fun hx => hb.2 (hp.mem_iff.2 (by rw [blks_cons]; exact List.mem_append_right _ hx))⟩
  · have hbs : b ∈ r.blk.toList := by rw [blks_cons] at hb; simpa [blks] using hb
    refine ⟨?_, fun hx => ?_⟩
    · rcases hg.own b (hp.mem_iff.2 (by rw [blks_cons]; exact List.mem_append_left _ hbs)) with h | h
      · exact .inr (.inl h)
      · exact .inr (.inr h)
    · rw [blks_cons] at hnd
      exact (List.nodup_append.1 hnd).2.2 b hbs b hx rfl

/-- An own slice becomes data: in slot t. -/
theorem Sim.frz {n : Nat} {a : Act} {w : World} {r : Res} {i t : Nat} (h : Sim C n E σ a w) (hσ : σ[i]? = some r) (ht : E.get t = some av) (hv : Vw [r] av bv) : Sim C n ((t, bv) :: E) (σ.eraseIdx i) a w := by
  have hal := al_erase hσ h.good
  have hp := blks_erase hσ
  have hmem : ∀ s ∈ σ.eraseIdx i, s ∈ σ := fun s hs => List.mem_of_mem_eraseIdx hs
  have hd : Hd (al C σ) [r] w := ⟨fun s hs => by rw [List.mem_singleton] at hs; rw [hs]; exact h.good.res r (List.mem_of_getElem? hσ), fun b hb hA => hA.2 (by
    obtain ⟨s, h1, h2⟩ := mem_blks.1 hb
    rw [List.mem_singleton] at h1
    rw [h1] at h2
    exact mem_blks.2 ⟨r, List.mem_of_getElem? hσ, h2⟩)⟩
  refine ⟨h.defers.step (fun b _ hA => ⟨hal b (.inl hA), rfl⟩), h.size, fun s u hs => ?_, ⟨h.good.kept, fun s hs => (h.good.res s (hmem s hs)).mono (fun b _ hA => ⟨hal b (.inl hA), rfl⟩) (fun _ _ => rfl), ?_, fun b hb => h.good.own b (hp.mem_iff.2 (by rw [blks_cons]; exact List.mem_append_right _ hb))⟩⟩
  · by_cases hts : t = s
    · subst hts
      rw [Env.get_hit] at hs
      cases hs
      obtain ⟨v, h1, h2⟩ := h.slots t av ht
      exact ⟨v, h1, (hv _ w v hd h2).mono fun b _ hb => ⟨hal b hb, rfl⟩⟩
    · rw [Env.get_miss _ _ hts] at hs
      obtain ⟨v, h1, h2⟩ := h.slots s u hs
      exact ⟨v, h1, h2.mono fun b _ hA => ⟨hal b (.inl hA), rfl⟩⟩
  · have := hp.nodup_iff.1 h.good.dis
    rw [blks_cons] at this
    exact (List.nodup_append.1 this).2.1
/-- An own slice becomes data: in cell k of box j (counted without it). -/
theorem Sim.frzB {n : Nat} {a : Act} {w : World} {r : Res} {i j g : Nat} {t : TypeId} {cs cs' : List AV} (h : Sim C n E σ a w) (hσ : σ[i]? = some r) (hj : (σ.eraseIdx i)[j]? = some (.box g t cs)) (hv : VwL [r] cs cs') : Sim C n E ((σ.eraseIdx i).set j (.box g t cs')) a w := by
  have hal := al_erase hσ h.good
  have hp := blks_erase hσ
  have hmem : ∀ s ∈ σ.eraseIdx i, s ∈ σ := fun s hs => List.mem_of_mem_eraseIdx hs
  have hd : Hd (al C σ) [r] w := ⟨fun s hs => by rw [List.mem_singleton] at hs; rw [hs]; exact h.good.res r (List.mem_of_getElem? hσ), fun b hb hA => hA.2 (by
    obtain ⟨s, h1, h2⟩ := mem_blks.1 hb
    rw [List.mem_singleton] at h1
    rw [h1] at h2
    exact mem_blks.2 ⟨r, List.mem_of_getElem? hσ, h2⟩)⟩
  have hbk := blks_set (r' := Res.box g t cs') hj rfl
  have hal' : ∀ b, (al C σ b ∨ b ∈ blks [r]) → al C ((σ.eraseIdx i).set j (.box g t cs')) b := fun b hb => ⟨(hal b hb).1, by rw [hbk]; exact (hal b hb).2⟩
  refine ⟨h.defers.step (fun b _ hA => ⟨hal' b (.inl hA), rfl⟩), h.size, fun s u hs => ?_, ⟨h.good.kept, fun s hs => ?_, ?_, fun b hb => h.good.own b (hp.mem_iff.2 (by rw [hbk] at hb; rw [blks_cons]; exact List.mem_append_right _ hb))⟩⟩
  · obtain ⟨v, h1, h2⟩ := h.slots s u hs
    exact ⟨v, h1, h2.mono fun b _ hA => ⟨hal' b (.inl hA), rfl⟩⟩
  · rcases List.mem_or_eq_of_mem_set hs with hs | rfl
    · exact (h.good.res s (hmem s hs)).mono (fun b _ hA => ⟨hal' b (.inl hA), rfl⟩) (fun _ _ => rfl)
    · obtain ⟨us, h1, h2⟩ := h.good.res _ (hmem _ (List.mem_of_getElem? hj))
      exact ⟨us, h1, (hv _ w us hd h2).mono fun b _ hb => ⟨hal' b hb, rfl⟩⟩
  · rw [hbk]
    have := hp.nodup_iff.1 h.good.dis
    rw [blks_cons] at this
    exact (List.nodup_append.1 this).2.1

theorem RW.frz {n : Nat} {ops : Array Oper} {K : Env → List Res → Prop} {rest : List Oper} {r : Res} (i t : Nat) (hσ : σ[i]? = some r) (ht : E.get t = some av) (hv : Vw [r] av bv) (h : RW P C n ops K rest ((t, bv) :: E) (σ.eraseIdx i)) : RW P C n ops K rest E σ := fun a w ha => h a w (ha.frz hσ ht hv)
theorem CW.frz {n : Nat} {cd : Code} {Q : Exit → Env → List Res → Prop} {r : Res} (i t : Nat) (hσ : σ[i]? = some r) (ht : E.get t = some av) (hv : Vw [r] av bv) (h : CW P C n cd Q ((t, bv) :: E) (σ.eraseIdx i)) : CW P C n cd Q E σ := fun a w ha => h a w (ha.frz hσ ht hv)
theorem RW.frzB {n : Nat} {ops : Array Oper} {K : Env → List Res → Prop} {rest : List Oper} {r : Res} {g : Nat} {t : TypeId} {cs cs' : List AV} (i j : Nat) (hσ : σ[i]? = some r) (hj : (σ.eraseIdx i)[j]? = some (.box g t cs)) (hv : VwL [r] cs cs') (h : RW P C n ops K rest E ((σ.eraseIdx i).set j (.box g t cs'))) : RW P C n ops K rest E σ := fun a w ha => h a w (ha.frzB hσ hj hv)
theorem CW.frzB {n : Nat} {cd : Code} {Q : Exit → Env → List Res → Prop} {r : Res} {g : Nat} {t : TypeId} {cs cs' : List AV} (i j : Nat) (hσ : σ[i]? = some r) (hj : (σ.eraseIdx i)[j]? = some (.box g t cs)) (hv : VwL [r] cs cs') (h : CW P C n cd Q E ((σ.eraseIdx i).set j (.box g t cs'))) : CW P C n cd Q E σ := fun a w ha => h a w (ha.frzB hσ hj hv)
/-- a slot said otherwise -/
theorem Sim.say {n : Nat} {a : Act} {w : World} {t : Nat} (h : Sim C n E σ a w) (ht : E.get t = some av) (hv : Vw [] av bv) : Sim C n ((t, bv) :: E) σ a w :=
  ⟨h.defers, h.size, fun s u hs => by
    by_cases hts : t = s
    · subst hts
      rw [Env.get_hit] at hs
      cases hs
      obtain ⟨v, h1, h2⟩ := h.slots t av ht
      exact ⟨v, h1, (hv _ w v (show Hd _ [] w from ⟨fun r hr => absurd hr (by simp), fun b hb => absurd hb (by simp [blks])⟩) h2).mono fun b _ hb => ⟨hb.elim (fun x => x) (fun hx => absurd hx (by simp [blks])), rfl⟩⟩
    · rw [Env.get_miss _ _ hts] at hs
      exact h.slots s u hs, h.good⟩
theorem RW.say {n : Nat} {ops : Array Oper} {K : Env → List Res → Prop} {rest : List Oper} (t : Nat) (ht : E.get t = some av) (hv : Vw [] av bv) (h : RW P C n ops K rest ((t, bv) :: E) σ) : RW P C n ops K rest E σ := fun a w ha => h a w (ha.say ht hv)
theorem CW.say {n : Nat} {cd : Code} {Q : Exit → Env → List Res → Prop} (t : Nat) (ht : E.get t = some av) (hv : Vw [] av bv) (h : CW P C n cd Q ((t, bv) :: E) σ) : CW P C n cd Q E σ := fun a w ha => h a w (ha.say ht hv)
end

/-! ### functions -/

/-- Function f, called with args and owning σ: what it returns and owns then is of Φ. -/
def Fn (P : Program) (f : FuncId) (args : List AV) (σ : List Res) (Φ : AV → List Res → Prop) : Prop :=
  ∀ (w : World) (A : Nat → Prop) (vs : List Value), RelL A w args vs → Hd A σ w → (blks σ).Nodup →
    Calls P f vs.toArray w fun e w' => ∃ v av σ', e = .returned v ∧ Φ av σ' ∧ Tr ⟨w, A, blks σ⟩ (blks σ) σ w σ' w' ∧ Rel (al ⟨w, A, blks σ⟩ σ') w' av v

theorem Fn.mono {P : Program} {f : FuncId} {args : List AV} {σ : List Res} {Φ Ψ : AV → List Res → Prop} (h : Fn P f args σ Φ) (hp : ∀ a s, Φ a s → Ψ a s) : Fn P f args σ Ψ := fun w A vs h1 h2 h3 =>
  (h w A vs h1 h2 h3).mono fun _ _ ⟨v, av, σ', q1, q2, q3⟩ => ⟨v, av, σ', q1, hp _ _ q2, q3⟩

def argsEnv : Nat → List AV → Env
  | _, [] => []
  | i, v :: l => (i, v) :: argsEnv (i + 1) l

theorem argsEnv_get : ∀ (l : List AV) (i t : Nat) (v : AV), Env.get (argsEnv i l) t = some v → i ≤ t ∧ l[t - i]? = some v
  | [], _, _, _, h => by cases h
  | u :: l, i, t, v, h => by
    by_cases hit : i = t
    · subst hit
      rw [argsEnv, Env.get_hit] at h
      cases h
      simp
    · rw [argsEnv, Env.get_miss _ _ hit] at h
      obtain ⟨h1, h2⟩ := argsEnv_get l (i + 1) t v h
      refine ⟨by omega, ?_⟩
      rw [show t - i = (t - (i + 1)) + 1 from by omega]
      simpa using h2

/-- What a function comes to at its end. -/
def FinQ (P : Program) (C : Cx) (n : Nat) (fn : Func) (Φ : AV → List Res → Prop) : Exit → Env → List Res → Prop := fun e E σ =>
  (e = .normal ∨ e = .ret) ∧ ∀ a w, Sim C n E σ a w → ∃ v av σ', Φ av σ' ∧ (results fn a.tmps).run P w = .ok v w ∧ Good C σ' w ∧ (∀ b, al C σ b → al C σ' b) ∧ Rel (al C σ') w av v

/-- What is cells lies as it lay. -/
structure Tn (C : Cx) (w w' : World) : Prop where
  os : w'.os = w.os
  tape : w'.tape = w.tape
  output : w'.output = w.output
  size : w.heap.size ≤ w'.heap.size
  old : ∀ k, k < C.w0.heap.size → w'.heap[k]? = w.heap[k]?
  same : ∀ (b : Nat) cs T m, w.heap[b]? = some (Obj.cells cs T m) → w'.heap[b]? = w.heap[b]?

theorem Rel.turn {C : Cx} {A : Nat → Prop} {w w' : World} {av : AV} {v : Value} (h : Rel A w av v) (ht : Tn C w w') : Rel A w' av v := by
  have hcell : ∀ b i u, w.cell? ⟨b, i, none⟩ = some u → w'.cell? ⟨b, i, none⟩ = some u := fun b i u hc => by
    rw [← hc]
    cases hb : w.heap[b]? with
    | none => simp [World.cell?, hb] at hc
    | some o =>
      cases o with
      | cells cs T m => exact World.cell?_of_block (ht.same b cs T m hb)
      | _ => simp [World.cell?, hb] at hc
  have haf : ∀ b, AF A w b → AF A w' b := fun b hA => ⟨hA.1, hA.2.imp id (fun ⟨cs, T, h⟩ => ⟨cs, T, (ht.same _ _ _ _ h).trans h⟩)⟩
  induction h with
  | lit v => exact .lit v
  | sl sz c l p cap u hl hcap hz hc hr ih =>
    refine .sl sz c l p cap u hl hcap hz (fun i hi => ?_) ih
    obtain ⟨b, off, h1, h2, h3, h4⟩ := hc i hi
    exact ⟨b, off, h1, Nat.lt_of_lt_of_le h2 ht.size, haf b h3, fun j hj => hcell _ _ _ (h4 j hj)⟩
  | fp cs b o us hb hA hl hc hr ih => exact .fp cs b o us (Nat.lt_of_lt_of_le hb ht.size) (haf b hA) hl (fun j v hj => hcell _ _ _ (hc j v hj)) ih
  | rp v k g h => exact .rp v k g h
  | agg cs us hl hr ih => exact .agg cs us hl ih
  | tup cs us hl hr ih => exact .tup cs us hl ih
  | fn f cs us hl hr ih => exact .fn f cs us hl ih

theorem Res.ok.turn {C : Cx} {A : Nat → Prop} {w w' : World} {r : Res} (h : r.ok A w) (ht : Tn C w w') : r.ok A w' := by
  cases r with
  | box b T cs =>
    obtain ⟨us, h1, h2⟩ := h
    exact ⟨us, (ht.same _ _ _ _ h1).trans h1, h2.1, fun j a v q1 q2 => (h2.2 j a v q1 q2).turn ht⟩
  | row v T sz c l =>
    obtain ⟨us, h1, h2, h3⟩ := h
    refine ⟨us, ⟨h1.1, ?_⟩, h2, fun i hi => ⟨(h3 i hi).1, fun j a v q1 q2 => ((h3 i hi).2 j a v q1 q2).turn ht⟩⟩
    rcases h1.2 with q | ⟨g, cap, cur, rfl, q1, q2⟩
    · exact .inl q
    · exact .inr ⟨g, cap, cur, rfl, (ht.same _ _ _ _ q1).trans q1, q2⟩

/-- the blocks of what is owned are cells -/
theorem Res.ok.cells {A : Nat → Prop} {w : World} {r : Res} (h : r.ok A w) {b : Nat} (hb : r.blk = some b) : ∃ cs T m, w.heap[b]? = some (Obj.cells cs T m) := by
  cases r with
  | box b' T cs => obtain ⟨us, h1, _⟩ := h; cases hb; exact ⟨_, _, _, h1⟩
  | row v T sz c l =>
    obtain ⟨us, h1, _⟩ := h
    rcases h1.2 with ⟨p, rfl, _⟩ | ⟨g, cap, cur, rfl, q1, _⟩
    · cases p <;> cases hb
    · cases hb; exact ⟨_, _, _, q1⟩

theorem Good.turn {C : Cx} {σ : List Res} {w w' : World} (h : Good C σ w) (ht : Tn C w w') : Good C σ w' :=
  ⟨⟨ht.os.trans h.kept.os, ht.tape.trans h.kept.tape, ht.output.trans h.kept.output, Nat.le_trans h.kept.size ht.size, fun k hk hX => (ht.old k hk).trans (h.kept.block k hk hX)⟩,
    fun r hr => (h.res r hr).turn ht, h.dis, h.own⟩

theorem Tn.putObj {C : Cx} {w : World} {D : Nat} {o : Obj} (o' : Obj) (hw : C.w0.heap.size ≤ D) (hD : w.heap[D]? = some o) (ho : o.isCells = false) : Tn C w (w.putObj D o') :=
  ⟨rfl, rfl, rfl, by simp [World.putObj], fun k hk => World.putObj_heap_other (by omega), fun b cs T m hx => World.putObj_heap_other fun e => by
    subst e
    rw [hD] at hx
    cases hx
    cases ho⟩

theorem Slots.turn {C : Cx} {A : Nat → Prop} {w w' : World} {E : Env} {tmps : Array Value} (h : Slots A w E tmps) (ht : Tn C w w') : Slots A w' E tmps := fun t av q => let ⟨v, h1, h2⟩ := h t av q; ⟨v, h1, h2.turn ht⟩

theorem Fn.at {P : Program} {f : FuncId} {fn : Func} {c : Code} {n : Nat} {args : List AV} {σ : List Res} {Φ : AV → List Res → Prop} (hf : P.funcs[f]? = some fn) (hb : fn.body = some c) (hn : fn.ntmps = n) (hl : Nat.ble args.length n = true)
    {w : World} {A : Nat → Prop} {vs : List Value} (hr : RelL A w args vs) (hd : Hd A σ w) (hnd : (blks σ).Nodup) (h : ∀ a, Sim ⟨w, A, blks σ⟩ n (argsEnv 0 args) σ a w → a.defers = [] → c.wp P (fun e a' w' => ∃ E' σ', Sim ⟨w, A, blks σ⟩ n E' σ' a' w' ∧ FinQ P ⟨w, A, blks σ⟩ n fn Φ e E' σ') a w) :
    Calls P f vs.toArray w fun e w' => ∃ v av σ', e = .returned v ∧ Φ av σ' ∧ Tr ⟨w, A, blks σ⟩ (blks σ) σ w σ' w' ∧ Rel (al ⟨w, A, blks σ⟩ σ') w' av v := by
  have hl' : args.length ≤ n := by simpa using hl
  have hvl := hr.1
  have hal : ∀ b, b < w.heap.size → A b → al ⟨w, A, blks σ⟩ σ b := fun b _ hA => ⟨.inl hA, fun hx => hd.2 b hx hA⟩
  have hgood : Good ⟨w, A, blks σ⟩ σ w := ⟨Kp.refl _ _, fun r hr => (hd.1 r hr).mono (fun b hb hA => ⟨hal b hb hA, rfl⟩) (fun _ _ => rfl), hnd, fun b hb => .inl hb⟩
  refine callsIn_wide.1 (callsIn_of_wp_marks (n := 0) hf hb trivial (wpIn_wide.2 (wp_mono (h _ ⟨.nil rfl, ?_, fun t v ht => ?_, hgood⟩ rfl) ?_)))
  · simp [hn, hvl]; omega
  · obtain ⟨_, h2⟩ := argsEnv_get args 0 t v ht
    rw [Nat.sub_zero] at h2
    obtain ⟨u, h3, h4⟩ := hr.get h2
    have hlt : t < vs.length := (List.getElem?_eq_some_iff.1 h3).1
    refine ⟨u, ?_, h4.mono fun b hb hA => ⟨hal b hb hA, rfl⟩⟩
    rw [Array.getElem?_append_left (by simpa using hlt)]
    simpa using h3
  · rintro e a' w' ⟨E', σ', h1, he, h2⟩
    have fin : ∀ (w'' : World), Sim ⟨w, A, blks σ⟩ n E' σ' { a' with defers := [] } w'' → ∃ v, (results fn a'.tmps).run P w'' = .ok v w'' ∧ ∃ v' av σ'', Ending.returned v = .returned v' ∧ Φ av σ'' ∧ Tr ⟨w, A, blks σ⟩ (blks σ) σ w σ'' w'' ∧ Rel (al ⟨w, A, blks σ⟩ σ'') w'' av v' := fun w'' hs => by
      obtain ⟨v, av, σ'', h3, h4, h5, h6, h7⟩ := h2 _ w'' hs
      have hex : Tr ⟨w, A, blks σ⟩ (blks σ) σ w σ'' w'' := ⟨h5, h5.kept, fun b hb hA => ⟨⟨hA.1, fun hx => by
        rcases h5.own b hx with h | h
        · exact hA.2 h
        · exact absurd hb (by have : w.heap.size ≤ b := h; omega)⟩, hA.2⟩⟩
      exact ⟨v, h4, v, av, σ'', rfl, h3, hex, h7⟩
    have lv : LeavesInM Fence.wide 0 P fn a'.tmps (fun e w' => ∃ v av σ', e = .returned v ∧ Φ av σ' ∧ Tr ⟨w, A, blks σ⟩ (blks σ) σ w σ' w' ∧ Rel (al ⟨w, A, blks σ⟩ σ') w' av v) a'.defers .returning w' := by
      obtain ⟨Ds, hd1, hd2, hd3⟩ := h1.defers
      rw [hd1]
      have hsl := h1.slots
      have hgd := h1.good
      have hsz := h1.size
      clear hd1 h1
      induction Ds generalizing w' with
      | nil => exact fin w' ⟨.nil rfl, hsz, hsl, hgd⟩
      | cons D Ds ih =>
        obtain ⟨q1, q2, q3, q4⟩ := hd3 D List.mem_cons_self
        rw [List.nodup_cons] at hd2
        refine ⟨by simp, .inl ⟨D, _, rfl, run_takeDeferred q4, ?_⟩⟩
        have ht : Tn ⟨w, A, blks σ⟩ w' (w'.putObj D (.deferred none)) := .putObj _ q2 q4 rfl
        refine ih _ hd2.2 (fun D' hD' => ?_) (hsl.turn ht) (hgd.turn ht)
        obtain ⟨p1, p2, p3, p4⟩ := hd3 D' (List.mem_cons_of_mem _ hD')
        have hne : D' ≠ D := fun e => hd2.1 (e ▸ hD')
        exact ⟨Nat.lt_of_lt_of_le p1 ht.size, p2, p3, (World.putObj_heap_other hne).trans p4⟩
    rcases he with rfl | rfl
    · exact lv
    · exact lv

theorem Fn.of {P : Program} {f : FuncId} {fn : Func} {c : Code} {n : Nat} {args : List AV} {σ : List Res} {Φ : AV → List Res → Prop} (hf : P.funcs[f]? = some fn) (hb : fn.body = some c) (hn : fn.ntmps = n) (hl : Nat.ble args.length n = true)
    (h : ∀ C, CW P C n c (FinQ P C n fn Φ) (argsEnv 0 args) σ) : Fn P f args σ Φ := fun w A vs hr hd hnd => Fn.at hf hb hn hl hr hd hnd (fun a ha _ => h _ a w ha)

def resOne (tmps : Array Value) : ResultVar → Sem Value
  | .tmp t => pure (tmps.getD t undef)
  | .cell a t => do loadVar t (← asAddr (tmps.getD a undef))

/-- One of the results. -/
def ResIs (P : Program) (E : Env) (σ : List Res) (rv : ResultVar) (av : AV) : Prop := ∀ (A : Nat → Prop) (w : World) (tmps : Array Value), Hd A σ w → Slots A w E tmps → ∃ v, (resOne tmps rv).run P w = .ok v w ∧ Rel A w av v
section
variable {P : Program} {C : Cx} {n : Nat} {fn : Func} {E : Env} {σ σ' : List Res} {t u : Nat} {av : AV} {e : Exit} {Φ : AV → List Res → Prop}
theorem ResIs.tmp (h : E.get t = some av) : ResIs P E σ (.tmp t) av := fun A w tmps _ hs => by
  obtain ⟨v, h1, h2⟩ := hs t av h
  exact ⟨v, by simp [resOne, h1], h2⟩
theorem ResIs.cell1 {g : Nat} {ty T : TypeId} {cs : List AV} (i : Nat) (h : E.get t = some (.lit (.pointer (some ⟨g, 0, none⟩)))) (hσ : σ[i]? = some (.box g T cs)) (hT : isOne P ty) (ha : cs[0]? = some av) : ResIs P E σ (.cell t ty) av := fun A w tmps hd hs => by
  obtain ⟨v, h1, h2⟩ := hs t _ h
  have h2 := h2.litEq
  subst h2
  obtain ⟨us, h3, h4⟩ := hd.1 _ (List.mem_of_getElem? hσ)
  obtain ⟨v, h5, h6⟩ := h4.get ha
  exact ⟨v, by simp [resOne, h1, asAddr, run_loadVar_one hT (h3.cell (by simpa using h5))], h6⟩
theorem ResIs.cellN {g k : Nat} {ty T : TypeId} {cs : List AV} (i : Nat) (h : E.get t = some (.lit (.pointer (some ⟨g, 0, none⟩)))) (hσ : σ[i]? = some (.box g T cs)) (hT : isMany P ty k) (hk : cs.length = k) : ResIs P E σ (.cell t ty) (.agg cs) := fun A w tmps hd hs => by
  obtain ⟨v, h1, h2⟩ := hs t _ h
  have h2 := h2.litEq
  subst h2
  obtain ⟨us, h3, h4⟩ := hd.1 _ (List.mem_of_getElem? hσ)
  refine ⟨_, ?_, Rel.aggL h4⟩
  have := run_loadVar_many (P := P) (T := ty) (w := w) (a := ⟨g, 0, none⟩) (cs := us) (by rw [h4.1, hk]; exact hT) (fun j u hj => by rw [add0, Nat.zero_add]; exact h3.cell (by simpa using hj))
  simp [resOne, h1, asAddr, this]

theorem fin_of (he : e = .normal ∨ e = .ret) (hs : List.Sublist σ' σ) (hΦ : Φ av σ') (h : ∀ A w tmps, Hd A σ w → Slots A w E tmps → ∃ v, (results fn tmps).run P w = .ok v w ∧ Rel A w av v) : FinQ P C n fn Φ e E σ :=
  ⟨he, fun a w ha => by
    obtain ⟨v, h1, h2⟩ := h _ w a.tmps ha.good.hd ha.slots
    have hl := ha.less hs
    have hal : ∀ b, al C σ b → al C σ' b := fun b hb => ⟨hb.1, fun hx => hb.2 (blks_sub (fun r hr => hs.subset hr) b hx)⟩
    exact ⟨v, av, σ', hΦ, h1, hl.good, hal, h2.mono fun b _ hA => ⟨hal b hA, rfl⟩⟩⟩
theorem fin0 (he : e = .normal ∨ e = .ret) (hr : fn.results = #[]) (hs : List.Sublist σ' σ) (hΦ : Φ (.tup []) σ') : FinQ P C n fn Φ e E σ :=
  fin_of he hs hΦ fun A w tmps _ _ => ⟨_, results_none hr _ P w, Rel.tupL RelL.nil⟩
theorem fin1 {r1 : ResultVar} (he : e = .normal ∨ e = .ret) (hr : fn.results = #[r1]) (h1 : ResIs P E σ r1 av) (hs : List.Sublist σ' σ) (hΦ : Φ av σ') : FinQ P C n fn Φ e E σ :=
  fin_of he hs hΦ fun A w tmps hd hl => by
    obtain ⟨v, q1, q2⟩ := h1 A w tmps hd hl
    refine ⟨v, ?_, q2⟩
    show (do let vs ← fn.results.mapM (resOne tmps); pure (if h : vs.size = 1 then vs[0] else .tuple vs) : Sem Value).run P w = _
    simp [hr, q1]
theorem fin2 {r1 r2 : ResultVar} {a1 a2 : AV} (he : e = .normal ∨ e = .ret) (hr : fn.results = #[r1, r2]) (h1 : ResIs P E σ r1 a1) (h2 : ResIs P E σ r2 a2) (hs : List.Sublist σ' σ) (hΦ : Φ (.tup [a1, a2]) σ') : FinQ P C n fn Φ e E σ :=
  fin_of he hs hΦ fun A w tmps hd hl => by
    obtain ⟨v1, q1, p1⟩ := h1 A w tmps hd hl
    obtain ⟨v2, q2, p2⟩ := h2 A w tmps hd hl
    refine ⟨.tuple #[v1, v2], ?_, Rel.tupL (RelL.cons p1 (RelL.cons p2 RelL.nil))⟩
    show (do let vs ← fn.results.mapM (resOne tmps); pure (if h : vs.size = 1 then vs[0] else .tuple vs) : Sem Value).run P w = _
    simp [hr, q1, q2]
theorem fin3 {r1 r2 r3 : ResultVar} {a1 a2 a3 : AV} (he : e = .normal ∨ e = .ret) (hr : fn.results = #[r1, r2, r3]) (h1 : ResIs P E σ r1 a1) (h2 : ResIs P E σ r2 a2) (h3 : ResIs P E σ r3 a3) (hs : List.Sublist σ' σ) (hΦ : Φ (.tup [a1, a2, a3]) σ') : FinQ P C n fn Φ e E σ :=
  fin_of he hs hΦ fun A w tmps hd hl => by
    obtain ⟨v1, q1, p1⟩ := h1 A w tmps hd hl
    obtain ⟨v2, q2, p2⟩ := h2 A w tmps hd hl
    obtain ⟨v3, q3, p3⟩ := h3 A w tmps hd hl
    refine ⟨.tuple #[v1, v2, v3], ?_, Rel.tupL (RelL.cons p1 (RelL.cons p2 (RelL.cons p3 RelL.nil)))⟩
    show (do let vs ← fn.results.mapM (resOne tmps); pure (if h : vs.size = 1 then vs[0] else .tuple vs) : Sem Value).run P w = _
    simp [hr, q1, q2, q3]
theorem fin4 {r1 r2 r3 r4 : ResultVar} {a1 a2 a3 a4 : AV} (he : e = .normal ∨ e = .ret) (hr : fn.results = #[r1, r2, r3, r4]) (h1 : ResIs P E σ r1 a1) (h2 : ResIs P E σ r2 a2) (h3 : ResIs P E σ r3 a3) (h4 : ResIs P E σ r4 a4) (hs : List.Sublist σ' σ) (hΦ : Φ (.tup [a1, a2, a3, a4]) σ') : FinQ P C n fn Φ e E σ :=
  fin_of he hs hΦ fun A w tmps hd hl => by
    obtain ⟨v1, q1, p1⟩ := h1 A w tmps hd hl
    obtain ⟨v2, q2, p2⟩ := h2 A w tmps hd hl
    obtain ⟨v3, q3, p3⟩ := h3 A w tmps hd hl
    obtain ⟨v4, q4, p4⟩ := h4 A w tmps hd hl
    refine ⟨.tuple #[v1, v2, v3, v4], ?_, Rel.tupL (RelL.cons p1 (RelL.cons p2 (RelL.cons p3 (RelL.cons p4 RelL.nil))))⟩
    show (do let vs ← fn.results.mapM (resOne tmps); pure (if h : vs.size = 1 then vs[0] else .tuple vs) : Sem Value).run P w = _
    simp [hr, q1, q2, q3, q4]
end

/-! ### calls -/

/-- f is a function with a body -/
def fnOk (P : Program) (f : FuncId) : Prop := ∃ fn, P.funcs[f]? = some fn ∧ (fn.name == "runtime.NumGoroutine") = false ∧ fn.body.isNone = false

theorem run_callFunc_ok {P : Program} {f : FuncId} {w : World} (hf : fnOk P f) (args : Array Value) : (callFunc f args).run P w = .ok (.enter f args) w := by
  obtain ⟨fn, h1, h2, h3⟩ := hf
  have h2' : ¬ fn.name = "runtime.NumGoroutine" := by simpa using h2
  have h3' : ¬ fn.body = none := by
    intro h
    rw [h] at h3
    cases h3
  simp [callFunc, program, Sem.run, h1, h2', h3']

/-- no data in it -/
def Cl (a : AV) : Prop := ∀ A A' w v, Rel A w a v → Rel A' w a v
theorem Cl.lit (v : Value) : Cl (.lit v) := fun A A' w u h => by rw [h.litEq]; exact .lit v
def ClL (as : List AV) : Prop := ∀ A A' w us, RelL A w as us → RelL A' w as us
theorem ClL.nil : ClL [] := fun A A' w us h => by
  have : us = [] := List.eq_nil_of_length_eq_zero (by simpa using h.1)
  rw [this]; exact RelL.nil
theorem ClL.cons {a : AV} {as : List AV} (h : Cl a) (hs : ClL as) : ClL (a :: as) := fun A A' w us hr => by
  obtain ⟨v, us', rfl, h1, h2⟩ := hr.head
  exact RelL.cons (h A A' w v h1) (hs A A' w us' h2)
theorem Cl.agg {as : List AV} (h : ClL as) : Cl (.agg as) := fun A A' w v hr => by
  obtain ⟨us, rfl, h1⟩ := hr.aggInv
  exact Rel.aggL (h A A' w us h1)
theorem Cl.tup {as : List AV} (h : ClL as) : Cl (.tup as) := fun A A' w v hr => by
  obtain ⟨us, rfl, h1⟩ := hr.tupInv
  exact Rel.tupL (h A A' w us h1)
def ClR (r : Res) : Prop := ∀ A A' w, r.ok A w → r.ok A' w
theorem ClR.box {b : Nat} {T : TypeId} {cs : List AV} (h : ClL cs) : ClR (.box b T cs) := fun A A' w ⟨us, h1, h2⟩ => ⟨us, h1, h A A' w us h2⟩
theorem ClR.row {v : Value} {T : TypeId} {sz : Nat} {α : Type} [Inhabited α] {c : α → List AV} {l : List α} (h : ∀ x, ClL (c x)) : ClR (.row v T sz c l) := fun A A' w ⟨us, h1, h2, h3⟩ => ⟨us, h1, h2, fun i hi => h _ A A' w _ (h3 i hi)⟩

section
variable {P : Program} {C : Cx} {E : Env} {σ σp σr : List Res} {o : Oper} {x : Operand} {f : FuncId} {xs : Array Operand} {ts : Array TypeId} {as caps args : List AV} {Φ : AV → List Res → Prop}

theorem call_run {A : Nat → Prop} {w : World} {ρ : Operand → Value} (ho : o.op = .call { callee := .value x, args := xs, argTypes := ts }) (hx : E.ev x = some (.fn (.func f) caps)) (hf : fnOk P f) (he : E.evl xs.toList = some as) (ha : as ++ caps = args) (hρ : Ops A w E ρ) : ∃ us : List Value, RelL A w args us ∧ (execOp ρ o).run P w = .ok (.enter f us.toArray) w := by
  obtain ⟨us, h1, h2⟩ := (hρ _ _ hx).fnInv
  have h3 := Env.evl_rel hρ he
  refine ⟨xs.toList.map ρ ++ us, ha ▸ h3.app h2, ?_⟩
  have h4 : xs.map ρ = (xs.toList.map ρ).toArray := by apply Array.ext'; simp
  simp [execOp, ho, resolve, h1, Deferred.ofValue, invoke, run_callFunc_ok hf, h4]

theorem blks_mem_app {σp σr : List Res} {b : Nat} : b ∈ blks (σp ++ σr) ↔ b ∈ blks σp ∨ b ∈ blks σr := by rw [blks_app, List.mem_append]

/-- after a call: from the callee's state to the caller's -/
theorem tr_call {w w' : World} {A : Nat → Prop} {σo : List Res} (hg : Good C (σp ++ σr) w) (hA : ∀ b, A b → b < w.heap.size → al C (σp ++ σr) b ∨ b ∈ blks σr) (ht : Tr ⟨w, A, blks σp⟩ (blks σp) σp w σo w')
    (hok : ∀ r ∈ σo, r.ok (al C (σo ++ σr)) w') : Tr C (blks σp) (σp ++ σr) w (σo ++ σr) w' := by
  have hlt : ∀ b ∈ blks (σp ++ σr), b < w.heap.size := fun b hb => by
    obtain ⟨s, h1, h2⟩ := mem_blks.1 hb
    exact (hg.res s h1).lt h2
  have hdis := hg.dis
  rw [blks_app] at hdis
  obtain ⟨d1, d2, d3⟩ := List.nodup_append.1 hdis
  have hown : ∀ b ∈ blks σo, b ∈ blks σp ∨ w.heap.size ≤ b := ht.good.own
  have hal : ∀ b, b < w.heap.size → al C (σp ++ σr) b → al C (σo ++ σr) b ∧ b ∉ blks σp := fun b hb hA => by
    have h2 : b ∉ blks σp ∧ b ∉ blks σr := by
      have := hA.2
      rw [blks_mem_app] at this
      exact ⟨fun h => this (.inl h), fun h => this (.inr h)⟩
    refine ⟨⟨hA.1, fun hx => ?_⟩, h2.1⟩
    rcases blks_mem_app.1 hx with h | h
    · rcases hown b h with h | h
      · exact h2.1 h
      · omega
    · exact h2.2 h
  refine ⟨⟨hg.kept.trans ht.kp (fun b hb hlt0 => ?_), fun r hr => ?_, ?_, fun b hb => ?_⟩, ht.kp, hal⟩
  · rcases hg.own b (blks_mem_app.2 (.inl hb)) with h | h
    · exact h
    · exact absurd hlt0 (by omega)
  · rcases List.mem_append.1 hr with h | h
    · exact hok r h
    · refine (hg.res r (List.mem_append_right _ h)).mono (fun b hb hA => ⟨(hal b hb hA).1, ht.kp.block b hb (hal b hb hA).2⟩) (fun b hb => ?_)
      have hbr : b ∈ blks σr := mem_blks.2 ⟨r, h, hb⟩
      exact ht.kp.block b (hlt b (blks_mem_app.2 (.inr hbr))) (fun hp => d3 b hp b hbr rfl)
  · rw [blks_app]
    refine List.nodup_append.2 ⟨ht.good.dis, d2, fun a ha b hb hab => ?_⟩
    subst hab
    rcases hown a ha with h | h
    · exact d3 a h a hb rfl
    · have := hlt a (blks_mem_app.2 (.inr hb)); omega
  · rcases blks_mem_app.1 hb with h | h
    · rcases hown b h with h | h
      · exact hg.own b (blks_mem_app.2 (.inl h))
      · exact .inr (Nat.le_trans hg.kept.size h)
    · exact hg.own b (blks_mem_app.2 (.inr h))

/-- A call; the first resources are handed over. -/
theorem Yc.fn (ho : o.op = .call { callee := .value x, args := xs, argTypes := ts }) (hx : E.ev x = some (.fn (.func f) caps)) (hf : fnOk P f) (he : E.evl xs.toList = some as) (ha : as ++ caps = args) (hσ : σ = σp ++ σr) (h : Fn P f args σp Φ) :
    Yc P E σ o C (blks σp) (fun av σ' => ∃ σo, Φ av σo ∧ σ' = σo ++ σr) := fun w ρ hg hρ => by
  subst hσ
  obtain ⟨us, h1, h2⟩ := call_run ho hx hf he ha hρ
  have hlt : ∀ b ∈ blks (σp ++ σr), b < w.heap.size := fun b hb => by
    obtain ⟨s, h1, h2⟩ := mem_blks.1 hb
    exact (hg.res s h1).lt h2
  have hd : Hd (al C (σp ++ σr)) σp w := ⟨fun r hr => hg.res r (List.mem_append_left _ hr), fun b hb hA => hA.2 (blks_mem_app.2 (.inl hb))⟩
  have hnd : (blks σp).Nodup := by have := hg.dis; rw [blks_app] at this; exact (List.nodup_append.1 this).1
  refine ⟨f, us.toArray, h2, (h w (al C (σp ++ σr)) us h1 hd hnd).mono fun e w' ⟨v, av, σo, q1, q2, q3, q4⟩ => ?_⟩
  have hown : ∀ b ∈ blks σo, b ∈ blks σp ∨ w.heap.size ≤ b := q3.good.own
  have hsub : ∀ b, b < w'.heap.size → al ⟨w, al C (σp ++ σr), blks σp⟩ σo b → al C (σo ++ σr) b := fun b _ hb => by
    obtain ⟨hb1, hb2⟩ := hb
    rcases hb1 with hb1 | hb1 | hb1
    · exact ⟨hb1.1, fun hx => (blks_mem_app.1 hx).elim hb2 (fun h => hb1.2 (blks_mem_app.2 (.inr h)))⟩
    · have hbp : b ∈ blks σp := hb1
      refine ⟨?_, fun hx => (blks_mem_app.1 hx).elim hb2 (fun h => ?_)⟩
      · rcases hg.own b (blks_mem_app.2 (.inl hbp)) with h | h
        · exact .inr (.inl h)
        · exact .inr (.inr h)
      · have hdis := hg.dis
        rw [blks_app] at hdis
        exact (List.nodup_append.1 hdis).2.2 b hbp b h rfl
    · have hbw : w.heap.size ≤ b := hb1
      exact ⟨.inr (.inr (Nat.le_trans hg.kept.size hbw)), fun hx => (blks_mem_app.1 hx).elim hb2 (fun h => by have := hlt b (blks_mem_app.2 (.inr h)); omega)⟩
  exact ⟨v, av, σo ++ σr, q1, ⟨σo, q2, rfl⟩, tr_call hg (fun b hA _ => .inl hA) q3 (fun r hr => (q3.good.res r hr).mono (fun b hb hA => ⟨hsub b hb hA, rfl⟩) (fun _ _ => rfl)), q4.mono fun b hb hA => ⟨hsub b hb hA, rfl⟩⟩

/-- A call that is lent own slices as data: what it returns has no data in it. -/
theorem Yc.lend (args' : List AV) (ho : o.op = .call { callee := .value x, args := xs, argTypes := ts }) (hx : E.ev x = some (.fn (.func f) caps)) (hf : fnOk P f) (he : E.evl xs.toList = some as) (ha : as ++ caps = args) (hσ : σ = σp ++ σr) (hv : VwL σr args args') (h : Fn P f args' σp Φ)
    (hc : ∀ av σo, Φ av σo → Cl av ∧ ∀ r ∈ σo, ClR r) : Yc P E σ o C (blks σp) (fun av σ' => ∃ σo, Φ av σo ∧ σ' = σo ++ σr) := fun w ρ hg hρ => by
  subst hσ
  obtain ⟨us, h1, h2⟩ := call_run ho hx hf he ha hρ
  have hdis := hg.dis
  rw [blks_app] at hdis
  obtain ⟨d1, d2, d3⟩ := List.nodup_append.1 hdis
  have hd0 : Hd (al C (σp ++ σr)) σr w := ⟨fun r hr => hg.res r (List.mem_append_right _ hr), fun b hb hA => hA.2 (blks_mem_app.2 (.inr hb))⟩
  have h3 := hv _ w us hd0 h1
  have hd : Hd (fun b => al C (σp ++ σr) b ∨ b ∈ blks σr) σp w := ⟨fun r hr => (hg.res r (List.mem_append_left _ hr)).mono (fun b _ hA => ⟨.inl hA, rfl⟩) (fun _ _ => rfl), fun b hb hA => hA.elim (fun h => h.2 (blks_mem_app.2 (.inl hb))) (fun h => d3 b hb b h rfl)⟩
  refine ⟨f, us.toArray, h2, (h w _ us h3 hd d1).mono fun e w' ⟨v, av, σo, q1, q2, q3, q4⟩ => ?_⟩
  obtain ⟨c1, c2⟩ := hc av σo q2
  exact ⟨v, av, σo ++ σr, q1, ⟨σo, q2, rfl⟩, tr_call hg (fun b hA _ => hA) q3 (fun r hr => c2 r hr _ _ w' (q3.good.res r hr)), c1 _ _ w' v q4⟩
end
end Go.Ab
namespace Go.Ab
open Go Go.RowKit
section
variable {P : Program} {E E' : Env} {σ σ' : List Res} {o : Oper} {x : Operand} {av bv : AV} {C : Cx} {X : List Nat} {n : Nat}

/-- the resources by number, each time of those that are left -/
def sel : List Res → List Nat → Option (List Res)
  | _, [] => some []
  | σ, i :: is => match σ[i]?, sel (σ.eraseIdx i) is with
    | some r, some rs => some (r :: rs)
    | _, _ => none
theorem sel_perm : ∀ (is : List Nat) (σ σ' : List Res), sel σ is = some σ' → ∃ τ, List.Perm σ (σ' ++ τ)
  | [], σ, σ', h => by cases h; exact ⟨σ, List.Perm.refl _⟩
  | i :: is, σ, σ', h => by
    unfold sel at h
    cases h1 : σ[i]? with
    | none => rw [h1] at h; cases h
    | some r =>
      cases h2 : sel (σ.eraseIdx i) is with
      | none => rw [h1, h2] at h; cases h
      | some rs =>
        rw [h1, h2] at h
        cases h
        obtain ⟨τ, ht⟩ := sel_perm is _ _ h2
        refine ⟨τ, ?_⟩
        obtain ⟨q1, _⟩ := set_split (r' := r) h1
        have h3 : σ.eraseIdx i = σ.take i ++ σ.drop (i + 1) := List.eraseIdx_eq_take_drop_succ ..
        have hp : List.Perm (σ.take i ++ r :: σ.drop (i + 1)) (r :: (σ.take i ++ σ.drop (i + 1))) := List.perm_middle
        rw [← q1, ← h3] at hp
        exact hp.trans (ht.cons r)
theorem Sim.sel {a : Act} {w : World} (is : List Nat) (h : Sim C n E σ a w) (hs : Ab.sel σ is = some σ') : Sim C n E σ' a w := by
  obtain ⟨τ, ht⟩ := sel_perm is σ σ' hs
  exact (h.perm ht).less (List.sublist_append_left _ _)
theorem RW.sel {ops : Array Oper} {K : Env → List Res → Prop} {rest : List Oper} (is : List Nat) (hs : Ab.sel σ is = some σ') (h : RW P C n ops K rest E σ') : RW P C n ops K rest E σ := fun a w ha => h a w (ha.sel is hs)
theorem CW.sel {cd : Code} {Q : Exit → Env → List Res → Prop} (is : List Nat) (hs : Ab.sel σ is = some σ') (h : CW P C n cd Q E σ') : CW P C n cd Q E σ := fun a w ha => h a w (ha.sel is hs)

theorem Vw.now {A : Nat → Prop} {w : World} {v : Value} (h : Vw [] av bv) (hr : Rel A w av v) : Rel A w bv v :=
  (h A w v (show Hd _ [] w from ⟨fun r hr => absurd hr (by simp), fun b hb => absurd hb (by simp [blks])⟩) hr).mono fun b _ hb => ⟨hb.elim (fun x => x) (fun hx => absurd hx (by simp [blks])), rfl⟩
theorem VwL.now {A : Nat → Prop} {w : World} {as bs : List AV} {us : List Value} (h : VwL [] as bs) (hr : RelL A w as us) : RelL A w bs us :=
  (h A w us (show Hd _ [] w from ⟨fun r hr => absurd hr (by simp), fun b hb => absurd hb (by simp [blks])⟩) hr).mono fun b _ hb => ⟨hb.elim (fun x => x) (fun hx => absurd hx (by simp [blks])), rfl⟩

/-- the cells of a box said otherwise -/
theorem Sim.sayB {a : Act} {w : World} {j g : Nat} {t : TypeId} {cs cs' : List AV} (h : Sim C n E σ a w) (hj : σ[j]? = some (.box g t cs)) (hv : VwL [] cs cs') : Sim C n E (σ.set j (.box g t cs')) a w := by
  have hbk := blks_set (r' := Res.box g t cs') hj rfl
  have hal : ∀ b, al C σ b → al C (σ.set j (.box g t cs')) b := fun b hb => ⟨hb.1, by rw [hbk]; exact hb.2⟩
  refine ⟨h.defers.step (fun b _ hA => ⟨hal b hA, rfl⟩), h.size, fun s u hs => let ⟨v, h1, h2⟩ := h.slots s u hs; ⟨v, h1, h2.mono fun b _ hA => ⟨hal b hA, rfl⟩⟩, ⟨h.good.kept, fun s hs => ?_, by rw [hbk]; exact h.good.dis, fun b hb => h.good.own b (by rwa [hbk] at hb)⟩⟩
  rcases List.mem_or_eq_of_mem_set hs with hs | rfl
  · exact (h.good.res s hs).mono (fun b _ hA => ⟨hal b hA, rfl⟩) (fun _ _ => rfl)
  · obtain ⟨us, h1, h2⟩ := h.good.res _ (List.mem_of_getElem? hj)
    exact ⟨us, h1, (hv.now h2).mono fun b _ hb => ⟨hal b hb, rfl⟩⟩
theorem RW.sayB {ops : Array Oper} {K : Env → List Res → Prop} {rest : List Oper} {g : Nat} {t : TypeId} {cs cs' : List AV} (j : Nat) (hj : σ[j]? = some (.box g t cs)) (hv : VwL [] cs cs') (h : RW P C n ops K rest E (σ.set j (.box g t cs'))) : RW P C n ops K rest E σ := fun a w ha => h a w (ha.sayB hj hv)
theorem CW.sayB {cd : Code} {Q : Exit → Env → List Res → Prop} {g : Nat} {t : TypeId} {cs cs' : List AV} (j : Nat) (hj : σ[j]? = some (.box g t cs)) (hv : VwL [] cs cs') (h : CW P C n cd Q E (σ.set j (.box g t cs'))) : CW P C n cd Q E σ := fun a w ha => h a w (ha.sayB hj hv)

/-- a slot's value, by an equation -/
theorem RW.eqv {ops : Array Oper} {K : Env → List Res → Prop} {rest : List Oper} (t : Nat) (ht : E.get t = some av) (he : av = bv) (h : RW P C n ops K rest ((t, bv) :: E) σ) : RW P C n ops K rest E σ := RW.say t ht (he ▸ Vw.id av) h
theorem CW.eqv {cd : Code} {Q : Exit → Env → List Res → Prop} (t : Nat) (ht : E.get t = some av) (he : av = bv) (h : CW P C n cd Q ((t, bv) :: E) σ) : CW P C n cd Q E σ := CW.say t ht (he ▸ Vw.id av) h
theorem Slots.eqv {A : Nat → Prop} {w : World} {tmps : Array Value} {t : Nat} (h : Slots A w E tmps) (ht : E.get t = some av) (he : av = bv) : Slots A w ((t, bv) :: E) tmps := fun s u hs => by
  by_cases hts : t = s
  · subst hts
    rw [Env.get_hit] at hs
    cases hs
    rw [← he]
    exact h t av ht
  · rw [Env.get_miss _ _ hts] at hs
    exact h s u hs
theorem RH.eqv {ops : Array Oper} {A1 : Nat → Prop} {w1 : World} {K : Env → List Res → Prop} {fuel : Nat} {listed : Array Bool} {Eb : Env} (t : Nat) (ht : E.get t = some av) (htb : Eb.get t = some av) (he : av = bv) (h : RH P C n ops X A1 w1 K fuel listed ((t, bv) :: Eb) ((t, bv) :: E) σ) : RH P C n ops X A1 w1 K fuel listed Eb E σ := fun a w ha hb hS hA =>
  h a w (ha.say ht (he ▸ Vw.id av)) (hb.eqv htb he) hS hA
theorem RH.eqv' {ops : Array Oper} {A1 : Nat → Prop} {w1 : World} {K : Env → List Res → Prop} {fuel : Nat} {listed : Array Bool} {Eb : Env} (t : Nat) (ht : E.get t = some av) (he : av = bv) (h : RH P C n ops X A1 w1 K fuel listed Eb ((t, bv) :: E) σ) : RH P C n ops X A1 w1 K fuel listed Eb E σ := fun a w ha hb hS hA =>
  h a w (ha.say ht (he ▸ Vw.id av)) hb hS hA

def LoopR (R : Nat → Env → List Res → Prop) (k : Nat) (Q : Exit → Env → List Res → Prop) : Exit → Env → List Res → Prop
  | .normal, E, σ => ∃ k', k' < k ∧ R k' E σ
  | e, E, σ => Q e E σ
theorem CW.lp {c : Code} {Q : Exit → Env → List Res → Prop} (R : Nat → Env → List Res → Prop) (k0 : Nat) (h0 : R k0 E σ) (h : ∀ k E σ, R k E σ → CW P C n c (LoopR R k Q) E σ) : CW P C n (.loop c) Q E σ :=
  CW.loop (α := PUnit) (fun _ => R) ⟨⟩ k0 h0 fun _ k E σ hr => CW.mono (h k E σ hr) fun e E σ hq => by
    cases e with
    | normal => obtain ⟨k', h1, h2⟩ := hq; exact ⟨⟨⟩, k', h1, h2⟩
    | _ => exact hq

theorem Yc.fnV {f : FuncId} {xs : Array Operand} {ts : Array TypeId} {as caps args args' : List AV} {σp σr : List Res} {Φ : AV → List Res → Prop} (ho : o.op = .call { callee := .value x, args := xs, argTypes := ts }) (hx : E.ev x = some (.fn (.func f) caps)) (hf : fnOk P f) (he : E.evl xs.toList = some as) (ha : as ++ caps = args) (hσ : σ = σp ++ σr) (hv : VwL [] args args') (h : Fn P f args' σp Φ) :
    Yc P E σ o C (blks σp) (fun av σ' => ∃ σo, Φ av σo ∧ σ' = σo ++ σr) :=
  Yc.fn ho hx hf he ha hσ fun w A vs h1 => h w A vs (hv.now h1)
end

/-! ### models -/

theorem chk {α : Type} {c : Prop} [Decidable c] {a : Option α} {r : α} (h : (if c then a else none) = some r) : c ∧ a = some r := by
  split at h
  · exact ⟨by assumption, h⟩
  · cases h
theorem ift {α : Type} {b : Bool} {x y : Option α} {r : α} (h : (if b = true then x else y) = some r) (hb : b = true) : x = some r := by rwa [if_pos hb] at h
theorem iff' {α : Type} {b : Bool} {x y : Option α} {r : α} (h : (if b = true then x else y) = some r) (hb : b = false) : y = some r := by rwa [if_neg (by rw [hb]; exact Bool.false_ne_true)] at h
theorem bnd {α β : Type} {x : Option α} {f : α → Option β} {r : β} (h : x.bind f = some r) : ∃ a, x = some a ∧ f a = some r := Option.bind_eq_some_iff.1 h
abbrev cN (k : IntKind) (n : Int) : List AV := [.n k n]
abbrev cB (b : Bool) : List AV := [.b b]
abbrev cS (s : ByteArray) : List AV := [.s s]
abbrev cL {α : Type} [Inhabited α] (sz : Nat) (c : α → List AV) (l : List α) : List AV := [.sl sz c l]
abbrev cA {α : Type} [Inhabited α] (n : Nat) (c : α → List AV) (l : List α) : List AV := (List.range n).flatMap fun i => c l[i]!
instance : Inhabited ByteArray := ⟨.empty⟩
end Go.Ab
namespace Go.Ab
open Go Go.RowKit
section
variable {P : Program} {E E' : Env} {σ σ' : List Res} {o : Oper} {x : Operand} {av bv : AV} {C : Cx} {X : List Nat} {n : Nat}
theorem inX {τ : List Res} {r : Res} (i : Nat) (h : τ[i]? = some r) : ∀ b ∈ r.blk.toList, b ∈ blks τ := fun b hb => mem_blks.2 ⟨r, List.mem_of_getElem? h, by simpa using hb⟩
theorem CW.drawSel {Q : Exit → Env → List Res → Prop} {id : Nat} {l : List Oper} (N : Nat) (hN : l.toArray.size = N) (is : List Nat) (τ ρ : List Res) (hs : Ab.sel σ is = some (τ ++ ρ)) (hm : P.follows .mixedOrders = true)
    (h : ∀ A1 w1, Bs (blks τ) A1 w1 ρ → RH P C n l.toArray (blks τ) A1 w1 (fun E' σ' => Q .normal E' σ') N (Array.replicate N false) E E σ) : CW P C n (.region id l.toArray true) Q E σ := by
  obtain ⟨κ, hp⟩ := sel_perm is σ _ hs
  have hb : List.Perm (blks σ) (blks τ ++ blks ρ ++ blks κ) := by
    have := hp.filterMap Res.blk
    simpa [blks] using this
  refine CW.draw N hN (blks τ) ρ (fun b hb' => hb.mem_iff.2 (by simp [hb'])) (fun r hr => hp.mem_iff.2 (by simp [hr])) (fun hnd b hbr hbt => ?_) hm h
  have := hb.nodup_iff.1 hnd
  exact (List.nodup_append.1 (List.nodup_append.1 this).1).2.2 b hbt b hbr rfl
theorem Yp.conv {T T' : TypeId} {k k' : IntKind} {m : Int} (hT : P.underlying T = some (.int k)) (hT' : P.underlying T' = some (.int k')) (ho : o.op = .convert T T' x) (hx : E.ev x = some (.n k m)) : Yp P E σ o (.n k' (k'.wrap m)) := Yp.lits fun ρ hρ w => by
  simp [execOp, ho, hρ _ _ hx, convert, run_underlying hT, run_underlying hT', Conv.intToInt]
theorem RH.sel {ops : Array Oper} {A1 : Nat → Prop} {w1 : World} {K : Env → List Res → Prop} {fuel : Nat} {listed : Array Bool} {Eb : Env} (is : List Nat) (hs : Ab.sel σ is = some σ') (h : RH P C n ops X A1 w1 K fuel listed Eb E σ') : RH P C n ops X A1 w1 K fuel listed Eb E σ := fun a w ha hb hS hA => by
  obtain ⟨κ, hp⟩ := sel_perm is σ _ hs
  exact h a w (ha.sel is hs) hb hS fun b hb hc => ⟨(hA b hb hc).1, fun hx => (hA b hb hc).2 (by
    have := (hp.filterMap Res.blk).mem_iff (a := b)
    exact this.2 (by simpa [blks] using Or.inl (by simpa [blks] using hx)))⟩
theorem RH.say {ops : Array Oper} {A1 : Nat → Prop} {w1 : World} {K : Env → List Res → Prop} {fuel : Nat} {listed : Array Bool} {Eb : Env} (t : Nat) (ht : E.get t = some av) (hv : Vw [] av bv) (h : RH P C n ops X A1 w1 K fuel listed Eb ((t, bv) :: E) σ) : RH P C n ops X A1 w1 K fuel listed Eb E σ := fun a w ha hb hS hA =>
  h a w (ha.say ht hv) hb hS hA
end
end Go.Ab
