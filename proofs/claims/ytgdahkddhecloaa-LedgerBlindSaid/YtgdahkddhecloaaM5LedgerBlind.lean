/- Merged: Ab5, Ab6, Ab7, Ab8, Br, Ty, G0, Bk, Man, Rd, G1. -/
import Derived.Test.YtgdahkddhecloaaM4LedgerBlind
import Derived.Lib.SliceRun
import Derived.RangeFuncLeaves
import Derived.RangeFuncNested
import Derived.Laws.BytesArg
import Derived.Lib.MakeNoZero
import Derived.RangeFuncBound
import Derived.Shelf.Abstract
import Derived.TacticsIn
import Derived.OwnWalkIn
import Derived.Test.YtgdahkddhecloaaM3LedgerBlind
import Derived.Test.YtgdahkddhecloaaProg
import Derived.RangeFuncCalls
import Derived.Shelf.RegionOpen
import Derived.WalkKit
import Derived.TacticsInMore
import Derived.LoopNIn
import Derived.LoopIn
section
set_option linter.unusedSectionVars false
set_option linter.unusedVariables false
set_option linter.unusedSimpArgs false
namespace Go.Ab
open Go Go.RowKit

/-! ### parts of slices -/

theorem Rel.slTake {A : Nat → Prop} {w : World} {α : Type} [Inhabited α] {sz : Nat} {c : α → List AV} {l : List α} {p : Option Addr} {cap : Nat} (h : Rel A w (.sl sz c l) (.slice p l.length cap)) {lo hi cap' : Nat} (h1 : lo ≤ hi) (h2 : hi ≤ l.length) (hc' : hi - lo ≤ cap') (q : Option Addr) (hq : hi - lo = 0 ∨ q = p.map (·.add (lo * sz))) :
    Rel A w (.sl sz c ((l.take hi).drop lo)) (.slice q (hi - lo) cap') := by
  obtain ⟨p', cp, u, hv, hl, hcap, hz, hc, hr⟩ := h.slInv
  cases hv
  have hln : ((l.take hi).drop lo).length = hi - lo := by rw [List.length_drop, List.length_take]; omega
  have hget : ∀ i, i < hi - lo → ((l.take hi).drop lo)[i]! = l[lo + i]! := fun i hi' => by
    rw [getElem!_pos _ i (by rw [hln]; exact hi'), getElem!_pos l (lo + i) (by omega), List.getElem_drop, List.getElem_take]
  have hgoal : Rel A w (.sl sz c ((l.take hi).drop lo)) (.slice q ((l.take hi).drop lo).length cap') := by
    refine .sl sz c _ q cap' (fun i j => u (lo + i) j) (by omega) (by omega) (fun i hi' => ?_) (fun i hi' => ?_) (fun i j a hi' ha => ?_)
    · rw [hln] at hi'
      rw [hget i hi']; exact hz _ (by omega)
    · rw [hln] at hi'
      obtain ⟨b, off, hp, hb, hA, hcc⟩ := hc (lo + i) (by omega)
      refine ⟨b, off + lo * sz, ?_, hb, hA, fun j hj => ?_⟩
      · rcases hq with hq | hq
        · omega
        · rw [hq, hp, Option.map_some, add0]
      · have := hcc j hj
        rwa [Nat.add_mul, ← Nat.add_assoc] at this
    · rw [hln] at hi'
      rw [hget i hi'] at ha
      exact hr _ j a (by omega) ha
  rwa [hln] at hgoal

section
variable {P : Program} {E E' : Env} {σ σ' : List Res} {o : Oper} {T T' e : TypeId} {x y z : Operand} {av bv : AV} {v u : Value} {m n : Int} {b : Bool} {k k' : IntKind} {C : Cx} {X : List Nat}

theorem slice_run {w : World} {a : Option Addr} {len cap lo hi : Nat} {s : Nat} {L H : Option Value} (hT : P.underlying T = some (.slice e)) (hs : (P.info? e).map (·.size) = some s)
    (hb : (Instr.sliceBounds true len cap L H none).run P w = .ok (lo, hi, cap) w) : (Instr.slice T (.slice a len cap) L H none).run P w = .ok (.slice (if cap = lo then a else a.map (·.add (lo * s))) (hi - lo) (cap - lo)) w := by
  obtain ⟨j, hj, hj'⟩ := Option.map_eq_some_iff.1 hs
  simp [Instr.slice, run_underlying hT, hb, sizeOf, typeInfo, hj, hj']

theorem bounds_lohi {w : World} {len cap : Nat} (hh : 0 ≤ m ∧ m ≤ n ∧ n ≤ (len : Int)) (hc : len ≤ cap) : (Instr.sliceBounds true len cap (some (.int k m)) (some (.int k' n)) none).run P w = .ok (m.toNat, n.toNat, cap) w := by
  have h1 : 0 ≤ n ∧ n ≤ (cap : Int) := by omega
  have h2 : 0 ≤ m ∧ m ≤ ((n.toNat : Nat) : Int) := by omega
  simp [Instr.sliceBounds, Instr.sliceBound, asIntOf, h1]
  intro hc
  exfalso
  have := hc (by omega)
  omega
theorem bounds_hi {w : World} {len cap : Nat} (hh : 0 ≤ n ∧ n ≤ (len : Int)) (hc : len ≤ cap) : (Instr.sliceBounds true len cap none (some (.int k' n)) none).run P w = .ok (0, n.toNat, cap) w := by
  have h1 : 0 ≤ n ∧ n ≤ (cap : Int) := by omega
  simp [Instr.sliceBounds, Instr.sliceBound, asIntOf, h1]
theorem bounds_lo {w : World} {len cap : Nat} (hh : 0 ≤ m ∧ m ≤ (len : Int)) : (Instr.sliceBounds true len cap (some (.int k m)) none none).run P w = .ok (m.toNat, len, cap) w := by
  simp [Instr.sliceBounds, Instr.sliceBound, asIntOf, hh]

theorem slice_fin {A : Nat → Prop} {w : World} {ρ : Operand → Value} {α : Type} [Inhabited α] {sz : Nat} {c : α → List AV} {l : List α} {L H : Option Operand} {lo hi : Nat} (ho : o.op = .slice T x L H none) (hx : Rel A w (.sl sz c l) (ρ x)) (hT : P.underlying T = some (.slice e)) (hs : (P.info? e).map (·.size) = some sz) (h1 : lo ≤ hi) (h2 : hi ≤ l.length)
    (hb : ∀ cap, l.length ≤ cap → ∀ w', (Instr.sliceBounds true l.length cap (L.map ρ) (H.map ρ) none).run P w' = .ok (lo, hi, cap) w') : ∃ v, Rel A w (.sl sz c ((l.take hi).drop lo)) v ∧ ∀ w' : World, (execOp ρ o).run P w' = .ok (.value v) w' := by
  obtain ⟨p, cap, u, hv, hl, hcap, _⟩ := hx.slInv
  rw [hv] at hx
  refine ⟨.slice (if cap = lo then p else p.map (·.add (lo * sz))) (hi - lo) (cap - lo), hx.slTake h1 h2 (by omega) _ ?_, fun w' => ?_⟩
  · by_cases h : cap = lo
    · left; omega
    · right; rw [if_neg h]
  · have := slice_run (P := P) (T := T) (w := w') (a := p) (len := l.length) hT hs (hb cap hcap w')
    simp [execOp, ho, hv, Instr.sliceAt, run_underlying hT, this]

theorem Yp.slice2 {α : Type} [Inhabited α] {sz : Nat} {c : α → List AV} {l : List α} (ho : o.op = .slice T x (some y) (some z) none) (hx : E.ev x = some (.sl sz c l)) (hy : E.ev y = some (.n k m)) (hz : E.ev z = some (.n k' n)) (hT : P.underlying T = some (.slice e)) (hs : (P.info? e).map (·.size) = some sz)
    (hm : 0 ≤ m ∧ m ≤ n ∧ n ≤ (l.length : Int)) : Yp P E σ o (.sl sz c ((l.take n.toNat).drop m.toNat)) := fun A w ρ _ hρ => by
  obtain ⟨v, h1, h2⟩ := slice_fin (P := P) (lo := m.toNat) (hi := n.toNat) ho (hρ _ _ hx) hT hs (by omega) (by omega) (fun cap hc w' => by
    simp only [Option.map_some, (hρ _ _ hy).litEq, (hρ _ _ hz).litEq]
    exact bounds_lohi hm hc)
  exact ⟨v, h1, fun w' _ => h2 w'⟩
theorem Yp.sliceHi {α : Type} [Inhabited α] {sz : Nat} {c : α → List AV} {l : List α} (ho : o.op = .slice T x none (some z) none) (hx : E.ev x = some (.sl sz c l)) (hz : E.ev z = some (.n k' n)) (hT : P.underlying T = some (.slice e)) (hs : (P.info? e).map (·.size) = some sz)
    (hm : 0 ≤ n ∧ n ≤ (l.length : Int)) : Yp P E σ o (.sl sz c (l.take n.toNat)) := fun A w ρ _ hρ => by
  obtain ⟨v, h1, h2⟩ := slice_fin (P := P) (lo := 0) (hi := n.toNat) ho (hρ _ _ hx) hT hs (by omega) (by omega) (fun cap hc w' => by
    simp only [Option.map_some, Option.map_none, (hρ _ _ hz).litEq]
    exact bounds_hi hm hc)
  exact ⟨v, h1, fun w' _ => h2 w'⟩
theorem Yp.sliceLo {α : Type} [Inhabited α] {sz : Nat} {c : α → List AV} {l : List α} (ho : o.op = .slice T x (some y) none none) (hx : E.ev x = some (.sl sz c l)) (hy : E.ev y = some (.n k m)) (hT : P.underlying T = some (.slice e)) (hs : (P.info? e).map (·.size) = some sz)
    (hm : 0 ≤ m ∧ m ≤ (l.length : Int)) : Yp P E σ o (.sl sz c (l.drop m.toNat)) := fun A w ρ _ hρ => by
  obtain ⟨v, h1, h2⟩ := slice_fin (P := P) (lo := m.toNat) (hi := l.length) ho (hρ _ _ hx) hT hs (by omega) (by omega) (fun cap hc w' => by
    simp only [Option.map_some, Option.map_none, (hρ _ _ hy).litEq]
    exact bounds_lo hm)
  rw [List.take_length] at h1
  exact ⟨v, h1, fun w' _ => h2 w'⟩

/-- x[:0:0]: a slice without room -/
theorem Yv.slice00 {α β : Type} [Inhabited α] [Inhabited β] {sz sz' : Nat} {c : α → List AV} {l : List α} (c' : β → List AV) (ho : o.op = .slice T x none (some (.const (.int k 0))) (some (.const (.int k' 0)))) (hx : E.ev x = some (.sl sz c l) ∨ E.ev x = some (.lit (.slice none 0 0))) (hT : P.underlying T = some (.slice e)) (hs : (P.info? e).map (·.size) = some sz') :
    Yv P E σ o C [] (fun a σ' => ∃ v, a = .lit v ∧ σ' = .row v e sz' c' ([] : List β) :: σ) := fun w ρ hg hρ => by
  obtain ⟨j, hj, hj'⟩ := Option.map_eq_some_iff.1 hs
  obtain ⟨p, n, cap, hv⟩ : ∃ p n cap, ρ x = .slice p n cap := by
    rcases hx with hx | hx
    · obtain ⟨p, cap, u, hv, _⟩ := (hρ _ _ hx).slInv
      exact ⟨p, _, cap, hv⟩
    · exact ⟨none, 0, 0, (hρ _ _ hx).litEq⟩
  have h0 : ρ (.const (.int k 0)) = .int k 0 := (hρ (.const (.int k 0)) _ rfl).litEq
  have h0' : ρ (.const (.int k' 0)) = .int k' 0 := (hρ (.const (.int k' 0)) _ rfl).litEq
  refine ⟨.slice p 0 0, w, _, _, ⟨_, rfl, rfl⟩, tr_new hg (Kp.refl [] w) (.inl (by cases p <;> rfl)) ⟨[], ⟨by simp, .inl ⟨_, rfl, rfl⟩⟩, fun i hi => by simp at hi, fun i hi => by simp at hi⟩, ?_, .lit _⟩
  simp [execOp, ho, hv, h0, h0', Instr.sliceAt, Instr.slice, Instr.sliceBounds, Instr.sliceBound, run_underlying hT, sizeOf, typeInfo, hj, asIntOf]

/-! ### against nil -/

theorem Yp.eqNilL {p : Option Addr} {l c : Nat} (ho : o.op = .binOp .eql T x y T') (hx : E.ev x = some (.lit (.slice p l c))) (hy : E.ev y = some (.lit (.slice none 0 0))) (hT : P.underlying T = some (.slice e)) : Yp P E σ o (.b p.isNone) := Yp.lits fun ρ hρ w => by
  have := Lib.run_eql_slice_nil (P := P) w T e p l c 0 0 hT
  simp [execOp, ho, hρ _ _ hx, hρ _ _ hy, eqGuard, this]

/-- whether a slice that reads as0 l is nil is open where l is empty -/
def YpNil (P : Program) (E : Env) (σ : List Res) (o : Oper) (Q : Bool → Prop) : Prop := ∀ (A : Nat → Prop) (w : World) (ρ : Operand → Value), Hd A σ w → Ops A w E ρ → ∃ b, Q b ∧ (execOp ρ o).run P w = .ok (.value (.bool b)) w
theorem YpNil.sl {α : Type} [Inhabited α] {sz : Nat} {c : α → List AV} {l : List α} (ho : o.op = .binOp .eql T x y T') (hx : E.ev x = some (.sl sz c l)) (hy : E.ev y = some (.lit (.slice none 0 0))) (hT : P.underlying T = some (.slice e)) : YpNil P E σ o (fun b => b = true → l = []) := fun A w ρ _ hρ => by
  obtain ⟨p, cap, u, hv, hl, hcap, hz, hc, hr⟩ := (hρ _ _ hx).slInv
  have h1 := Lib.run_eql_slice_nil (P := P) w T e p l.length cap 0 0 hT
  have h2 := (hρ _ _ hy).litEq
  refine ⟨p.isNone, fun hn => ?_, by simp [execOp, ho, hv, h2, eqGuard, h1]⟩
  rcases Nat.eq_zero_or_pos l.length with h | h
  · exact List.eq_nil_of_length_eq_zero h
  · obtain ⟨b, off, hp, _⟩ := hc 0 h
    rw [hp] at hn
    cases hn

theorem RW.nil? {n : Nat} {ops : Array Oper} {K : Env → List Res → Prop} {rest : List Oper} {d : Nat} {Q : Bool → Prop} (hg : Wants E o ops = some true) (hd : o.dst = some d) (hn : Nat.blt d n = true) (hr : YpNil P E σ o Q) (next : ∀ b, Q b → RW P C n ops K rest ((d, .b b) :: E) σ) : RW P C n ops K (o :: rest) E σ := by
  intro a w ha
  refine wpList_step fun K' hK => ?_
  rw [if_pos (Wants.spec ha.slots hg)]
  unfold Oper.wp
  obtain ⟨b, h1, h2⟩ := hr _ w a.eval ha.good.hd ha.slots.ops
  rw [h2]
  show K' (a.put o.dst (.bool b)) w
  rw [hd]
  exact hK _ _ (next b h1 _ _ (ha.put hn (.lit _)))

/-! ### what is given up -/

/-- An empty slice without room begins to be the function's own. -/
theorem tr_own {w : World} {α : Type} [Inhabited α] (p : Option Addr) (T : TypeId) (sz : Nat) (c : α → List AV) (h : Good C σ w) : Tr C [] σ w (.row (.slice p 0 0) T sz c ([] : List α) :: σ) w :=
  tr_new h (Kp.refl [] w) (.inl (by cases p <;> rfl)) ⟨[], ⟨by simp, .inl ⟨_, rfl, rfl⟩⟩, fun i hi => by simp at hi, fun i hi => by simp at hi⟩
theorem RW.own {n : Nat} {ops : Array Oper} {K : Env → List Res → Prop} {rest : List Oper} {α : Type} [Inhabited α] (p : Option Addr) (T : TypeId) (sz : Nat) (c : α → List AV) (h : RW P C n ops K rest E (.row (.slice p 0 0) T sz c ([] : List α) :: σ)) : RW P C n ops K rest E σ := fun a w ha =>
  h a w (ha.tr (tr_own p T sz c ha.good))
theorem CW.own {n : Nat} {cd : Code} {Q : Exit → Env → List Res → Prop} {α : Type} [Inhabited α] (p : Option Addr) (T : TypeId) (sz : Nat) (c : α → List AV) (h : CW P C n cd Q E (.row (.slice p 0 0) T sz c ([] : List α) :: σ)) : CW P C n cd Q E σ := fun a w ha =>
  h a w (ha.tr (tr_own p T sz c ha.good))

/-- a', in place of a: own slices said as0 data -/
def Vw (σ : List Res) (a a' : AV) : Prop := ∀ (A : Nat → Prop) (w : World) (v : Value), Hd A σ w → Rel A w a v → Rel (fun b => A b ∨ b ∈ blks σ) w a' v
def VwL (σ : List Res) (as0 as' : List AV) : Prop := ∀ (A : Nat → Prop) (w : World) (us : List Value), Hd A σ w → RelL A w as0 us → RelL (fun b => A b ∨ b ∈ blks σ) w as' us
theorem Vw.id (a : AV) : Vw σ a a := fun A w v _ h => h.mono fun b _ hA => ⟨.inl hA, rfl⟩
theorem Vw.row {α : Type} [Inhabited α] {sz : Nat} {c : α → List AV} {l : List α} {t : TypeId} (i : Nat) (hσ : σ[i]? = some (.row v t sz c l)) : Vw σ (.lit v) (.sl sz c l) := fun A w u hd h => by
  have hu := h.litEq
  subst hu
  have hm := List.mem_of_getElem? hσ
  obtain ⟨us, h1, h2, h3⟩ := hd.1 _ hm
  have hlm : l.length ≤ 9223372036854775807 := by
    rcases h1.2 with ⟨_, _, h⟩ | ⟨_, _, _, _, _, q1, q2, _⟩
    · omega
    · unfold maxLen at q2; omega
  obtain ⟨p, cap, hv, hcap⟩ := h1.len
  by_cases h0 : l.length = 0
  · rw [hv]
    exact .sl sz c l p cap (fun _ _ => undef) hlm hcap (fun i hi => by omega) (fun i hi => by omega) (fun i j a hi => by omega)
  · obtain ⟨g, ck, cur, hv2, hgb, hB, _⟩ := h1.at (by omega)
    rw [hv2] at hv
    cases hv
    rw [hv2]
    refine .sl sz c l _ (ck + 1) (fun i j => (us[i * sz + j]?).getD undef) hlm hcap h2 (fun i hi => ⟨g, 0, rfl, hB.lt, .inr (mem_blks.2 ⟨_, hm, hgb⟩), fun j hj => ?_⟩) (fun i j a hi ha => ?_)
    · have hlt : i * sz + j < us.length := by
        have : i * sz + sz ≤ l.length * sz := by rw [← Nat.succ_mul]; exact Nat.mul_le_mul_right _ hi
        rw [h1.1]; omega
      rw [Nat.zero_add, List.getElem?_eq_getElem hlt]
      exact h1.cells hgb _ _ (List.getElem?_eq_getElem hlt)
    · obtain ⟨u, q1, q2⟩ := (h3 i hi).get ha
      rw [List.getElem?_take] at q1
      split at q1
      · rw [List.getElem?_drop] at q1
        rw [q1]
        exact q2.mono fun b _ hA => ⟨.inl hA, rfl⟩
      · cases q1
theorem Vw.nil {α : Type} [Inhabited α] (sz : Nat) (c : α → List AV) : Vw σ (.lit (.slice none 0 0)) (.sl sz c ([] : List α)) := fun A w u _ h => by
  have hu := h.litEq
  subst hu
  exact .sl sz c [] none 0 (fun _ _ => undef) (by simp) (by simp) (fun i hi => by cases hi) (fun i hi => by cases hi) (fun i j a hi => by cases hi)
theorem VwL.nil : VwL σ [] [] := fun A w us _ h => h.mono fun b _ hA => ⟨.inl hA, rfl⟩
theorem VwL.cons {as0 as' : List AV} {a a' : AV} (h : Vw σ a a') (hs : VwL σ as0 as') : VwL σ (a :: as0) (a' :: as') := fun A w us hd hr => by
  obtain ⟨v, us', rfl, h1, h2⟩ := hr.head
  exact RelL.cons (h A w v hd h1) (hs A w us' hd h2)
theorem VwL.id (as0 : List AV) : VwL σ as0 as0 := fun A w us _ h => h.mono fun b _ hA => ⟨.inl hA, rfl⟩
theorem Vw.agg {as0 as' : List AV} (h : VwL σ as0 as') : Vw σ (.agg as0) (.agg as') := fun A w v hd hr => by
  obtain ⟨us, rfl, h1⟩ := hr.aggInv
  exact Rel.aggL (h A w us hd h1)
theorem Vw.tup {as0 as' : List AV} (h : VwL σ as0 as') : Vw σ (.tup as0) (.tup as') := fun A w v hd hr => by
  obtain ⟨us, rfl, h1⟩ := hr.tupInv
  exact Rel.tupL (h A w us hd h1)

theorem blks_erase {r : Res} {i : Nat} (hσ : σ[i]? = some r) : List.Perm (blks σ) (blks (r :: σ.eraseIdx i)) := by
  obtain ⟨h1, _⟩ := set_split (r' := r) hσ
  have h2 : σ.eraseIdx i = σ.take i ++ σ.drop (i + 1) := List.eraseIdx_eq_take_drop_succ ..
  rw [h2]
  have hp : List.Perm (σ.take i ++ r :: σ.drop (i + 1)) (r :: (σ.take i ++ σ.drop (i + 1))) := List.perm_middle
  rw [← h1] at hp
  exact hp.filterMap _

theorem al_erase {r : Res} {i : Nat} {w : World} (hσ : σ[i]? = some r) (hg : Good C σ w) : ∀ b, (al C σ b ∨ b ∈ blks [r]) → al C (σ.eraseIdx i) b := fun b hb => by
  have hp := blks_erase hσ
  have hnd := hp.nodup_iff.1 hg.dis
  rcases hb with hb | hb
  · exact ⟨hb.1, fun hx => hb.2 (hp.mem_iff.2 (by rw [blks_cons]; exact List.mem_append_right _ hx))⟩
  · have hbs : b ∈ r.blk.toList := by rw [blks_cons] at hb; simpa [blks] using hb
    refine ⟨?_, fun hx => ?_⟩
    · rcases hg.own b (hp.mem_iff.2 (by rw [blks_cons]; exact List.mem_append_left _ hbs)) with h | h
      · exact .inr (.inl h)
      · exact .inr (.inr h)
    · rw [blks_cons] at hnd
      exact (List.nodup_append.1 hnd).2.2 b hbs b hx rfl

/-- An own slice becomes data: in slot t. -/
theorem Sim.frz {n : Nat} {a : Act} {w : World} {r : Res} {i t : Nat} (h : Sim C n E σ a w) (hσ : σ[i]? = some r) (ht : E.get t = some av) (hv : Vw [r] av bv) : Sim C n ((t, bv) :: E) (σ.eraseIdx i) a w := by
  have hal := al_erase hσ h.good
  have hp := blks_erase hσ
  have hmem : ∀ s ∈ σ.eraseIdx i, s ∈ σ := fun s hs => List.mem_of_mem_eraseIdx hs
  have hd : Hd (al C σ) [r] w := ⟨fun s hs => by rw [List.mem_singleton] at hs; rw [hs]; exact h.good.res r (List.mem_of_getElem? hσ), fun b hb hA => hA.2 (by
    obtain ⟨s, h1, h2⟩ := mem_blks.1 hb
    rw [List.mem_singleton] at h1
    rw [h1] at h2
    exact mem_blks.2 ⟨r, List.mem_of_getElem? hσ, h2⟩)⟩
  refine ⟨h.defers.step (fun b _ hA => ⟨hal b (.inl hA), rfl⟩), h.size, fun s u hs => ?_, ⟨h.good.kept, fun s hs => (h.good.res s (hmem s hs)).mono (fun b _ hA => ⟨hal b (.inl hA), rfl⟩) (fun _ _ => rfl), ?_, fun b hb => h.good.own b (hp.mem_iff.2 (by rw [blks_cons]; exact List.mem_append_right _ hb))⟩⟩
  · by_cases hts : t = s
    · subst hts
      rw [Env.get_hit] at hs
      cases hs
      obtain ⟨v, h1, h2⟩ := h.slots t av ht
      exact ⟨v, h1, (hv _ w v hd h2).mono fun b _ hb => ⟨hal b hb, rfl⟩⟩
    · rw [Env.get_miss _ _ hts] at hs
      obtain ⟨v, h1, h2⟩ := h.slots s u hs
      exact ⟨v, h1, h2.mono fun b _ hA => ⟨hal b (.inl hA), rfl⟩⟩
  · have := hp.nodup_iff.1 h.good.dis
    rw [blks_cons] at this
    exact (List.nodup_append.1 this).2.1
/-- An own slice becomes data: in cell k of box j (counted without it). -/
theorem Sim.frzB {n : Nat} {a : Act} {w : World} {r : Res} {i j g : Nat} {t : TypeId} {cs cs' : List AV} (h : Sim C n E σ a w) (hσ : σ[i]? = some r) (hj : (σ.eraseIdx i)[j]? = some (.box g t cs)) (hv : VwL [r] cs cs') : Sim C n E ((σ.eraseIdx i).set j (.box g t cs')) a w := by
  have hal := al_erase hσ h.good
  have hp := blks_erase hσ
  have hmem : ∀ s ∈ σ.eraseIdx i, s ∈ σ := fun s hs => List.mem_of_mem_eraseIdx hs
  have hd : Hd (al C σ) [r] w := ⟨fun s hs => by rw [List.mem_singleton] at hs; rw [hs]; exact h.good.res r (List.mem_of_getElem? hσ), fun b hb hA => hA.2 (by
    obtain ⟨s, h1, h2⟩ := mem_blks.1 hb
    rw [List.mem_singleton] at h1
    rw [h1] at h2
    exact mem_blks.2 ⟨r, List.mem_of_getElem? hσ, h2⟩)⟩
  have hbk := blks_set (r' := Res.box g t cs') hj rfl
  have hal' : ∀ b, (al C σ b ∨ b ∈ blks [r]) → al C ((σ.eraseIdx i).set j (.box g t cs')) b := fun b hb => ⟨(hal b hb).1, by rw [hbk]; exact (hal b hb).2⟩
  refine ⟨h.defers.step (fun b _ hA => ⟨hal' b (.inl hA), rfl⟩), h.size, fun s u hs => ?_, ⟨h.good.kept, fun s hs => ?_, ?_, fun b hb => h.good.own b (hp.mem_iff.2 (by rw [hbk] at hb; rw [blks_cons]; exact List.mem_append_right _ hb))⟩⟩
  · obtain ⟨v, h1, h2⟩ := h.slots s u hs
    exact ⟨v, h1, h2.mono fun b _ hA => ⟨hal' b (.inl hA), rfl⟩⟩
  · rcases List.mem_or_eq_of_mem_set hs with hs | rfl
    · exact (h.good.res s (hmem s hs)).mono (fun b _ hA => ⟨hal' b (.inl hA), rfl⟩) (fun _ _ => rfl)
    · obtain ⟨us, h1, h2⟩ := h.good.res _ (hmem _ (List.mem_of_getElem? hj))
      exact ⟨us, h1, (hv _ w us hd h2).mono fun b _ hb => ⟨hal' b hb, rfl⟩⟩
  · rw [hbk]
    have := hp.nodup_iff.1 h.good.dis
    rw [blks_cons] at this
    exact (List.nodup_append.1 this).2.1

theorem RW.frz {n : Nat} {ops : Array Oper} {K : Env → List Res → Prop} {rest : List Oper} {r : Res} (i t : Nat) (hσ : σ[i]? = some r) (ht : E.get t = some av) (hv : Vw [r] av bv) (h : RW P C n ops K rest ((t, bv) :: E) (σ.eraseIdx i)) : RW P C n ops K rest E σ := fun a w ha => h a w (ha.frz hσ ht hv)
theorem CW.frz {n : Nat} {cd : Code} {Q : Exit → Env → List Res → Prop} {r : Res} (i t : Nat) (hσ : σ[i]? = some r) (ht : E.get t = some av) (hv : Vw [r] av bv) (h : CW P C n cd Q ((t, bv) :: E) (σ.eraseIdx i)) : CW P C n cd Q E σ := fun a w ha => h a w (ha.frz hσ ht hv)
theorem RW.frzB {n : Nat} {ops : Array Oper} {K : Env → List Res → Prop} {rest : List Oper} {r : Res} {g : Nat} {t : TypeId} {cs cs' : List AV} (i j : Nat) (hσ : σ[i]? = some r) (hj : (σ.eraseIdx i)[j]? = some (.box g t cs)) (hv : VwL [r] cs cs') (h : RW P C n ops K rest E ((σ.eraseIdx i).set j (.box g t cs'))) : RW P C n ops K rest E σ := fun a w ha => h a w (ha.frzB hσ hj hv)
theorem CW.frzB {n : Nat} {cd : Code} {Q : Exit → Env → List Res → Prop} {r : Res} {g : Nat} {t : TypeId} {cs cs' : List AV} (i j : Nat) (hσ : σ[i]? = some r) (hj : (σ.eraseIdx i)[j]? = some (.box g t cs)) (hv : VwL [r] cs cs') (h : CW P C n cd Q E ((σ.eraseIdx i).set j (.box g t cs'))) : CW P C n cd Q E σ := fun a w ha => h a w (ha.frzB hσ hj hv)
/-- a slot said otherwise -/
theorem Sim.say {n : Nat} {a : Act} {w : World} {t : Nat} (h : Sim C n E σ a w) (ht : E.get t = some av) (hv : Vw [] av bv) : Sim C n ((t, bv) :: E) σ a w :=
  ⟨h.defers, h.size, fun s u hs => by
    by_cases hts : t = s
    · subst hts
      rw [Env.get_hit] at hs
      cases hs
      obtain ⟨v, h1, h2⟩ := h.slots t av ht
      exact ⟨v, h1, (hv _ w v (show Hd _ [] w from ⟨fun r hr => absurd hr (by simp), fun b hb => absurd hb (by simp [blks])⟩) h2).mono fun b _ hb => ⟨hb.elim (fun x => x) (fun hx => absurd hx (by simp [blks])), rfl⟩⟩
    · rw [Env.get_miss _ _ hts] at hs
      exact h.slots s u hs, h.good⟩
theorem RW.say {n : Nat} {ops : Array Oper} {K : Env → List Res → Prop} {rest : List Oper} (t : Nat) (ht : E.get t = some av) (hv : Vw [] av bv) (h : RW P C n ops K rest ((t, bv) :: E) σ) : RW P C n ops K rest E σ := fun a w ha => h a w (ha.say ht hv)
theorem CW.say {n : Nat} {cd : Code} {Q : Exit → Env → List Res → Prop} (t : Nat) (ht : E.get t = some av) (hv : Vw [] av bv) (h : CW P C n cd Q ((t, bv) :: E) σ) : CW P C n cd Q E σ := fun a w ha => h a w (ha.say ht hv)
end

/-! ### functions -/

/-- Function f, called with args and owning σ: what it returns and owns then is of Φ. -/
def Fn (P : Program) (f : FuncId) (args : List AV) (σ : List Res) (Φ : AV → List Res → Prop) : Prop :=
  ∀ (w : World) (A : Nat → Prop) (vs : List Value), RelL A w args vs → Hd A σ w → (blks σ).Nodup →
    Calls P f vs.toArray w fun e w' => ∃ v av σ', e = .returned v ∧ Φ av σ' ∧ Tr ⟨w, A, blks σ⟩ (blks σ) σ w σ' w' ∧ Rel (al ⟨w, A, blks σ⟩ σ') w' av v

theorem Fn.mono {P : Program} {f : FuncId} {args : List AV} {σ : List Res} {Φ Ψ : AV → List Res → Prop} (h : Fn P f args σ Φ) (hp : ∀ a s, Φ a s → Ψ a s) : Fn P f args σ Ψ := fun w A vs h1 h2 h3 =>
  (h w A vs h1 h2 h3).mono fun _ _ ⟨v, av, σ', q1, q2, q3⟩ => ⟨v, av, σ', q1, hp _ _ q2, q3⟩

def argsEnv : Nat → List AV → Env
  | _, [] => []
  | i, v :: l => (i, v) :: argsEnv (i + 1) l

theorem argsEnv_get : ∀ (l : List AV) (i t : Nat) (v : AV), Env.get (argsEnv i l) t = some v → i ≤ t ∧ l[t - i]? = some v
  | [], _, _, _, h => by cases h
  | u :: l, i, t, v, h => by
    by_cases hit : i = t
    · subst hit
      rw [argsEnv, Env.get_hit] at h
      cases h
      simp
    · rw [argsEnv, Env.get_miss _ _ hit] at h
      obtain ⟨h1, h2⟩ := argsEnv_get l (i + 1) t v h
      refine ⟨by omega, ?_⟩
      rw [show t - i = (t - (i + 1)) + 1 from by omega]
      simpa using h2

/-- What a function comes to at its end. -/
def FinQ (P : Program) (C : Cx) (n : Nat) (fn : Func) (Φ : AV → List Res → Prop) : Exit → Env → List Res → Prop := fun e E σ =>
  (e = .normal ∨ e = .ret) ∧ ∀ a w, Sim C n E σ a w → ∃ v av σ', Φ av σ' ∧ (results fn a.tmps).run P w = .ok v w ∧ Good C σ' w ∧ (∀ b, al C σ b → al C σ' b) ∧ Rel (al C σ') w av v

/-- What is cells lies as0 it lay. -/
structure Tn (C : Cx) (w w' : World) : Prop where
  os : w'.os = w.os
  tape : w'.tape = w.tape
  output : w'.output = w.output
  size : w.heap.size ≤ w'.heap.size
  old : ∀ k, k < C.w0.heap.size → w'.heap[k]? = w.heap[k]?
  same : ∀ (b : Nat) cs T m, w.heap[b]? = some (Obj.cells cs T m) → w'.heap[b]? = w.heap[b]?

theorem Rel.turn {C : Cx} {A : Nat → Prop} {w w' : World} {av : AV} {v : Value} (h : Rel A w av v) (ht : Tn C w w') : Rel A w' av v := by
  have hcell : ∀ b i u, w.cell? ⟨b, i, none⟩ = some u → w'.cell? ⟨b, i, none⟩ = some u := fun b i u hc => by
    rw [← hc]
    cases hb : w.heap[b]? with
    | none => simp [World.cell?, hb] at hc
    | some o =>
      cases o with
      | cells cs T m => exact World.cell?_of_block (ht.same b cs T m hb)
      | _ => simp [World.cell?, hb] at hc
  induction h with
  | lit v => exact .lit v
  | sl sz c l p cap u hl hcap hz hc hr ih =>
    refine .sl sz c l p cap u hl hcap hz (fun i hi => ?_) ih
    obtain ⟨b, off, h1, h2, h3, h4⟩ := hc i hi
    exact ⟨b, off, h1, Nat.lt_of_lt_of_le h2 ht.size, h3, fun j hj => hcell _ _ _ (h4 j hj)⟩
  | fp cs b o us hb hA hl hc hr ih => exact .fp cs b o us (Nat.lt_of_lt_of_le hb ht.size) hA hl (fun j v hj => hcell _ _ _ (hc j v hj)) ih
  | rp v k g h => exact .rp v k g h
  | agg cs us hl hr ih => exact .agg cs us hl ih
  | tup cs us hl hr ih => exact .tup cs us hl ih
  | fn f cs us hl hr ih => exact .fn f cs us hl ih

theorem Res.ok.turn {C : Cx} {A : Nat → Prop} {w w' : World} {r : Res} (h : r.ok A w) (ht : Tn C w w') : r.ok A w' := by
  cases r with
  | box b T cs =>
    obtain ⟨us, h1, h2⟩ := h
    exact ⟨us, (ht.same _ _ _ _ h1).trans h1, h2.1, fun j a v q1 q2 => (h2.2 j a v q1 q2).turn ht⟩
  | row v T sz c l =>
    obtain ⟨us, h1, h2, h3⟩ := h
    refine ⟨us, ⟨h1.1, ?_⟩, h2, fun i hi => ⟨(h3 i hi).1, fun j a v q1 q2 => ((h3 i hi).2 j a v q1 q2).turn ht⟩⟩
    rcases h1.2 with q | ⟨g, cap, cur, rfl, q1, q2⟩
    · exact .inl q
    · exact .inr ⟨g, cap, cur, rfl, (ht.same _ _ _ _ q1).trans q1, q2⟩

/-- the blocks of what is owned are cells -/
theorem Res.ok.cells {A : Nat → Prop} {w : World} {r : Res} (h : r.ok A w) {b : Nat} (hb : r.blk = some b) : ∃ cs T m, w.heap[b]? = some (Obj.cells cs T m) := by
  cases r with
  | box b' T cs => obtain ⟨us, h1, _⟩ := h; cases hb; exact ⟨_, _, _, h1⟩
  | row v T sz c l =>
    obtain ⟨us, h1, _⟩ := h
    rcases h1.2 with ⟨p, rfl, _⟩ | ⟨g, cap, cur, rfl, q1, _⟩
    · cases p <;> cases hb
    · cases hb; exact ⟨_, _, _, q1⟩

theorem Good.turn {C : Cx} {σ : List Res} {w w' : World} (h : Good C σ w) (ht : Tn C w w') : Good C σ w' :=
  ⟨⟨ht.os.trans h.kept.os, ht.tape.trans h.kept.tape, ht.output.trans h.kept.output, Nat.le_trans h.kept.size ht.size, fun k hk hX => (ht.old k hk).trans (h.kept.block k hk hX)⟩,
    fun r hr => (h.res r hr).turn ht, h.dis, h.own⟩

theorem Tn.putObj {C : Cx} {w : World} {D : Nat} {o : Obj} (o' : Obj) (hw : C.w0.heap.size ≤ D) (hD : w.heap[D]? = some o) (ho : o.isCells = false) : Tn C w (w.putObj D o') :=
  ⟨rfl, rfl, rfl, by simp [World.putObj], fun k hk => World.putObj_heap_other (by omega), fun b cs T m hx => World.putObj_heap_other fun e => by
    subst e
    rw [hD] at hx
    cases hx
    cases ho⟩

theorem Slots.turn {C : Cx} {A : Nat → Prop} {w w' : World} {E : Env} {tmps : Array Value} (h : Slots A w E tmps) (ht : Tn C w w') : Slots A w' E tmps := fun t av q => let ⟨v, h1, h2⟩ := h t av q; ⟨v, h1, h2.turn ht⟩

theorem Fn.of {P : Program} {f : FuncId} {fn : Func} {c : Code} {n : Nat} {args : List AV} {σ : List Res} {Φ : AV → List Res → Prop} (hf : P.funcs[f]? = some fn) (hb : fn.body = some c) (hn : fn.ntmps = n) (hl : Nat.ble args.length n = true)
    (h : ∀ C, CW P C n c (FinQ P C n fn Φ) (argsEnv 0 args) σ) : Fn P f args σ Φ := fun w A vs hr hd hnd => by
  have hl' : args.length ≤ n := by simpa using hl
  have hvl := hr.1
  have hal : ∀ b, b < w.heap.size → A b → al ⟨w, A, blks σ⟩ σ b := fun b _ hA => ⟨.inl hA, fun hx => hd.2 b hx hA⟩
  have hgood : Good ⟨w, A, blks σ⟩ σ w := ⟨Kp.refl _ _, fun r hr => (hd.1 r hr).mono (fun b hb hA => ⟨hal b hb hA, rfl⟩) (fun _ _ => rfl), hnd, fun b hb => .inl hb⟩
  refine callsIn_wide.1 (callsIn_of_wp_marks (n := 0) hf hb trivial (wpIn_wide.2 (wp_mono (h ⟨w, A, blks σ⟩ _ w ⟨.nil rfl, ?_, fun t v ht => ?_, hgood⟩) ?_)))
  · simp [hn, hvl]; omega
  · obtain ⟨_, h2⟩ := argsEnv_get args 0 t v ht
    rw [Nat.sub_zero] at h2
    obtain ⟨u, h3, h4⟩ := hr.get h2
    have hlt : t < vs.length := (List.getElem?_eq_some_iff.1 h3).1
    refine ⟨u, ?_, h4.mono fun b hb hA => ⟨hal b hb hA, rfl⟩⟩
    rw [Array.getElem?_append_left (by simpa using hlt)]
    simpa using h3
  · rintro e a' w' ⟨E', σ', h1, he, h2⟩
    have fin : ∀ (w'' : World), Sim ⟨w, A, blks σ⟩ n E' σ' { a' with defers := [] } w'' → ∃ v, (results fn a'.tmps).run P w'' = .ok v w'' ∧ ∃ v' av σ'', Ending.returned v = .returned v' ∧ Φ av σ'' ∧ Tr ⟨w, A, blks σ⟩ (blks σ) σ w σ'' w'' ∧ Rel (al ⟨w, A, blks σ⟩ σ'') w'' av v' := fun w'' hs => by
      obtain ⟨v, av, σ'', h3, h4, h5, h6, h7⟩ := h2 _ w'' hs
      have hex : Tr ⟨w, A, blks σ⟩ (blks σ) σ w σ'' w'' := ⟨h5, h5.kept, fun b hb hA => ⟨⟨hA.1, fun hx => by
        rcases h5.own b hx with h | h
        · exact hA.2 h
        · exact absurd hb (by have : w.heap.size ≤ b := h; omega)⟩, hA.2⟩⟩
      exact ⟨v, h4, v, av, σ'', rfl, h3, hex, h7⟩
    have lv : LeavesInM Fence.wide 0 P fn a'.tmps (fun e w' => ∃ v av σ', e = .returned v ∧ Φ av σ' ∧ Tr ⟨w, A, blks σ⟩ (blks σ) σ w σ' w' ∧ Rel (al ⟨w, A, blks σ⟩ σ') w' av v) a'.defers .returning w' := by
      obtain ⟨Ds, hd1, hd2, hd3⟩ := h1.defers
      rw [hd1]
      have hsl := h1.slots
      have hgd := h1.good
      have hsz := h1.size
      clear hd1 h1
      induction Ds generalizing w' with
      | nil => exact fin w' ⟨.nil rfl, hsz, hsl, hgd⟩
      | cons D Ds ih =>
        obtain ⟨q1, q2, q3, q4⟩ := hd3 D List.mem_cons_self
        rw [List.nodup_cons] at hd2
        refine ⟨by simp, .inl ⟨D, _, rfl, run_takeDeferred q4, ?_⟩⟩
        have ht : Tn ⟨w, A, blks σ⟩ w' (w'.putObj D (.deferred none)) := .putObj _ q2 q4 rfl
        refine ih _ hd2.2 (fun D' hD' => ?_) (hsl.turn ht) (hgd.turn ht)
        obtain ⟨p1, p2, p3, p4⟩ := hd3 D' (List.mem_cons_of_mem _ hD')
        have hne : D' ≠ D := fun e => hd2.1 (e ▸ hD')
        exact ⟨Nat.lt_of_lt_of_le p1 ht.size, p2, p3, (World.putObj_heap_other hne).trans p4⟩
    rcases he with rfl | rfl
    · exact lv
    · exact lv

def resOne (tmps : Array Value) : ResultVar → Sem Value
  | .tmp t => pure (tmps.getD t undef)
  | .cell a t => do loadVar t (← asAddr (tmps.getD a undef))

/-- One of the results. -/
def ResIs (P : Program) (E : Env) (σ : List Res) (rv : ResultVar) (av : AV) : Prop := ∀ (A : Nat → Prop) (w : World) (tmps : Array Value), Hd A σ w → Slots A w E tmps → ∃ v, (resOne tmps rv).run P w = .ok v w ∧ Rel A w av v
section
variable {P : Program} {C : Cx} {n : Nat} {fn : Func} {E : Env} {σ σ' : List Res} {t u : Nat} {av : AV} {e : Exit} {Φ : AV → List Res → Prop}
theorem ResIs.tmp (h : E.get t = some av) : ResIs P E σ (.tmp t) av := fun A w tmps _ hs => by
  obtain ⟨v, h1, h2⟩ := hs t av h
  exact ⟨v, by simp [resOne, h1], h2⟩
theorem ResIs.cell1 {g : Nat} {ty T : TypeId} {cs : List AV} (i : Nat) (h : E.get t = some (.lit (.pointer (some ⟨g, 0, none⟩)))) (hσ : σ[i]? = some (.box g T cs)) (hT : isOne P ty) (ha : cs[0]? = some av) : ResIs P E σ (.cell t ty) av := fun A w tmps hd hs => by
  obtain ⟨v, h1, h2⟩ := hs t _ h
  have h2 := h2.litEq
  subst h2
  obtain ⟨us, h3, h4⟩ := hd.1 _ (List.mem_of_getElem? hσ)
  obtain ⟨v, h5, h6⟩ := h4.get ha
  exact ⟨v, by simp [resOne, h1, asAddr, run_loadVar_one hT (h3.cell (by simpa using h5))], h6⟩
theorem ResIs.cellN {g k : Nat} {ty T : TypeId} {cs : List AV} (i : Nat) (h : E.get t = some (.lit (.pointer (some ⟨g, 0, none⟩)))) (hσ : σ[i]? = some (.box g T cs)) (hT : isMany P ty k) (hk : cs.length = k) : ResIs P E σ (.cell t ty) (.agg cs) := fun A w tmps hd hs => by
  obtain ⟨v, h1, h2⟩ := hs t _ h
  have h2 := h2.litEq
  subst h2
  obtain ⟨us, h3, h4⟩ := hd.1 _ (List.mem_of_getElem? hσ)
  refine ⟨_, ?_, Rel.aggL h4⟩
  have := run_loadVar_many (P := P) (T := ty) (w := w) (a := ⟨g, 0, none⟩) (cs := us) (by rw [h4.1, hk]; exact hT) (fun j u hj => by rw [add0, Nat.zero_add]; exact h3.cell (by simpa using hj))
  simp [resOne, h1, asAddr, this]

theorem fin_of (he : e = .normal ∨ e = .ret) (hs : List.Sublist σ' σ) (hΦ : Φ av σ') (h : ∀ A w tmps, Hd A σ w → Slots A w E tmps → ∃ v, (results fn tmps).run P w = .ok v w ∧ Rel A w av v) : FinQ P C n fn Φ e E σ :=
  ⟨he, fun a w ha => by
    obtain ⟨v, h1, h2⟩ := h _ w a.tmps ha.good.hd ha.slots
    have hl := ha.less hs
    have hal : ∀ b, al C σ b → al C σ' b := fun b hb => ⟨hb.1, fun hx => hb.2 (blks_sub (fun r hr => hs.subset hr) b hx)⟩
    exact ⟨v, av, σ', hΦ, h1, hl.good, hal, h2.mono fun b _ hA => ⟨hal b hA, rfl⟩⟩⟩
theorem fin0 (he : e = .normal ∨ e = .ret) (hr : fn.results = #[]) (hs : List.Sublist σ' σ) (hΦ : Φ (.tup []) σ') : FinQ P C n fn Φ e E σ :=
  fin_of he hs hΦ fun A w tmps _ _ => ⟨_, results_none hr _ P w, Rel.tupL RelL.nil⟩
theorem fin1 {r1 : ResultVar} (he : e = .normal ∨ e = .ret) (hr : fn.results = #[r1]) (h1 : ResIs P E σ r1 av) (hs : List.Sublist σ' σ) (hΦ : Φ av σ') : FinQ P C n fn Φ e E σ :=
  fin_of he hs hΦ fun A w tmps hd hl => by
    obtain ⟨v, q1, q2⟩ := h1 A w tmps hd hl
    refine ⟨v, ?_, q2⟩
    show (do let vs ← fn.results.mapM (resOne tmps); pure (if h : vs.size = 1 then vs[0] else .tuple vs) : Sem Value).run P w = _
    simp [hr, q1]
theorem fin2 {r1 r2 : ResultVar} {a1 a2 : AV} (he : e = .normal ∨ e = .ret) (hr : fn.results = #[r1, r2]) (h1 : ResIs P E σ r1 a1) (h2 : ResIs P E σ r2 a2) (hs : List.Sublist σ' σ) (hΦ : Φ (.tup [a1, a2]) σ') : FinQ P C n fn Φ e E σ :=
  fin_of he hs hΦ fun A w tmps hd hl => by
    obtain ⟨v1, q1, p1⟩ := h1 A w tmps hd hl
    obtain ⟨v2, q2, p2⟩ := h2 A w tmps hd hl
    refine ⟨.tuple #[v1, v2], ?_, Rel.tupL (RelL.cons p1 (RelL.cons p2 RelL.nil))⟩
    show (do let vs ← fn.results.mapM (resOne tmps); pure (if h : vs.size = 1 then vs[0] else .tuple vs) : Sem Value).run P w = _
    simp [hr, q1, q2]
theorem fin3 {r1 r2 r3 : ResultVar} {a1 a2 a3 : AV} (he : e = .normal ∨ e = .ret) (hr : fn.results = #[r1, r2, r3]) (h1 : ResIs P E σ r1 a1) (h2 : ResIs P E σ r2 a2) (h3 : ResIs P E σ r3 a3) (hs : List.Sublist σ' σ) (hΦ : Φ (.tup [a1, a2, a3]) σ') : FinQ P C n fn Φ e E σ :=
  fin_of he hs hΦ fun A w tmps hd hl => by
    obtain ⟨v1, q1, p1⟩ := h1 A w tmps hd hl
    obtain ⟨v2, q2, p2⟩ := h2 A w tmps hd hl
    obtain ⟨v3, q3, p3⟩ := h3 A w tmps hd hl
    refine ⟨.tuple #[v1, v2, v3], ?_, Rel.tupL (RelL.cons p1 (RelL.cons p2 (RelL.cons p3 RelL.nil)))⟩
    show (do let vs ← fn.results.mapM (resOne tmps); pure (if h : vs.size = 1 then vs[0] else .tuple vs) : Sem Value).run P w = _
    simp [hr, q1, q2, q3]
theorem fin4 {r1 r2 r3 r4 : ResultVar} {a1 a2 a3 a4 : AV} (he : e = .normal ∨ e = .ret) (hr : fn.results = #[r1, r2, r3, r4]) (h1 : ResIs P E σ r1 a1) (h2 : ResIs P E σ r2 a2) (h3 : ResIs P E σ r3 a3) (h4 : ResIs P E σ r4 a4) (hs : List.Sublist σ' σ) (hΦ : Φ (.tup [a1, a2, a3, a4]) σ') : FinQ P C n fn Φ e E σ :=
  fin_of he hs hΦ fun A w tmps hd hl => by
    obtain ⟨v1, q1, p1⟩ := h1 A w tmps hd hl
    obtain ⟨v2, q2, p2⟩ := h2 A w tmps hd hl
    obtain ⟨v3, q3, p3⟩ := h3 A w tmps hd hl
    obtain ⟨v4, q4, p4⟩ := h4 A w tmps hd hl
    refine ⟨.tuple #[v1, v2, v3, v4], ?_, Rel.tupL (RelL.cons p1 (RelL.cons p2 (RelL.cons p3 (RelL.cons p4 RelL.nil))))⟩
    show (do let vs ← fn.results.mapM (resOne tmps); pure (if h : vs.size = 1 then vs[0] else .tuple vs) : Sem Value).run P w = _
    simp [hr, q1, q2, q3, q4]
end

/-! ### calls -/

/-- f is a function with a body -/
def fnOk (P : Program) (f : FuncId) : Prop := ∃ fn, P.funcs[f]? = some fn ∧ (fn.name == "runtime.NumGoroutine") = false ∧ fn.body.isNone = false

theorem run_callFunc_ok {P : Program} {f : FuncId} {w : World} (hf : fnOk P f) (args : Array Value) : (callFunc f args).run P w = .ok (.enter f args) w := by
  obtain ⟨fn, h1, h2, h3⟩ := hf
  have h2' : ¬ fn.name = "runtime.NumGoroutine" := by simpa using h2
  have h3' : ¬ fn.body = none := by
    intro h
    rw [h] at h3
    cases h3
  simp [callFunc, program, Sem.run, h1, h2', h3']

/-- no data in it -/
def Cl (a : AV) : Prop := ∀ A A' w v, Rel A w a v → Rel A' w a v
theorem Cl.lit (v : Value) : Cl (.lit v) := fun A A' w u h => by rw [h.litEq]; exact .lit v
def ClL (as0 : List AV) : Prop := ∀ A A' w us, RelL A w as0 us → RelL A' w as0 us
theorem ClL.nil : ClL [] := fun A A' w us h => by
  have : us = [] := List.eq_nil_of_length_eq_zero (by simpa using h.1)
  rw [this]; exact RelL.nil
theorem ClL.cons {a : AV} {as0 : List AV} (h : Cl a) (hs : ClL as0) : ClL (a :: as0) := fun A A' w us hr => by
  obtain ⟨v, us', rfl, h1, h2⟩ := hr.head
  exact RelL.cons (h A A' w v h1) (hs A A' w us' h2)
theorem Cl.agg {as0 : List AV} (h : ClL as0) : Cl (.agg as0) := fun A A' w v hr => by
  obtain ⟨us, rfl, h1⟩ := hr.aggInv
  exact Rel.aggL (h A A' w us h1)
theorem Cl.tup {as0 : List AV} (h : ClL as0) : Cl (.tup as0) := fun A A' w v hr => by
  obtain ⟨us, rfl, h1⟩ := hr.tupInv
  exact Rel.tupL (h A A' w us h1)
def ClR (r : Res) : Prop := ∀ A A' w, r.ok A w → r.ok A' w
theorem ClR.box {b : Nat} {T : TypeId} {cs : List AV} (h : ClL cs) : ClR (.box b T cs) := fun A A' w ⟨us, h1, h2⟩ => ⟨us, h1, h A A' w us h2⟩
theorem ClR.row {v : Value} {T : TypeId} {sz : Nat} {α : Type} [Inhabited α] {c : α → List AV} {l : List α} (h : ∀ x, ClL (c x)) : ClR (.row v T sz c l) := fun A A' w ⟨us, h1, h2, h3⟩ => ⟨us, h1, h2, fun i hi => h _ A A' w _ (h3 i hi)⟩

section
variable {P : Program} {C : Cx} {E : Env} {σ σp σr : List Res} {o : Oper} {x : Operand} {f : FuncId} {xs : Array Operand} {ts : Array TypeId} {as0 caps args : List AV} {Φ : AV → List Res → Prop}

theorem call_run {A : Nat → Prop} {w : World} {ρ : Operand → Value} (ho : o.op = .call { callee := .value x, args := xs, argTypes := ts }) (hx : E.ev x = some (.fn (.func f) caps)) (hf : fnOk P f) (he : E.evl xs.toList = some as0) (ha : as0 ++ caps = args) (hρ : Ops A w E ρ) : ∃ us : List Value, RelL A w args us ∧ (execOp ρ o).run P w = .ok (.enter f us.toArray) w := by
  obtain ⟨us, h1, h2⟩ := (hρ _ _ hx).fnInv
  have h3 := Env.evl_rel hρ he
  refine ⟨xs.toList.map ρ ++ us, ha ▸ h3.app h2, ?_⟩
  have h4 : xs.map ρ = (xs.toList.map ρ).toArray := by apply Array.ext'; simp
  simp [execOp, ho, resolve, h1, Deferred.ofValue, invoke, run_callFunc_ok hf, h4]

theorem blks_mem_app {σp σr : List Res} {b : Nat} : b ∈ blks (σp ++ σr) ↔ b ∈ blks σp ∨ b ∈ blks σr := by rw [blks_app, List.mem_append]

/-- after a call: from the callee's state to the caller's -/
theorem tr_call {w w' : World} {A : Nat → Prop} {σo : List Res} (hg : Good C (σp ++ σr) w) (hA : ∀ b, A b → b < w.heap.size → al C (σp ++ σr) b ∨ b ∈ blks σr) (ht : Tr ⟨w, A, blks σp⟩ (blks σp) σp w σo w')
    (hok : ∀ r ∈ σo, r.ok (al C (σo ++ σr)) w') : Tr C (blks σp) (σp ++ σr) w (σo ++ σr) w' := by
  have hlt : ∀ b ∈ blks (σp ++ σr), b < w.heap.size := fun b hb => by
    obtain ⟨s, h1, h2⟩ := mem_blks.1 hb
    exact (hg.res s h1).lt h2
  have hdis := hg.dis
  rw [blks_app] at hdis
  obtain ⟨d1, d2, d3⟩ := List.nodup_append.1 hdis
  have hown : ∀ b ∈ blks σo, b ∈ blks σp ∨ w.heap.size ≤ b := ht.good.own
  have hal : ∀ b, b < w.heap.size → al C (σp ++ σr) b → al C (σo ++ σr) b ∧ b ∉ blks σp := fun b hb hA => by
    have h2 : b ∉ blks σp ∧ b ∉ blks σr := by
      have := hA.2
      rw [blks_mem_app] at this
      exact ⟨fun h => this (.inl h), fun h => this (.inr h)⟩
    refine ⟨⟨hA.1, fun hx => ?_⟩, h2.1⟩
    rcases blks_mem_app.1 hx with h | h
    · rcases hown b h with h | h
      · exact h2.1 h
      · omega
    · exact h2.2 h
  refine ⟨⟨hg.kept.trans ht.kp (fun b hb hlt0 => ?_), fun r hr => ?_, ?_, fun b hb => ?_⟩, ht.kp, hal⟩
  · rcases hg.own b (blks_mem_app.2 (.inl hb)) with h | h
    · exact h
    · exact absurd hlt0 (by omega)
  · rcases List.mem_append.1 hr with h | h
    · exact hok r h
    · refine (hg.res r (List.mem_append_right _ h)).mono (fun b hb hA => ⟨(hal b hb hA).1, ht.kp.block b hb (hal b hb hA).2⟩) (fun b hb => ?_)
      have hbr : b ∈ blks σr := mem_blks.2 ⟨r, h, hb⟩
      exact ht.kp.block b (hlt b (blks_mem_app.2 (.inr hbr))) (fun hp => d3 b hp b hbr rfl)
  · rw [blks_app]
    refine List.nodup_append.2 ⟨ht.good.dis, d2, fun a ha b hb hab => ?_⟩
    subst hab
    rcases hown a ha with h | h
    · exact d3 a h a hb rfl
    · have := hlt a (blks_mem_app.2 (.inr hb)); omega
  · rcases blks_mem_app.1 hb with h | h
    · rcases hown b h with h | h
      · exact hg.own b (blks_mem_app.2 (.inl h))
      · exact .inr (Nat.le_trans hg.kept.size h)
    · exact hg.own b (blks_mem_app.2 (.inr h))

/-- A call; the first resources are handed over. -/
theorem Yc.fn (ho : o.op = .call { callee := .value x, args := xs, argTypes := ts }) (hx : E.ev x = some (.fn (.func f) caps)) (hf : fnOk P f) (he : E.evl xs.toList = some as0) (ha : as0 ++ caps = args) (hσ : σ = σp ++ σr) (h : Fn P f args σp Φ) :
    Yc P E σ o C (blks σp) (fun av σ' => ∃ σo, Φ av σo ∧ σ' = σo ++ σr) := fun w ρ hg hρ => by
  subst hσ
  obtain ⟨us, h1, h2⟩ := call_run ho hx hf he ha hρ
  have hlt : ∀ b ∈ blks (σp ++ σr), b < w.heap.size := fun b hb => by
    obtain ⟨s, h1, h2⟩ := mem_blks.1 hb
    exact (hg.res s h1).lt h2
  have hd : Hd (al C (σp ++ σr)) σp w := ⟨fun r hr => hg.res r (List.mem_append_left _ hr), fun b hb hA => hA.2 (blks_mem_app.2 (.inl hb))⟩
  have hnd : (blks σp).Nodup := by have := hg.dis; rw [blks_app] at this; exact (List.nodup_append.1 this).1
  refine ⟨f, us.toArray, h2, (h w (al C (σp ++ σr)) us h1 hd hnd).mono fun e w' ⟨v, av, σo, q1, q2, q3, q4⟩ => ?_⟩
  have hown : ∀ b ∈ blks σo, b ∈ blks σp ∨ w.heap.size ≤ b := q3.good.own
  have hsub : ∀ b, b < w'.heap.size → al ⟨w, al C (σp ++ σr), blks σp⟩ σo b → al C (σo ++ σr) b := fun b _ hb => by
    obtain ⟨hb1, hb2⟩ := hb
    rcases hb1 with hb1 | hb1 | hb1
    · exact ⟨hb1.1, fun hx => (blks_mem_app.1 hx).elim hb2 (fun h => hb1.2 (blks_mem_app.2 (.inr h)))⟩
    · have hbp : b ∈ blks σp := hb1
      refine ⟨?_, fun hx => (blks_mem_app.1 hx).elim hb2 (fun h => ?_)⟩
      · rcases hg.own b (blks_mem_app.2 (.inl hbp)) with h | h
        · exact .inr (.inl h)
        · exact .inr (.inr h)
      · have hdis := hg.dis
        rw [blks_app] at hdis
        exact (List.nodup_append.1 hdis).2.2 b hbp b h rfl
    · have hbw : w.heap.size ≤ b := hb1
      exact ⟨.inr (.inr (Nat.le_trans hg.kept.size hbw)), fun hx => (blks_mem_app.1 hx).elim hb2 (fun h => by have := hlt b (blks_mem_app.2 (.inr h)); omega)⟩
  exact ⟨v, av, σo ++ σr, q1, ⟨σo, q2, rfl⟩, tr_call hg (fun b hA _ => .inl hA) q3 (fun r hr => (q3.good.res r hr).mono (fun b hb hA => ⟨hsub b hb hA, rfl⟩) (fun _ _ => rfl)), q4.mono fun b hb hA => ⟨hsub b hb hA, rfl⟩⟩

/-- A call that is lent own slices as0 data: what it returns has no data in it. -/
theorem Yc.lend (args' : List AV) (ho : o.op = .call { callee := .value x, args := xs, argTypes := ts }) (hx : E.ev x = some (.fn (.func f) caps)) (hf : fnOk P f) (he : E.evl xs.toList = some as0) (ha : as0 ++ caps = args) (hσ : σ = σp ++ σr) (hv : VwL σr args args') (h : Fn P f args' σp Φ)
    (hc : ∀ av σo, Φ av σo → Cl av ∧ ∀ r ∈ σo, ClR r) : Yc P E σ o C (blks σp) (fun av σ' => ∃ σo, Φ av σo ∧ σ' = σo ++ σr) := fun w ρ hg hρ => by
  subst hσ
  obtain ⟨us, h1, h2⟩ := call_run ho hx hf he ha hρ
  have hdis := hg.dis
  rw [blks_app] at hdis
  obtain ⟨d1, d2, d3⟩ := List.nodup_append.1 hdis
  have hd0 : Hd (al C (σp ++ σr)) σr w := ⟨fun r hr => hg.res r (List.mem_append_right _ hr), fun b hb hA => hA.2 (blks_mem_app.2 (.inr hb))⟩
  have h3 := hv _ w us hd0 h1
  have hd : Hd (fun b => al C (σp ++ σr) b ∨ b ∈ blks σr) σp w := ⟨fun r hr => (hg.res r (List.mem_append_left _ hr)).mono (fun b _ hA => ⟨.inl hA, rfl⟩) (fun _ _ => rfl), fun b hb hA => hA.elim (fun h => h.2 (blks_mem_app.2 (.inl hb))) (fun h => d3 b hb b h rfl)⟩
  refine ⟨f, us.toArray, h2, (h w _ us h3 hd d1).mono fun e w' ⟨v, av, σo, q1, q2, q3, q4⟩ => ?_⟩
  obtain ⟨c1, c2⟩ := hc av σo q2
  exact ⟨v, av, σo ++ σr, q1, ⟨σo, q2, rfl⟩, tr_call hg (fun b hA _ => hA) q3 (fun r hr => c2 r hr _ _ w' (q3.good.res r hr)), c1 _ _ w' v q4⟩
end
end Go.Ab
namespace Go.Ab
open Go Go.RowKit
section
variable {P : Program} {E E' : Env} {σ σ' : List Res} {o : Oper} {x : Operand} {av bv : AV} {C : Cx} {X : List Nat} {n : Nat}

/-- the resources by number, each time of those that are left -/
def sel : List Res → List Nat → Option (List Res)
  | _, [] => some []
  | σ, i :: is => match σ[i]?, sel (σ.eraseIdx i) is with
    | some r, some rs => some (r :: rs)
    | _, _ => none
theorem sel_perm : ∀ (is : List Nat) (σ σ' : List Res), sel σ is = some σ' → ∃ τ, List.Perm σ (σ' ++ τ)
  | [], σ, σ', h => by cases h; exact ⟨σ, List.Perm.refl _⟩
  | i :: is, σ, σ', h => by
    unfold sel at h
    cases h1 : σ[i]? with
    | none => rw [h1] at h; cases h
    | some r =>
      cases h2 : sel (σ.eraseIdx i) is with
      | none => rw [h1, h2] at h; cases h
      | some rs =>
        rw [h1, h2] at h
        cases h
        obtain ⟨τ, ht⟩ := sel_perm is _ _ h2
        refine ⟨τ, ?_⟩
        obtain ⟨q1, _⟩ := set_split (r' := r) h1
        have h3 : σ.eraseIdx i = σ.take i ++ σ.drop (i + 1) := List.eraseIdx_eq_take_drop_succ ..
        have hp : List.Perm (σ.take i ++ r :: σ.drop (i + 1)) (r :: (σ.take i ++ σ.drop (i + 1))) := List.perm_middle
        rw [← q1, ← h3] at hp
        exact hp.trans (ht.cons r)
theorem Sim.sel {a : Act} {w : World} (is : List Nat) (h : Sim C n E σ a w) (hs : Ab.sel σ is = some σ') : Sim C n E σ' a w := by
  obtain ⟨τ, ht⟩ := sel_perm is σ σ' hs
  exact (h.perm ht).less (List.sublist_append_left _ _)
theorem RW.sel {ops : Array Oper} {K : Env → List Res → Prop} {rest : List Oper} (is : List Nat) (hs : Ab.sel σ is = some σ') (h : RW P C n ops K rest E σ') : RW P C n ops K rest E σ := fun a w ha => h a w (ha.sel is hs)
theorem CW.sel {cd : Code} {Q : Exit → Env → List Res → Prop} (is : List Nat) (hs : Ab.sel σ is = some σ') (h : CW P C n cd Q E σ') : CW P C n cd Q E σ := fun a w ha => h a w (ha.sel is hs)

theorem Vw.now {A : Nat → Prop} {w : World} {v : Value} (h : Vw [] av bv) (hr : Rel A w av v) : Rel A w bv v :=
  (h A w v (show Hd _ [] w from ⟨fun r hr => absurd hr (by simp), fun b hb => absurd hb (by simp [blks])⟩) hr).mono fun b _ hb => ⟨hb.elim (fun x => x) (fun hx => absurd hx (by simp [blks])), rfl⟩
theorem VwL.now {A : Nat → Prop} {w : World} {as0 bs : List AV} {us : List Value} (h : VwL [] as0 bs) (hr : RelL A w as0 us) : RelL A w bs us :=
  (h A w us (show Hd _ [] w from ⟨fun r hr => absurd hr (by simp), fun b hb => absurd hb (by simp [blks])⟩) hr).mono fun b _ hb => ⟨hb.elim (fun x => x) (fun hx => absurd hx (by simp [blks])), rfl⟩

/-- the cells of a box said otherwise -/
theorem Sim.sayB {a : Act} {w : World} {j g : Nat} {t : TypeId} {cs cs' : List AV} (h : Sim C n E σ a w) (hj : σ[j]? = some (.box g t cs)) (hv : VwL [] cs cs') : Sim C n E (σ.set j (.box g t cs')) a w := by
  have hbk := blks_set (r' := Res.box g t cs') hj rfl
  have hal : ∀ b, al C σ b → al C (σ.set j (.box g t cs')) b := fun b hb => ⟨hb.1, by rw [hbk]; exact hb.2⟩
  refine ⟨h.defers.step (fun b _ hA => ⟨hal b hA, rfl⟩), h.size, fun s u hs => let ⟨v, h1, h2⟩ := h.slots s u hs; ⟨v, h1, h2.mono fun b _ hA => ⟨hal b hA, rfl⟩⟩, ⟨h.good.kept, fun s hs => ?_, by rw [hbk]; exact h.good.dis, fun b hb => h.good.own b (by rwa [hbk] at hb)⟩⟩
  rcases List.mem_or_eq_of_mem_set hs with hs | rfl
  · exact (h.good.res s hs).mono (fun b _ hA => ⟨hal b hA, rfl⟩) (fun _ _ => rfl)
  · obtain ⟨us, h1, h2⟩ := h.good.res _ (List.mem_of_getElem? hj)
    exact ⟨us, h1, (hv.now h2).mono fun b _ hb => ⟨hal b hb, rfl⟩⟩
theorem RW.sayB {ops : Array Oper} {K : Env → List Res → Prop} {rest : List Oper} {g : Nat} {t : TypeId} {cs cs' : List AV} (j : Nat) (hj : σ[j]? = some (.box g t cs)) (hv : VwL [] cs cs') (h : RW P C n ops K rest E (σ.set j (.box g t cs'))) : RW P C n ops K rest E σ := fun a w ha => h a w (ha.sayB hj hv)
theorem CW.sayB {cd : Code} {Q : Exit → Env → List Res → Prop} {g : Nat} {t : TypeId} {cs cs' : List AV} (j : Nat) (hj : σ[j]? = some (.box g t cs)) (hv : VwL [] cs cs') (h : CW P C n cd Q E (σ.set j (.box g t cs'))) : CW P C n cd Q E σ := fun a w ha => h a w (ha.sayB hj hv)

/-- a slot's value, by an equation -/
theorem RW.eqv {ops : Array Oper} {K : Env → List Res → Prop} {rest : List Oper} (t : Nat) (ht : E.get t = some av) (he : av = bv) (h : RW P C n ops K rest ((t, bv) :: E) σ) : RW P C n ops K rest E σ := RW.say t ht (he ▸ Vw.id av) h
theorem CW.eqv {cd : Code} {Q : Exit → Env → List Res → Prop} (t : Nat) (ht : E.get t = some av) (he : av = bv) (h : CW P C n cd Q ((t, bv) :: E) σ) : CW P C n cd Q E σ := CW.say t ht (he ▸ Vw.id av) h
theorem Slots.eqv {A : Nat → Prop} {w : World} {tmps : Array Value} {t : Nat} (h : Slots A w E tmps) (ht : E.get t = some av) (he : av = bv) : Slots A w ((t, bv) :: E) tmps := fun s u hs => by
  by_cases hts : t = s
  · subst hts
    rw [Env.get_hit] at hs
    cases hs
    rw [← he]
    exact h t av ht
  · rw [Env.get_miss _ _ hts] at hs
    exact h s u hs
theorem RH.eqv {ops : Array Oper} {A1 : Nat → Prop} {w1 : World} {K : Env → List Res → Prop} {fuel : Nat} {listed : Array Bool} {Eb : Env} (t : Nat) (ht : E.get t = some av) (htb : Eb.get t = some av) (he : av = bv) (h : RH P C n ops X A1 w1 K fuel listed ((t, bv) :: Eb) ((t, bv) :: E) σ) : RH P C n ops X A1 w1 K fuel listed Eb E σ := fun a w ha hb hS hA =>
  h a w (ha.say ht (he ▸ Vw.id av)) (hb.eqv htb he) hS hA
theorem RH.eqv' {ops : Array Oper} {A1 : Nat → Prop} {w1 : World} {K : Env → List Res → Prop} {fuel : Nat} {listed : Array Bool} {Eb : Env} (t : Nat) (ht : E.get t = some av) (he : av = bv) (h : RH P C n ops X A1 w1 K fuel listed Eb ((t, bv) :: E) σ) : RH P C n ops X A1 w1 K fuel listed Eb E σ := fun a w ha hb hS hA =>
  h a w (ha.say ht (he ▸ Vw.id av)) hb hS hA

def LoopR (R : Nat → Env → List Res → Prop) (k : Nat) (Q : Exit → Env → List Res → Prop) : Exit → Env → List Res → Prop
  | .normal, E, σ => ∃ k', k' < k ∧ R k' E σ
  | e, E, σ => Q e E σ
theorem CW.lp {c : Code} {Q : Exit → Env → List Res → Prop} (R : Nat → Env → List Res → Prop) (k0 : Nat) (h0 : R k0 E σ) (h : ∀ k E σ, R k E σ → CW P C n c (LoopR R k Q) E σ) : CW P C n (.loop c) Q E σ :=
  CW.loop (α := PUnit) (fun _ => R) ⟨⟩ k0 h0 fun _ k E σ hr => CW.mono (h k E σ hr) fun e E σ hq => by
    cases e with
    | normal => obtain ⟨k', h1, h2⟩ := hq; exact ⟨⟨⟩, k', h1, h2⟩
    | _ => exact hq

theorem Yc.fnV {f : FuncId} {xs : Array Operand} {ts : Array TypeId} {as0 caps args args' : List AV} {σp σr : List Res} {Φ : AV → List Res → Prop} (ho : o.op = .call { callee := .value x, args := xs, argTypes := ts }) (hx : E.ev x = some (.fn (.func f) caps)) (hf : fnOk P f) (he : E.evl xs.toList = some as0) (ha : as0 ++ caps = args) (hσ : σ = σp ++ σr) (hv : VwL [] args args') (h : Fn P f args' σp Φ) :
    Yc P E σ o C (blks σp) (fun av σ' => ∃ σo, Φ av σo ∧ σ' = σo ++ σr) :=
  Yc.fn ho hx hf he ha hσ fun w A vs h1 => h w A vs (hv.now h1)
end

/-! ### models -/

theorem chk {α : Type} {c : Prop} [Decidable c] {a : Option α} {r : α} (h : (if c then a else none) = some r) : c ∧ a = some r := by
  split at h
  · exact ⟨by assumption, h⟩
  · cases h
theorem ift {α : Type} {b : Bool} {x y : Option α} {r : α} (h : (if b = true then x else y) = some r) (hb : b = true) : x = some r := by rwa [if_pos hb] at h
theorem iff' {α : Type} {b : Bool} {x y : Option α} {r : α} (h : (if b = true then x else y) = some r) (hb : b = false) : y = some r := by rwa [if_neg (by rw [hb]; exact Bool.false_ne_true)] at h
theorem bnd {α β : Type} {x : Option α} {f : α → Option β} {r : β} (h : x.bind f = some r) : ∃ a, x = some a ∧ f a = some r := Option.bind_eq_some_iff.1 h
abbrev cN (k : IntKind) (n : Int) : List AV := [.n k n]
abbrev cB (b : Bool) : List AV := [.b b]
abbrev cS (s : ByteArray) : List AV := [.s s]
abbrev cL {α : Type} [Inhabited α] (sz : Nat) (c : α → List AV) (l : List α) : List AV := [.sl sz c l]
abbrev cA {α : Type} [Inhabited α] (n : Nat) (c : α → List AV) (l : List α) : List AV := (List.range n).flatMap fun i => c l[i]!
instance : Inhabited ByteArray := ⟨.empty⟩
end Go.Ab
namespace Go.Ab
open Go Go.RowKit
section
variable {P : Program} {E E' : Env} {σ σ' : List Res} {o : Oper} {x : Operand} {av bv : AV} {C : Cx} {X : List Nat} {n : Nat}
theorem inX {τ : List Res} {r : Res} (i : Nat) (h : τ[i]? = some r) : ∀ b ∈ r.blk.toList, b ∈ blks τ := fun b hb => mem_blks.2 ⟨r, List.mem_of_getElem? h, by simpa using hb⟩
theorem CW.drawSel {Q : Exit → Env → List Res → Prop} {id : Nat} {l : List Oper} (N : Nat) (hN : l.toArray.size = N) (is : List Nat) (τ ρ : List Res) (hs : Ab.sel σ is = some (τ ++ ρ)) (hm : P.follows .mixedOrders = true)
    (h : ∀ A1 w1, Bs (blks τ) A1 w1 ρ → RH P C n l.toArray (blks τ) A1 w1 (fun E' σ' => Q .normal E' σ') N (Array.replicate N false) E E σ) : CW P C n (.region id l.toArray true) Q E σ := by
  obtain ⟨κ, hp⟩ := sel_perm is σ _ hs
  have hb : List.Perm (blks σ) (blks τ ++ blks ρ ++ blks κ) := by
    have := hp.filterMap Res.blk
    simpa [blks] using this
  refine CW.draw N hN (blks τ) ρ (fun b hb' => hb.mem_iff.2 (by simp [hb'])) (fun r hr => hp.mem_iff.2 (by simp [hr])) (fun hnd b hbr hbt => ?_) hm h
  have := hb.nodup_iff.1 hnd
  exact (List.nodup_append.1 (List.nodup_append.1 this).1).2.2 b hbt b hbr rfl
theorem Yp.conv {T T' : TypeId} {k k' : IntKind} {m : Int} (hT : P.underlying T = some (.int k)) (hT' : P.underlying T' = some (.int k')) (ho : o.op = .convert T T' x) (hx : E.ev x = some (.n k m)) : Yp P E σ o (.n k' (k'.wrap m)) := Yp.lits fun ρ hρ w => by
  simp [execOp, ho, hρ _ _ hx, convert, run_underlying hT, run_underlying hT', Conv.intToInt]
theorem RH.sel {ops : Array Oper} {A1 : Nat → Prop} {w1 : World} {K : Env → List Res → Prop} {fuel : Nat} {listed : Array Bool} {Eb : Env} (is : List Nat) (hs : Ab.sel σ is = some σ') (h : RH P C n ops X A1 w1 K fuel listed Eb E σ') : RH P C n ops X A1 w1 K fuel listed Eb E σ := fun a w ha hb hS hA => by
  obtain ⟨κ, hp⟩ := sel_perm is σ _ hs
  exact h a w (ha.sel is hs) hb hS fun b hb hc => ⟨(hA b hb hc).1, fun hx => (hA b hb hc).2 (by
    have := (hp.filterMap Res.blk).mem_iff (a := b)
    exact this.2 (by simpa [blks] using Or.inl (by simpa [blks] using hx)))⟩
theorem RH.say {ops : Array Oper} {A1 : Nat → Prop} {w1 : World} {K : Env → List Res → Prop} {fuel : Nat} {listed : Array Bool} {Eb : Env} (t : Nat) (ht : E.get t = some av) (hv : Vw [] av bv) (h : RH P C n ops X A1 w1 K fuel listed Eb ((t, bv) :: E) σ) : RH P C n ops X A1 w1 K fuel listed Eb E σ := fun a w ha hb hS hA =>
  h a w (ha.say ht hv) hb hS hA
end
end Go.Ab
end
section
set_option linter.unusedSectionVars false
set_option linter.unusedVariables false
set_option linter.unusedSimpArgs false
namespace Go.Ab
open Go Go.RowKit
section
variable {P : Program} {E E' : Env} {σ σ' : List Res} {o : Oper} {x y : Operand} {av bv : AV} {C : Cx} {X : List Nat} {n : Nat} {T T' e : TypeId}
section
variable {ops : Array Oper} {A1 : Nat → Prop} {w1 : World} {K : Env → List Res → Prop} {fuel : Nat} {listed : Array Bool} {Eb : Env} {i0 : Nat}
theorem RO.frz {r : Res} (i t : Nat) (hσ : σ[i]? = some r) (ht : E.get t = some av) (hv : Vw [r] av bv) (h : RO P C n ops X A1 w1 K fuel listed i0 Eb ((t, bv) :: E) (σ.eraseIdx i)) : RO P C n ops X A1 w1 K fuel listed i0 Eb E σ := fun a w ha hb hS hA =>
  h a w (ha.frz hσ ht hv) hb hS fun b hb hc => al_erase hσ ha.good b (.inl (hA b hb hc))
theorem RH.frz {r : Res} (i t : Nat) (hσ : σ[i]? = some r) (ht : E.get t = some av) (hv : Vw [r] av bv) (h : RH P C n ops X A1 w1 K fuel listed Eb ((t, bv) :: E) (σ.eraseIdx i)) : RH P C n ops X A1 w1 K fuel listed Eb E σ := fun a w ha hb hS hA =>
  h a w (ha.frz hσ ht hv) hb hS fun b hb hc => al_erase hσ ha.good b (.inl (hA b hb hc))
theorem RO.say (t : Nat) (ht : E.get t = some av) (hv : Vw [] av bv) (h : RO P C n ops X A1 w1 K fuel listed i0 Eb ((t, bv) :: E) σ) : RO P C n ops X A1 w1 K fuel listed i0 Eb E σ := fun a w ha hb hS hA =>
  h a w (ha.say ht hv) hb hS hA
theorem al_own {α : Type} [Inhabited α] (p : Option Addr) (T : TypeId) (sz : Nat) (c : α → List AV) : ∀ b, al C σ b → al C (.row (.slice p 0 0) T sz c ([] : List α) :: σ) b := fun b hb => ⟨hb.1, fun hx => hb.2 (by
  rw [blks_cons] at hx
  have : Res.blk (.row (.slice p 0 0) T sz c ([] : List α)) = none := by cases p <;> rfl
  rw [this] at hx
  simpa using hx)⟩
theorem RO.own {α : Type} [Inhabited α] (p : Option Addr) (T : TypeId) (sz : Nat) (c : α → List AV) (h : RO P C n ops X A1 w1 K fuel listed i0 Eb E (.row (.slice p 0 0) T sz c ([] : List α) :: σ)) : RO P C n ops X A1 w1 K fuel listed i0 Eb E σ := fun a w ha hb hS hA =>
  h a w (ha.tr (tr_own p T sz c ha.good)) hb hS fun b hb hc => al_own p T sz c b (hA b hb hc)
theorem RH.own {α : Type} [Inhabited α] (p : Option Addr) (T : TypeId) (sz : Nat) (c : α → List AV) (h : RH P C n ops X A1 w1 K fuel listed Eb E (.row (.slice p 0 0) T sz c ([] : List α) :: σ)) : RH P C n ops X A1 w1 K fuel listed Eb E σ := fun a w ha hb hS hA =>
  h a w (ha.tr (tr_own p T sz c ha.good)) hb hS fun b hb hc => al_own p T sz c b (hA b hb hc)
theorem RO.sel (is : List Nat) (hs : Ab.sel σ is = some σ') (h : RO P C n ops X A1 w1 K fuel listed i0 Eb E σ') : RO P C n ops X A1 w1 K fuel listed i0 Eb E σ := fun a w ha hb hS hA => by
  obtain ⟨κ, hp⟩ := sel_perm is σ _ hs
  exact h a w (ha.sel is hs) hb hS fun b hb hc => ⟨(hA b hb hc).1, fun hx => (hA b hb hc).2 (by
    have := (hp.filterMap Res.blk).mem_iff (a := b)
    exact this.2 (by simpa [blks] using Or.inl (by simpa [blks] using hx)))⟩
theorem RH.frzB {r : Res} {g : Nat} {t : TypeId} {cs cs' : List AV} (i j : Nat) (hσ : σ[i]? = some r) (hj : (σ.eraseIdx i)[j]? = some (.box g t cs)) (hv : VwL [r] cs cs') (h : RH P C n ops X A1 w1 K fuel listed Eb E ((σ.eraseIdx i).set j (.box g t cs'))) : RH P C n ops X A1 w1 K fuel listed Eb E σ := fun a w ha hb hS hA =>
  h a w (ha.frzB hσ hj hv) hb hS fun b hb hc => by
    have := al_erase hσ ha.good b (.inl (hA b hb hc))
    exact ⟨this.1, by rw [blks_set (r' := Res.box g t cs') hj rfl]; exact this.2⟩
theorem RH.sayB {g : Nat} {t : TypeId} {cs cs' : List AV} (j : Nat) (hj : σ[j]? = some (.box g t cs)) (hv : VwL [] cs cs') (h : RH P C n ops X A1 w1 K fuel listed Eb E (σ.set j (.box g t cs'))) : RH P C n ops X A1 w1 K fuel listed Eb E σ := fun a w ha hb hS hA =>
  h a w (ha.sayB hj hv) hb hS fun b hb hc => ⟨(hA b hb hc).1, by rw [blks_set (r' := Res.box g t cs') hj rfl]; exact (hA b hb hc).2⟩
end

theorem Hd.keep {A : Nat → Prop} {w w' : World} (h : Hd A σ w) (hw : ∀ b, b < w.heap.size → (A b ∨ b ∈ blks σ) → w'.heap[b]? = w.heap[b]?) : Hd A σ w' :=
  ⟨fun r hr => (h.1 r hr).mono (fun b hb hA => ⟨hA, hw b hb (.inl hA)⟩) (fun b hb => hw b ((h.1 r hr).lt hb) (.inr (mem_blks.2 ⟨r, hr, hb⟩))), h.2⟩
theorem Ops.keep {A : Nat → Prop} {w w' : World} {ρ : Operand → Value} (h : Ops A w E ρ) (hw : ∀ b, b < w.heap.size → A b → w'.heap[b]? = w.heap[b]?) : Ops A w' E ρ := fun x u hx => (h x u hx).mono fun b hb hA => ⟨hA, hw b hb hA⟩

theorem relL_ints {A : Nat → Prop} {w : World} {k : IntKind} : ∀ {l : List Int} {us : List Value}, RelL A w (l.flatMap (cN k)) us → us = l.map (Value.int k)
  | [], us, h => List.eq_nil_of_length_eq_zero (by simpa using h.1)
  | x :: l, us, h => by
    obtain ⟨v, us', rfl, h1, h2⟩ := RelL.head (show RelL A w (AV.n k x :: l.flatMap (cN k)) us from h)
    rw [h1.litEq, relL_ints h2]
    rfl

/-- string(b) -/
theorem Yp.b2s {l : List Int} (ho : o.op = .convert T T' x) (hx : Src σ E x e 1 (cN .u8) l) (hs : P.underlying T = some (.slice e)) (he : P.underlying e = some (.int .u8)) (hd : P.underlying T' = some .string) : Yp P E σ o (.s (strOfNums l)) := fun A w ρ h hρ =>
  ⟨_, .lit _, fun w' hw => by
    obtain ⟨p, cap, news, h1, h2, h3, _, h5, _⟩ := hx.spec (h.keep hw) (hρ.keep fun b hb hA => hw b hb (.inl hA))
    have h6 := relL_ints h5
    have hconv : (convert T T' (.slice p l.length cap)).run P w' = .ok (.string (strOfNums l)) w' := by
      cases p with
      | none =>
        have : l = [] := by
          rcases h2 with h2 | ⟨a, h2, _⟩
          · exact List.eq_nil_of_length_eq_zero h2
          · cases h2
        subst this
        have hc := run_convert_bytes_nil (P := P) w' T e hs he 0 cap T' hd
        have : strOfNums [] = ByteArray.empty := rfl
        rw [this]
        simpa using hc
      | some a =>
        have hl : (loadCells a l.length).run P w' = .ok (l.map (Value.int .u8)).toArray w' := by
          rcases h2 with h2 | ⟨a', h2, h4⟩
          · have : l = [] := List.eq_nil_of_length_eq_zero h2
            subst this
            simp [loadCells, loadCellsFrom]
          · cases h2
            have := run_loadCells_list (P := P) w' a (l.map (Value.int .u8)) (fun j v hj => h4 j v (by rw [h6]; exact hj))
            simpa using this
        rw [run_convert_bytes_string w' T T' e _ l.length cap hs he hd, run_bytesToString w' _ l.length cap l hl, foldl_push_bytes]
        simp [strOfNums, ByteArray.empty, ByteArray.emptyWithCapacity]
        rfl
    simp [execOp, ho, h1, hconv]⟩
theorem Yp.seql {s t : ByteArray} (ho : o.op = .binOp .eql T x y T') (hx : E.ev x = some (.s s)) (hy : E.ev y = some (.s t)) : Yp P E σ o (.b (s.toList == t.toList)) := Yp.lits fun ρ hρ w => by
  simp [execOp, ho, hρ _ _ hx, hρ _ _ hy, eqGuard, binOp, Op.stringOp]
theorem Yp.sneq {s t : ByteArray} (ho : o.op = .binOp .neq T x y T') (hx : E.ev x = some (.s s)) (hy : E.ev y = some (.s t)) : Yp P E σ o (.b (!(s.toList == t.toList))) := Yp.lits fun ρ hρ w => by
  simp [execOp, ho, hρ _ _ hx, hρ _ _ hy, eqGuard, binOp, Op.stringOp]
theorem run_equal_bool {w : World} {b c : Bool} (hT : P.underlying T = some .bool) : (Op.equal T (.bool b) (.bool c)).run P w = .ok (b == c) w := by
  obtain ⟨d, hd⟩ : ∃ d, Op.maxDepth = d + 1 := ⟨Op.maxDepth - 1, by decide⟩
  unfold Op.equal
  rw [hd]
  unfold Op.equalIn
  simp only [Sem.run_bind, run_underlying hT, Result.andThen_ok]
  rfl
theorem Yp.beql {b c : Bool} (ho : o.op = .binOp .eql T x y T') (hT : P.underlying T = some .bool) (hx : E.ev x = some (.b b)) (hy : E.ev y = some (.b c)) : Yp P E σ o (.b (b == c)) := Yp.lits fun ρ hρ w => by
  have hbin : binOp .eql T (.bool b) (.bool c) = (do pure (.bool (← Op.equal T (.bool b) (.bool c)))) := rfl
  have h1 := run_equal_bool (P := P) (T := T) (w := w) (b := b) (c := c) hT
  simp only [execOp, ho, hρ _ _ hx, hρ _ _ hy, eqGuard, hbin]
  simp [h1]
theorem Yp.bneq {b c : Bool} (ho : o.op = .binOp .neq T x y T') (hT : P.underlying T = some .bool) (hx : E.ev x = some (.b b)) (hy : E.ev y = some (.b c)) : Yp P E σ o (.b (!(b == c))) := Yp.lits fun ρ hρ w => by
  have hbin : binOp .neq T (.bool b) (.bool c) = (do pure (.bool (!(← Op.equal T (.bool b) (.bool c))))) := rfl
  have h1 := run_equal_bool (P := P) (T := T) (w := w) (b := b) (c := c) hT
  simp only [execOp, ho, hρ _ _ hx, hρ _ _ hy, eqGuard, hbin]
  simp [h1]
end
end Go.Ab
end
section
set_option linter.unusedSectionVars false
set_option linter.unusedVariables false
set_option linter.unusedSimpArgs false
namespace Go.Ab
open Go Go.RowKit
section
variable {P : Program} {E : Env} {σ : List Res} {o : Oper} {x y : Operand} {av : AV} {C : Cx} {T T' e : TypeId} {k k' : IntKind}

/-- internal/bytealg.MakeNoZero -/
theorem Yv.noZero {f : FuncId} {ps : Array TypeId} {xs : Array Operand} {ts : Array TypeId} {n : Nat} (ho : o.op = .call { callee := .value (.func f), args := xs, argTypes := ts }) (hf : ∀ (w : World) (args : Array Value), (callFunc f args).run P w = ((Extern.BytealgMakeNoZero.makeNoZero ps #[T] args).run P w).andThen fun v w' => .ok (.value v) w')
    (he : E.evl xs.toList = some [.i (n : Int)]) (hT : P.underlying T = some (.slice e)) (hn : n ≤ 1073741824) (hpos : 0 < n) :
    Yv P E σ o C [] (fun a σ' => ∃ g cap cs, a = .lit (.slice (some ⟨g, 0, none⟩) n cap) ∧ σ' = .box g e cs :: σ ∧ cs.length = cap ∧ n ≤ cap ∧ cap ≤ maxLen) := fun w ρ hg hρ => by
  have h1 := Env.evl_rel hρ he
  obtain ⟨v, us', h2, h3, h4⟩ := h1.head
  have h5 : us' = [] := List.eq_nil_of_length_eq_zero (by simpa using h4.1)
  subst h5
  have h6 := h3.litEq
  subst h6
  have h7 : xs.map ρ = #[.int .i64 n] := by
    apply Array.ext'
    rw [Array.toList_map, h2]
  obtain ⟨cs, hr, hle, hm⟩ := Lib.run_makeNoZero (P := P) w ps T e hT n (by omega)
  have hk : Kp [] w (w.drew.drew.alloc (.cells cs e)) := ⟨rfl, rfl, rfl, by simp, fun k hk _ => heap_alloc_old w.drew.drew _ hk⟩
  refine ⟨_, _, _, _, ⟨w.heap.size, cs.size, cs.toList.map .lit, rfl, rfl, by simp, hle, hm (by unfold maxLen; omega)⟩, tr_new hg hk (.inr rfl) ⟨cs.toList, heap_alloc_new w.drew.drew _, RelL.lits _⟩, ?_, .lit _⟩
  have h8 : ρ (.func f) = .func (.func f) #[] #[] := by
    obtain ⟨us, q1, q2⟩ := (hρ (.func f) _ rfl).fnInv
    have : us = [] := List.eq_nil_of_length_eq_zero (by simpa using q2.1)
    rw [q1, this]
  simp [execOp, ho, resolve, h8, Deferred.ofValue, invoke, h7, hf, hr]

theorem Yp.sliceL3 {a : Option Addr} {l c : Nat} {m n : Int} {y z : Operand} {s : Nat} (ho : o.op = .slice T x none (some y) (some z)) (hx : E.ev x = some (.lit (.slice a l c))) (hy : E.ev y = some (.n k n)) (hz : E.ev z = some (.n k' m)) (hT : P.underlying T = some (.slice e)) (hs : (P.info? e).map (·.size) = some s) (hm : 0 ≤ n ∧ n ≤ m ∧ m ≤ (c : Int)) (hpos : 0 < m) :
    Yp P E σ o (.lit (.slice a n.toNat m.toNat)) := Yp.lits fun ρ hρ w => by
  obtain ⟨j, hj, hj'⟩ := Option.map_eq_some_iff.1 hs
  have h1 : 0 ≤ m ∧ m ≤ (c : Int) := by omega
  have h4 : ¬ m ≤ 0 := by omega
  have h0 : ∀ a : Option Addr, a.map (·.add 0) = a := fun a => by cases a <;> simp [Addr.add]
  simp [execOp, ho, hρ _ _ hx, hρ _ _ hy, hρ _ _ hz, Instr.sliceAt, Instr.slice, Instr.sliceBounds, Instr.sliceBound, run_underlying hT, sizeOf, typeInfo, hj, asIntOf, h1, hm.1, h0, h4]
  intro hc
  exfalso
  omega
theorem Yp.sliceLlo {g of l c : Nat} {m : Int} {y : Operand} (ho : o.op = .slice T x (some y) none none) (hx : E.ev x = some (.lit (.slice (some ⟨g, of, none⟩) l c))) (hy : E.ev y = some (.n k m)) (hT : P.underlying T = some (.slice e)) (hs : (P.info? e).map (·.size) = some 1) (hm : 0 ≤ m ∧ m ≤ (l : Int)) (hlt : m < (c : Int)) :
    Yp P E σ o (.lit (.slice (some ⟨g, of + m.toNat, none⟩) (l - m.toNat) (c - m.toNat))) := Yp.lits fun ρ hρ w => by
  obtain ⟨j, hj, hj'⟩ := Option.map_eq_some_iff.1 hs
  have h4 : ¬ c = m.toNat := by omega
  simp [execOp, ho, hρ _ _ hx, hρ _ _ hy, Instr.sliceAt, Instr.slice, Instr.sliceBounds, Instr.sliceBound, run_underlying hT, sizeOf, typeInfo, hj, hj', asIntOf, hm, h4, add0]
theorem Yp.sliceLhi {a : Option Addr} {l c s : Nat} {n : Int} {z : Operand} (ho : o.op = .slice T x none (some z) none) (hx : E.ev x = some (.lit (.slice a l c))) (hz : E.ev z = some (.n k n)) (hT : P.underlying T = some (.slice e)) (hs : (P.info? e).map (·.size) = some s) (hm : 0 ≤ n ∧ n ≤ (c : Int)) :
    Yp P E σ o (.lit (.slice a n.toNat c)) := Yp.lits fun ρ hρ w => by
  obtain ⟨j, hj, hj'⟩ := Option.map_eq_some_iff.1 hs
  have h0 : ∀ a : Option Addr, a.map (·.add 0) = a := fun a => by cases a <;> simp [Addr.add]
  simp [execOp, ho, hρ _ _ hx, hρ _ _ hz, Instr.sliceAt, Instr.slice, Instr.sliceBounds, Instr.sliceBound, run_underlying hT, sizeOf, typeInfo, hj, asIntOf, hm, h0]

/-- the first n cells behind a slice's address are as0 -/
def From (E : Env) (σ : List Res) (y : Operand) (sl : Nat) (as0 : List AV) : Prop := ∀ (A : Nat → Prop) (w : World) (ρ : Operand → Value), Hd A σ w → Ops A w E ρ → ∃ a sc us, ρ y = .slice (some a) sl sc ∧ (∀ j u, us[j]? = some u → w.cell? (a.add j) = some u) ∧ RelL A w as0 us

theorem flat_ints {k : IntKind} : ∀ (l : List Int), l.flatMap (cN k) = l.map (.n k)
  | [] => rfl
  | x :: l => by rw [List.flatMap_cons, flat_ints l]; rfl

theorem From.sl {l : List Int} (hx : E.ev y = some (.sl 1 (cN .u8) l)) (h0 : 0 < l.length) : From E σ y l.length (l.map (.n .u8)) := fun A w ρ hd hρ => by
  obtain ⟨p, cap, news, h1, h2, h3, _, h5, _⟩ := Src.spec (e := 0) (.inr (.inl hx) : Src σ E y 0 1 (cN .u8) l) hd hρ
  rcases h2 with h2 | ⟨a, rfl, h4⟩
  · omega
  · refine ⟨a, cap, news, h1, h4, ?_⟩
    rwa [flat_ints] at h5
theorem From.box {g of sl c t : Nat} {cs : List AV} (i n : Nat) (hx : E.ev y = some (.lit (.slice (some ⟨g, of, none⟩) sl c))) (hσ : σ[i]? = some (.box g t cs)) : From E σ y sl ((cs.drop of).take n) := fun A w ρ hd hρ => by
  obtain ⟨us, h1, h2⟩ := hd.1 _ (List.mem_of_getElem? hσ)
  refine ⟨⟨g, of, none⟩, c, (us.drop of).take n, (hρ _ _ hx).litEq, fun j u hj => ?_, (RelL.drop of h2).take n⟩
  rw [add0]
  rw [List.getElem?_take] at hj
  split at hj
  · rw [List.getElem?_drop] at hj
    exact h1.cell (by simpa using hj)
  · cases hj

/-- copy(dst, src) into a block whose cells are known -/
theorem Yv.copyB {g of dl dc sl t : Nat} {cs as0 : List AV} {x y : Operand} (i : Nat) (ho : o.op = .call { callee := .builtin .copy, args := #[x, y], argTypes := #[T, T'] }) (hx : E.ev x = some (.lit (.slice (some ⟨g, of, none⟩) dl dc))) (hσ : σ[i]? = some (.box g t cs)) (hs : From E σ y sl as0) (hT : P.underlying T = some (.slice e)) (hz : (P.info? e).map (·.size) = some 1)
    (hn : as0.length = Nat.min sl dl) (h1 : as0.all acell1 = true) (hle : of + as0.length ≤ cs.length) :
    Yv P E σ o C [g] (fun a σ' => a = .i (as0.length : Int) ∧ σ' = σ.set i (.box g t (cs.take of ++ as0 ++ cs.drop (of + as0.length)))) := fun w ρ hg hρ => by
  obtain ⟨j, hj, hj'⟩ := Option.map_eq_some_iff.1 hz
  obtain ⟨us, q1, q2⟩ := hg.res _ (List.mem_of_getElem? hσ)
  obtain ⟨a, sc, ns, r1, r2, r3⟩ := hs _ w ρ hg.hd hρ
  have hx' := (hρ _ _ hx).litEq
  have hl := run_loadCells_list (P := P) w a ns r2
  have hst := run_storeCells_at P g of t ns 0 us.toArray w q1 (by simp; rw [q2.1, r3.1]; omega) (r3.one h1)
  simp only [Nat.add_zero] at hst
  have hal : ∀ b, b < w.heap.size → al C σ b → al C (σ.set i (.box g t (cs.take of ++ as0 ++ cs.drop (of + as0.length)))) b ∧ (w.setRow g (us.take of ++ ns ++ us.drop (of + ns.length)).toArray).heap[b]? = w.heap[b]? := fun b hb hA =>
    ⟨⟨hA.1, by rw [blks_set (r' := Res.box g t (cs.take of ++ as0 ++ cs.drop (of + as0.length))) hσ rfl]; exact hA.2⟩, setRow_other w g b _ (fun e => hA.2 (mem_blks.2 ⟨_, List.mem_of_getElem? hσ, by rw [← e]; rfl⟩))⟩
  refine ⟨.int .i64 as0.length, w.setRow g (us.take of ++ ns ++ us.drop (of + ns.length)).toArray, _, _, ⟨rfl, rfl⟩, tr_upd hg hσ (kp_setRow w g _) (.inl rfl) ⟨us.take of ++ ns ++ us.drop (of + ns.length), setRow_heap w g us.toArray _ t (0, 0) q1, ?_⟩, ?_, .lit _⟩
  · rw [r3.1]
    exact (((RelL.take of q2).app r3).app (RelL.drop (of + as0.length) q2)).mono (by have := hal; rw [r3.1] at this; exact this)
  · have hmin : min sl dl = ns.length := by rw [r3.1, hn]
    have hmin' : Nat.min sl dl = ns.length := hmin
    rw [← r3.1]
    simp [execOp, ho, resolve, invoke, builtin, hx', r1, Builtin.copy_, run_underlying hT, Builtin.lenOf, Builtin.firstCells, sizeOf, typeInfo, hj, hj', hmin', hl, hst, goInt]
end

/-- A block whose first cells are those of a list of data becomes data: in slot t. -/
theorem Sim.frzL {C : Cx} {n : Nat} {E : Env} {σ : List Res} {a : Act} {w : World} {i t g T : Nat} {cs : List AV} {α : Type} [Inhabited α] {c : α → List AV} {l : List α} {cap : Nat} (h : Sim C n E σ a w) (hσ : σ[i]? = some (.box g T cs)) (ht : E.get t = some (.lit (.slice (some ⟨g, 0, none⟩) l.length cap))) (hc : ∀ j, j < l.length → c l[j]! = (cs[j]?).toList) (hl : l.length ≤ cs.length) (hcap : l.length ≤ cap) (hm : l.length ≤ 9223372036854775807) : Sim C n ((t, .sl 1 c l) :: E) (σ.eraseIdx i) a w := by
  refine h.frz hσ ht fun A w v hd hr => ?_
  have hv := hr.litEq
  subst hv
  obtain ⟨us, h1, h2⟩ := hd.1 _ (List.mem_singleton.2 rfl)
  have hget : ∀ j, j < l.length → ∃ av u, cs[j]? = some av ∧ us[j]? = some u ∧ Rel A w av u := fun j hj => by
    have hj' : j < cs.length := by omega
    obtain ⟨u, q1, q2⟩ := RelL.get h2 (List.getElem?_eq_getElem hj')
    exact ⟨_, u, List.getElem?_eq_getElem hj', q1, q2⟩
  refine .sl 1 c l _ cap (fun i _ => (us[i]?).getD undef) hm hcap (fun j hj => ?_) (fun j hj => ?_) (fun j k b hj hb => ?_)
  · obtain ⟨av, u, q1, _⟩ := hget j hj
    rw [hc j hj, q1]; rfl
  · obtain ⟨av, u, q1, q2, q3⟩ := hget j hj
    refine ⟨g, 0, rfl, h1.lt, .inr (mem_blks.2 ⟨_, List.mem_singleton.2 rfl, rfl⟩), fun k hk => ?_⟩
    have : k = 0 := by omega
    subst this
    rw [q2, Nat.zero_add, Nat.mul_one, Nat.add_zero]
    exact h1.cell (by simpa using q2)
  · obtain ⟨av, u, q1, q2, q3⟩ := hget j hj
    rw [hc j hj, q1] at hb
    cases k with
    | zero =>
      simp at hb
      subst hb
      simp only [q2, Option.getD_some]
      exact q3.mono fun b _ hA => ⟨.inl hA, rfl⟩
    | succ k => simp at hb
theorem CW.frzL {P : Program} {C : Cx} {n : Nat} {cd : Code} {Q : Exit → Env → List Res → Prop} {E : Env} {σ : List Res} {g T : Nat} {cs : List AV} {α : Type} [Inhabited α] {c : α → List AV} {cap : Nat} (i t : Nat) (l : List α) (hσ : σ[i]? = some (.box g T cs)) (ht : E.get t = some (.lit (.slice (some ⟨g, 0, none⟩) l.length cap))) (hc : ∀ j, j < l.length → c l[j]! = (cs[j]?).toList) (hl : l.length ≤ cs.length) (hcap : l.length ≤ cap) (hm : l.length ≤ 9223372036854775807)
    (h : CW P C n cd Q ((t, .sl 1 c l) :: E) (σ.eraseIdx i)) : CW P C n cd Q E σ := fun a w ha => h a w (ha.frzL hσ ht hc hl hcap hm)
end Go.Ab
namespace Go.Ab
open Go Go.RowKit
theorem RO.clr {P : Program} {C : Cx} {n : Nat} {ops : Array Oper} {X : List Nat} {A1 : Nat → Prop} {w1 : World} {K : Env → List Res → Prop} {fuel : Nat} {listed : Array Bool} {i : Nat} {Eb E : Env} {σ : List Res} (h : RO P C n ops X A1 w1 K fuel listed i [] E σ) : RO P C n ops X A1 w1 K fuel listed i Eb E σ := fun a w ha _ hS hA =>
  h a w ha (fun t av h => by cases h) hS hA
end Go.Ab
end
section
set_option linter.unusedSectionVars false
set_option linter.unusedVariables false
set_option linter.unusedSimpArgs false
namespace Go.Ab
open Go Go.RowKit Go.Shelf Go.Proofs

/-! ### Code in a round -/

/-- no operation of the list defers a call -/
def plainOp (o : Oper) : Bool := match o.op with
  | .defer _ => false
  | _ => true

theorem plainOp.ne {o : Oper} (h : plainOp o = true) : ∀ c, o.op ≠ .defer c := fun c e => by
  unfold plainOp at h
  rw [e] at h
  cases h

theorem operIn_of {P : Program} {l m : Nat} {o : Oper} {a : Act} {w : World} {K K' : Act → World → Prop} {Q : Exit → Act → World → Prop} (hp : plainOp o = true) (h : o.wp P a w K Q) (hK : ∀ a w, K a w → K' a w) : o.wpIn (Fence.wide.inRound l) m P a w K' Q := by
  refine ⟨fun _ _ => trivial, ?_⟩
  rw [Fence.inRound_round, Oper.semAt_some l _ _ (plainOp.ne hp)]
  unfold Oper.wp at h
  generalize (execOp a.eval o).run P w = r at h
  cases r with
  | ok x w' =>
    cases x with
    | value v => exact hK _ _ h
    | skip => exact hK _ _ h
    | defer d => exact hK _ _ h
    | enter f args =>
      refine ⟨fun h => by simp [Fence.inRound, Fence.wide] at h, CallsIn.inRound l (callsIn_wide.2 (Calls.mono h fun e w'' he => ?_))⟩
      cases e with
      | returned v => exact hK _ _ he
      | panicked ch => exact he
      | outgrown => exact he
    | row row args =>
      refine ⟨fun h => by simp [Fence.inRound, Fence.wide] at h, fun c cs _ => ?_⟩
      obtain ⟨v, w'', q1, q2⟩ := h c cs
      exact ⟨v, w'', hK _ _ q1, stepsIn_wide.2 q2⟩
    | _ => exact h.elim
  | halt x w' =>
    cases x with
    | panic v => exact h
    | _ => exact h.elim

theorem wpListIn_of {P : Program} {l m : Nat} {ops : Array Oper} {Q : Exit → Act → World → Prop} (hQ : ¬ LetsOut Q) : ∀ (rest : List Oper) (a : Act) (w : World), rest.all plainOp = true → wpList P ops Q rest a w → wpListIn (Fence.wide.inRound l) m P ops Q rest a w
  | [], _, _, _, h => h
  | o :: rest, a, w, hp, h => by
    rw [List.all_cons, Bool.and_eq_true] at hp
    unfold wpList at h
    unfold wpListIn
    by_cases hw : Region.wanted o (yielded ops a.tmps) = true
    · rw [if_pos hw] at h ⊢
      rcases h with h | h
      · exact operIn_of hp.1 h fun a' w' h' => wpListIn_of hQ rest a' w' hp.2 h'
      · exact absurd h.2 hQ
    · rw [if_neg hw] at h ⊢
      exact ⟨fun _ _ => trivial, wpListIn_of hQ rest _ _ hp.2 h⟩

def CWR (P : Program) (C : Cx) (n : Nat) (c : Code) (Q : Exit → Env → List Res → Prop) (E : Env) (σ : List Res) : Prop :=
  ∀ lp m a w, Sim C n E σ a w → a.defers = [] → c.wpIn (Fence.wide.inRound lp) m P (fun e a' w' => a'.defers = [] ∧ ∃ E' σ', Sim C n E' σ' a' w' ∧ Q e E' σ') a w

def SeqR (P : Program) (C : Cx) (n : Nat) (y : Code) (Q : Exit → Env → List Res → Prop) : Exit → Env → List Res → Prop
  | .normal, E, σ => CWR P C n y Q E σ
  | e, E, σ => Q e E σ

section
variable {P : Program} {C : Cx} {n : Nat} {c x y : Code} {Q Q' : Exit → Env → List Res → Prop} {E E' : Env} {σ σ' : List Res}

theorem CWR.mono (h : CWR P C n c Q E σ) (hq : ∀ e E σ, Q e E σ → Q' e E σ) : CWR P C n c Q' E σ := fun lp m a w ha hd =>
  wpIn_mono (h lp m a w ha hd) fun _ _ _ ⟨hd', E', σ', h1, h2⟩ => ⟨hd', E', σ', h1, hq _ _ _ h2⟩

theorem CWR.seq (h : CWR P C n x (SeqR P C n y Q) E σ) : CWR P C n (.seq x y) Q E σ := fun lp m a w ha hd => by
  refine wpIn_seq (wpIn_mono (h lp m a w ha hd) fun e a' w' ⟨hd', E', σ', h1, h2⟩ => ?_)
  cases e with
  | normal => exact h2 lp m a' w' h1 hd'
  | _ => exact ⟨hd', E', σ', h1, h2⟩

theorem CWR.block {id : Nat} (h : CWR P C n c (BlockQ id Q) E σ) : CWR P C n (.block id c) Q E σ := fun lp m a w ha hd => by
  refine wpIn_block (wpIn_mono (h lp m a w ha hd) fun e a' w' ⟨hd', E', σ', h1, h2⟩ => ?_)
  cases e with
  | exit id' =>
    simp only [BlockQ] at h2
    simp only [Exit.inBlock]
    split
    · rename_i he
      subst he
      have hb : Nat.beq id' id' = true := Nat.beq_refl _
      simp only [hb] at h2
      exact ⟨hd', E', σ', h1, h2⟩
    · rename_i he
      have hb : Nat.beq id' id = false := by
        cases hb : Nat.beq id' id with
        | false => rfl
        | true => exact absurd (Nat.eq_of_beq_eq_true hb) he
      simp only [hb] at h2
      exact ⟨hd', E', σ', h1, h2⟩
  | _ => exact ⟨hd', E', σ', h1, h2⟩

theorem CWR.exit {id : Nat} (h : Q (.exit id) E σ) : CWR P C n (.exit id) Q E σ := fun _ _ _ _ ha hd => wpIn_exit ⟨hd, E, σ, ha, h⟩
theorem CWR.ret (h : Q .ret E σ) : CWR P C n .ret Q E σ := fun _ _ _ _ ha hd => wpIn_ret ⟨hd, E, σ, ha, h⟩
theorem CWR.skip (h : Q .normal E σ) : CWR P C n .skip Q E σ := fun _ _ _ _ ha hd => wpIn_skip ⟨hd, E, σ, ha, h⟩
theorem CWR.cond {cnd : Operand} {b : Bool} (hc : E.ev cnd = some (.lit (.bool b))) (ht : b = true → CWR P C n x Q E σ) (hf : b = false → CWR P C n y Q E σ) : CWR P C n (.cond cnd x y) Q E σ := fun lp m a w ha hd =>
  wpIn_cond_split (ev_bool ha hc) (fun h => ht h lp m a w ha hd) (fun h => hf h lp m a w ha hd)
theorem CWR.region {id : Nat} {l : List Oper} (hp : l.all plainOp = true) (h : RW P C n l.toArray (fun E' σ' => Q .normal E' σ') l E σ) : CWR P C n (.region id l.toArray false) Q E σ := fun lp m a w ha hd => by
  refine wpIn_mono (wpIn_region_lit (wpListIn_of (fun ⟨_, _, h⟩ => by cases h.1) l a w hp (h a w ha))) fun e a' w' ⟨he, hd', E', σ', h1, h2⟩ => ?_
  subst he
  exact ⟨hd'.trans hd, E', σ', h1, h2⟩
theorem CWR.sel {cd : Code} {Q : Exit → Env → List Res → Prop} (is : List Nat) (hs : Ab.sel σ is = some σ') (h : CWR P C n cd Q E σ') : CWR P C n cd Q E σ := fun lp m a w ha hd => h lp m a w (ha.sel is hs) hd
end

theorem CWR.weak {P : Program} {C : Cx} {n : Nat} {c : Code} {Q : Exit → Env → List Res → Prop} {E E' : Env} {σ : List Res} (h : CWR P C n c Q E σ) (hs : Sub E E') : CWR P C n c Q E' σ := fun lp m a w ha hd => h lp m a w (ha.sub hs) hd
theorem CWR.cut {P : Program} {C : Cx} {n : Nat} {c : Code} {Q : Exit → Env → List Res → Prop} {E : Env} {σ : List Res} (K : Env → List Res → Prop) (first : CWR P C n c (CutQ K Q) E σ) (rest : ∀ E σ, K E σ → Q .normal E σ) : CWR P C n c Q E σ :=
  CWR.mono first fun e E σ h => by cases e <;> first | exact rest E σ h | exact h

/-- A box that is not written any more is data. -/
theorem Vw.box {σ : List Res} {b : Nat} {T : TypeId} {cs : List AV} (i : Nat) (hσ : σ[i]? = some (.box b T cs)) : Vw σ (.lit (.pointer (some ⟨b, 0, none⟩))) (.fp cs) := fun A w v hd hr => by
  have hv := hr.litEq
  subst hv
  have hm := List.mem_of_getElem? hσ
  obtain ⟨us, h1, h2⟩ := hd.1 _ hm
  exact .fp cs b 0 us h1.lt (.inr (mem_blks.2 ⟨_, hm, rfl⟩)) h2.1 (fun j v hj => by rw [Nat.zero_add]; exact h1.cell (by simpa using hj)) (fun j a v q1 q2 => (h2.2 j a v q1 q2).mono fun b _ hA => ⟨.inl hA, rfl⟩)
theorem Vw.fn {σ : List Res} {f : Go.Fn} {cs cs' : List AV} (h : VwL σ cs cs') : Vw σ (.fn f cs) (.fn f cs') := fun A w v hd hr => by
  obtain ⟨us, rfl, h1⟩ := hr.fnInv
  have := h A w us hd h1
  exact .fn f _ us this.1 this.2

/-! ### The rule -/

/-- Function gf, with caps captured, calls yield with the values es, one after the other, as0 long as0 yield says so; it reads data that is not written. -/
def Iter (P : Program) (gf : FuncId) (caps : List AV) (es : List (List AV)) : Prop :=
  ∀ (A : Nat → Prop) (w : World) (lb : List Value), RelL A w caps lb → ∃ us : List (List Value), us.length = es.length ∧ (∀ i, i < es.length → RelL A w es[i]! us[i]!) ∧
    SeqStopsK Fence.wide 1 P gf lb.toArray (fun i : Fin es.length => us[i.1]!.toArray) (fun W W' => ∀ b, b < w.heap.size → A b → W'.heap[b]? = W.heap[b]?) (fun xs => xs = List.finRange es.length) (fun pre => pre <+: List.finRange es.length) es.length w

/-- the parameters of a round -/
def penv : List Tmp → List AV → Env → Env
  | p :: ps, e :: es, E => penv ps es ((p, e) :: E)
  | _, _, E => E

theorem Slots.penv {A : Nat → Prop} {w : World} : ∀ (ps : List Tmp) (es : List AV) (us : List Value) (E : Env) (tmps : Array Value), Slots A w E tmps → RelL A w es us → (∀ p ∈ ps, p < tmps.size) → ps.length = es.length →
    Slots A w (penv ps es E) ((ps.zip us).foldl (fun t (p, v) => t.setIfInBounds p v) tmps)
  | [], [], us, E, tmps, h, _, _, _ => by simpa [Ab.penv] using h
  | [], _ :: _, _, _, _, _, _, _, hl => by cases hl
  | _ :: _, [], _, _, _, _, _, _, hl => by cases hl
  | p :: ps, e :: es, [], E, tmps, h, hr, _, _ => by have := hr.1; simp at this
  | p :: ps, e :: es, u :: us, E, tmps, h, hr, hp, hl => by
    have h1 : Slots A w ((p, e) :: E) (tmps.setIfInBounds p u) := Slots.put (a := { tmps := tmps, defers := [] }) h (hp p List.mem_cons_self) (hr.2 0 e u rfl rfl)
    exact Slots.penv ps es us _ _ h1 ⟨by have := hr.1; simpa using this, fun j a v q1 q2 => hr.2 (j + 1) a v (by simpa using q1) (by simpa using q2)⟩ (fun q hq => by simpa using hp q (List.mem_cons_of_mem _ hq)) (by simpa using hl)

def setAll (tmps : Array Value) (zs : List (Tmp × Value)) : Array Value := zs.foldl (fun t (p, v) => t.setIfInBounds p v) tmps
theorem setAll_size : ∀ (zs : List (Tmp × Value)) (tmps : Array Value), (setAll tmps zs).size = tmps.size
  | [], _ => rfl
  | z :: zs, tmps => (setAll_size zs (tmps.setIfInBounds z.1 z.2)).trans (by simp)
theorem setAll_eq (ps : Array Tmp) (us : List Value) (tmps : Array Value) : (ps.zip us.toArray).foldl (fun t (p, v) => t.setIfInBounds p v) tmps = setAll tmps (ps.toList.zip us) := by
  rw [← Array.foldl_toList, Array.toList_zip]
  rfl

/-- What a stretch of code did, seen from its own beginning, seen from the function's. -/
theorem tr_out {C : Cx} {σ σ1 : List Res} {W W' : World} (h : Good C σ W) (h' : Good ⟨W, al C σ, blks σ⟩ σ1 W') : Tr C (blks σ) σ W σ1 W' := by
  have hal : ∀ b, al ⟨W, al C σ, blks σ⟩ σ1 b → al C σ1 b := fun b hb => by
    refine ⟨?_, hb.2⟩
    rcases hb.1 with q | q | q
    · exact q.1
    · rcases h.own b q with q | q
      · exact .inr (.inl q)
      · exact .inr (.inr q)
    · exact .inr (.inr (Nat.le_trans h.kept.size q))
  refine ⟨⟨h.kept.trans h'.kept (fun b hb hlt => (h.own b hb).elim id (fun q => by omega)), fun r hr => (h'.res r hr).mono (fun b _ hA => ⟨hal b hA, rfl⟩) (fun _ _ => rfl), h'.dis, fun b hb => ?_⟩, h'.kept, fun b hb hA => ⟨⟨hA.1, fun hx => ?_⟩, hA.2⟩⟩
  · rcases h'.own b hb with q | q
    · exact h.own b q
    · exact .inr (Nat.le_trans h.kept.size q)
  · rcases h'.own b hx with q | q
    · exact hA.2 q
    · have q' : W.heap.size ≤ b := q
      omega
theorem al_out {C : Cx} {σ σ1 : List Res} {W : World} (h : Good C σ W) : ∀ b, al ⟨W, al C σ, blks σ⟩ σ1 b → al C σ1 b := fun b hb => by
  refine ⟨?_, hb.2⟩
  rcases hb.1 with q | q | q
  · exact q.1
  · rcases h.own b q with q | q
    · exact .inr (.inl q)
    · exact .inr (.inr q)
  · exact .inr (.inr (Nat.le_trans h.kept.size q))

/-- A function's state, seen afresh. -/
theorem Good.fresh {C : Cx} {σ : List Res} {W : World} (h : Good C σ W) : Good ⟨W, al C σ, blks σ⟩ σ W :=
  ⟨Kp.refl _ _, fun r hr => (h.res r hr).mono (fun b _ hA => ⟨⟨.inl hA, hA.2⟩, rfl⟩) (fun _ _ => rfl), h.dis, fun b hb => .inl hb⟩

theorem Good.less {C : Cx} {σ σ' : List Res} {W : World} (h : Good C σ W) (hs : List.Sublist σ' σ) : Good C σ' W := by
  have hm : ∀ r ∈ σ', r ∈ σ := fun r hr => hs.subset hr
  exact ⟨h.kept, fun r hr => (h.res r (hm r hr)).mono (fun b _ hA => ⟨⟨hA.1, fun hx => hA.2 (blks_sub hm b hx)⟩, rfl⟩) (fun _ _ => rfl), h.dis.sublist (hs.filterMap _), fun b hb => h.own b (blks_sub hm b hb)⟩

/-- what the loop began with lies as0 it lay -/
def Lay (C : Cx) (σ : List Res) (w : World) (σ' : List Res) (W : World) : Prop := ∀ b, b < w.heap.size → al C σ b → al C σ' b ∧ W.heap[b]? = w.heap[b]?

theorem Lay.less {C : Cx} {σ σ' σ'' : List Res} {w W : World} (h : Lay C σ w σ' W) (hs : List.Sublist σ'' σ') : Lay C σ w σ'' W := fun b hb hA =>
  ⟨⟨(h b hb hA).1.1, fun hx => (h b hb hA).1.2 (blks_sub (fun _ hr => hs.subset hr) b hx)⟩, (h b hb hA).2⟩
theorem Lay.tr {C : Cx} {X : List Nat} {σ σ' σ'' : List Res} {w W W' : World} (h : Lay C σ w σ' W) (t : Tr C X σ' W σ'' W') (hs : w.heap.size ≤ W.heap.size) : Lay C σ w σ'' W' := fun b hb hA =>
  have q := t.keep b (Nat.lt_of_lt_of_le hb hs) (h b hb hA).1
  ⟨q.1, q.2.trans (h b hb hA).2⟩

theorem tn_grown {C : Cx} {W W' : World} {row : Option Nat} (hg : W.grownBy W' row) (hw : ∀ r, row = some r → C.w0.heap.size ≤ r ∧ ∃ o : Obj, W.heap[r]? = some o ∧ o.isCells = false) (h0 : C.w0.heap.size ≤ W.heap.size) : Tn C W W' :=
  ⟨hg.os, hg.tape, hg.output, hg.size, fun k hk => hg.block k (by omega) (fun e => by have := (hw k e.symm).1; omega), fun b cs T m hx => hg.block b (Array.getElem?_eq_some_iff.1 hx).1 (fun e => by
    obtain ⟨_, o, h1, h2⟩ := hw b e.symm
    rw [hx] at h1
    cases h1
    cases h2)⟩

/-- What holds between two rounds. -/
def Mid (C : Cx) (σ : List Res) (w : World) (J : List Res → Prop) (W : World) : Prop :=
  ∃ σ', J σ' ∧ Good C σ' W ∧ Lay C σ w σ' W ∧ w.heap.size ≤ W.heap.size

theorem Mid.own {α : Type} {C : Cx} {σ : List Res} {w : World} (hw : C.w0.heap.size ≤ w.heap.size) (J : α → List Res → Prop) : OwnFrom w.heap.size (fun pre => Mid C σ w (J pre)) := fun pre W W' row ⟨σ', h1, h2, h3, h4⟩ hg hr => by
  refine ⟨σ', h1, h2.turn (tn_grown hg (fun r e => ⟨by have := (hr r e).1; omega, (hr r e).2⟩) h2.kept.size), fun b hb hA => ⟨(h3 b hb hA).1, ?_⟩, Nat.le_trans h4 hg.size⟩
  exact (hg.block b (by omega) (fun e => by have := (hr b e.symm).1; omega)).trans (h3 b hb hA).2

/-- what is no cells is not written -/
theorem keepsFrom_tr {C : Cx} {σ σ' : List Res} {W W' : World} (B : Nat) (h : Good C σ W) (t : Tr C (blks σ) σ W σ' W') : KeepsFrom B W W' :=
  ⟨t.kp.size, fun k o _ hk ho => (t.kp.block k (Array.getElem?_eq_some_iff.1 hk).1 (fun hx => by
    obtain ⟨r, h1, h2⟩ := mem_blks.1 hx
    obtain ⟨cs, T, m, h3⟩ := (h.res r h1).cells h2
    rw [hk] at h3
    cases h3
    cases ho)).trans hk⟩

/-- A round's frame, its variables set. -/
def Rnd (C : Cx) (n : Nat) (σ : List Res) (w : World) (KA : Env → List Res → Prop) (a : Act) (W : World) : Prop :=
  ∃ E1 σ1, KA E1 σ1 ∧ Sim C n E1 σ1 a W ∧ a.defers = [] ∧ Lay C σ w σ1 W ∧ w.heap.size ≤ W.heap.size

theorem Rnd.own {C : Cx} {n : Nat} {σ : List Res} {w : World} (hw : C.w0.heap.size ≤ w.heap.size) (KA : Env → List Res → Prop) (a : Act) : OwnFrom w.heap.size (fun (_ : Unit) => Rnd C n σ w KA a) := fun _ W W' row ⟨E1, σ1, h1, h2, h5, h3, h4⟩ hg hr => by
  have ht := tn_grown (C := C) hg (fun r e => ⟨by have := (hr r e).1; omega, (hr r e).2⟩) h2.good.kept.size
  refine ⟨E1, σ1, h1, ⟨.nil h5, h2.size, h2.slots.turn ht, h2.good.turn ht⟩, h5, fun b hb hA => ⟨(h3 b hb hA).1, ?_⟩, Nat.le_trans h4 hg.size⟩
  exact (hg.block b (by omega) (fun e => by have := (hr b e.symm).1; omega)).trans (h3 b hb hA).2

theorem blks_lt {C : Cx} {σ : List Res} {W : World} (h : Good C σ W) : ∀ b ∈ blks σ, b < W.heap.size := fun b hb => by
  obtain ⟨r, h1, h2⟩ := mem_blks.1 hb
  exact (h.res r h1).lt h2

theorem CW.rf {P : Program} {C : Cx} {n : Nat} {Q : Exit → Env → List Res → Prop} {E : Env} {σ : List Res} {g : Operand} {ps : Array Tmp} {assign body : Code} {gf : Nat} {caps : List AV} {es : List (List AV)}
    (J : List Res → Prop) (Jx : Nat → List Res → Prop) (p : Nat → Bool) (KA : Nat → Env → List Res → Prop) (hg : E.ev g = some (.fn (.func gf) caps)) (eg : Enters P gf) (hit : Iter P gf caps es) (hps : ∀ i, i < es.length → es[i]!.length = ps.size) (hpn : ∀ p ∈ ps.toList, p < n) (h0 : J σ)
    (hassign : ∀ C' i σ', i < es.length → J σ' → CWR P C' n assign (fun e E1 σ1 => e = .normal ∧ KA i E1 σ1 ∧ ∃ σ2, J σ2 ∧ List.Sublist σ2 σ1) (penv ps.toList es[i]! E) σ')
    (hbody : ∀ C' i E1 σ1, i < es.length → KA i E1 σ1 → CWR P C' n body (fun e _ σ2 => (e = .normal ∧ p i = false ∧ ∃ σ3, J σ3 ∧ List.Sublist σ3 σ2) ∨ (e = .ret ∧ p i = true ∧ ∃ σ3, Jx i σ3 ∧ List.Sublist σ3 σ2)) E1 σ1)
    (hdone : ∀ σ', J σ' → (∀ i, i < es.length → p i = false) → Q .normal E σ')
    (hstop : ∀ i σ', i < es.length → (∀ j, j < i → p j = false) → p i = true → Jx i σ' → Q .ret E σ') : CW P C n (.rangeFunc g ps assign body) Q E σ := fun a w ha => by
  have hgv := ha.slots.ops g _ hg
  obtain ⟨lb, hlb, hev⟩ : ∃ lb : List Value, RelL (al C σ) w caps lb ∧ a.eval g = .func (.func gf) #[] lb.toArray := by
    generalize hx : AV.fn (.func gf) caps = x at hgv
    generalize a.eval g = v at hgv
    cases hgv with
    | fn f cs us hl hr => cases hx; exact ⟨us, ⟨hl, hr⟩, rfl⟩
    | _ => cases hx
  obtain ⟨us, hul, hur, hseq⟩ := hit (al C σ) w lb hlb
  have hw0 : C.w0.heap.size ≤ w.heap.size := ha.good.kept.size
  have hKt : ∀ {A B D : World}, (∀ b, b < w.heap.size → al C σ b → B.heap[b]? = A.heap[b]?) → (∀ b, b < w.heap.size → al C σ b → D.heap[b]? = B.heap[b]?) → (∀ b, b < w.heap.size → al C σ b → D.heap[b]? = A.heap[b]?) := fun h k b hb hA => (k b hb hA).trans (h b hb hA)
  have after : ∀ (a : Act) D W σ', Lay C σ w σ' W → Good C σ' W → w.heap.size ≤ W.heap.size → w.heap.size ≤ D → W.heap[D]? = some (.deferred (some [])) → Sim C n E σ a w → Sim C n E σ' { a with defers := { target := .collected D, args := #[] } :: a.defers } W := fun a D W σ' hL hG hSz hD hdf ha => by
    have hcell : ∀ (b : Nat) ds, W.heap[b]? = some (Obj.deferred ds) → b ∉ blks σ' := fun b ds hb hx => by
      obtain ⟨r, h1, h2⟩ := mem_blks.1 hx
      obtain ⟨cs, T, m, h3⟩ := (hG.res r h1).cells h2
      rw [hb] at h3
      cases h3
    refine ⟨?_, ha.size, fun s av q => ?_, hG⟩
    · obtain ⟨Ds, h1, h2, h3⟩ := ha.defers
      refine ⟨D :: Ds, by simp [h1], List.nodup_cons.2 ⟨fun hx => by have := (h3 D hx).1; omega, h2⟩, fun D' hD' => ?_⟩
      rcases List.mem_cons.1 hD' with rfl | hD'
      · exact ⟨(Array.getElem?_eq_some_iff.1 hdf).1, by omega, hcell _ _ hdf, hdf⟩
      · obtain ⟨q1, q2, q3, q4⟩ := h3 D' hD'
        have q5 := (hL D' q1 ⟨.inr (.inr q2), q3⟩).2.trans q4
        exact ⟨(Array.getElem?_eq_some_iff.1 q5).1, q2, hcell _ _ q5, q5⟩
    · obtain ⟨v, q1, q2⟩ := ha.slots s av q
      exact ⟨v, q1, q2.mono fun b hb hA => hL b hb hA⟩
  refine wpIn_wide.1 (wpIn_rangeFunc_ownH (F := Fence.wide) (n := 2) (g := g) (ps := ps) (assign := assign) (body := body) (α := Fin es.length) (w0 := w) (gf := gf) (lb := lb.toArray) rfl (by omega) hev trivial eg hseq hKt (fun W l o o' hl _ _ _ b hb _ => World.putObj_heap_other (by omega)) (Below.refl _ _) (fun x => ?_)
    (fun pre W => (∀ i ∈ pre, p i.1 = false) ∧ Mid C σ w J W) (fun c pre W => c = .ret ∧ (∃ ini i, pre = ini ++ [i] ∧ (∀ j ∈ ini, p j.1 = false) ∧ p i.1 = true ∧ Mid C σ w (Jx i.1) W))
    (OwnFrom.and (fun _ _ _ _ h _ _ => h) (Mid.own (α := List (Fin es.length)) hw0 (fun _ => J))) (fun c pre W W' row h hg hr => ?_) ⟨by simp, σ, h0, ha.good, fun b _ hA => ⟨hA, rfl⟩, Nat.le_refl _⟩
    (fun x a' => Rnd C n σ w (KA x.1) a') (fun x a' => Rnd.own hw0 _ a') ?_ ?_ ?_ ?_)
  · have := (hur x.1 x.2).1
    rw [List.size_toArray, this]
    exact hps x.1 x.2
  · obtain ⟨h1, ini, i, h2, h3, h4, h5⟩ := h
    exact ⟨h1, ini, i, h2, h3, h4, Mid.own (α := Unit) hw0 (fun _ => Jx i.1) () W W' row h5 hg hr⟩
  · intro l pre x W K ⟨hp, σ', hJ, hG, hL, hS⟩ hK
    have hsl : Slots (al ⟨W, al C σ', blks σ'⟩ σ') W (penv ps.toList es[x.1]! E) (setAll a.tmps (ps.toList.zip us[x.1]!)) := by
      refine Slots.penv _ _ _ _ _ (fun t av ht => ?_) ?_ (fun p hp => by rw [ha.size]; exact hpn p hp) (by rw [hps x.1 x.2]; simp)
      · obtain ⟨v, q1, q2⟩ := ha.slots t av ht
        exact ⟨v, q1, q2.mono fun b hb hA => ⟨⟨.inl (hL b hb hA).1, (hL b hb hA).1.2⟩, (hL b hb hA).2⟩⟩
      · exact (hur x.1 x.2).mono fun b hb hA => ⟨⟨.inl (hL b hb hA).1, (hL b hb hA).1.2⟩, (hL b hb hA).2⟩
    rw [setAll_eq]
    refine wpIn_mono (hassign ⟨W, al C σ', blks σ'⟩ x.1 σ' x.2 hJ l 0 _ W ⟨.nil rfl, (setAll_size _ _).trans ha.size, hsl, hG.fresh⟩ rfl) ?_
    · rintro e a' W' ⟨hd1, E1, σ1, hs1, rfl, hka, σ2, hj2, hsub⟩
      have t := tr_out hG hs1.good
      refine hK a' W' (keepsFrom_tr _ hG t) (fun b hb hA => t.kp.block b (Nat.lt_of_lt_of_le hb hS) (hL b hb hA).1.2) ⟨hp, σ2, hj2, t.good.less hsub, (hL.tr t hS).less hsub, Nat.le_trans hS t.kp.size⟩ ?_
      refine ⟨E1, σ1, hka, ⟨.nil hd1, hs1.size, fun s av q => ?_, t.good⟩, hd1, hL.tr t hS, Nat.le_trans hS t.kp.size⟩
      obtain ⟨v, q1, q2⟩ := hs1.slots s av q
      exact ⟨v, q1, q2.mono fun b _ hA => ⟨al_out hG b hA, rfl⟩⟩
  · intro l pre x a' W hl hr ⟨hp, _⟩ ⟨E1, σ1, hka, hs1, hd1, hL1, hS1⟩ hlt
    have hs2 : Sim ⟨W, al C σ1, blks σ1⟩ n E1 σ1 a' W := ⟨.nil hd1, hs1.size, fun s av q => by
      obtain ⟨v, q1, q2⟩ := hs1.slots s av q
      exact ⟨v, q1, q2.mono fun b _ hA => ⟨⟨.inl hA, hA.2⟩, rfl⟩⟩, hs1.good.fresh⟩
    refine wpIn_mono (hbody ⟨W, al C σ1, blks σ1⟩ x.1 E1 σ1 x.2 hka l 0 a' W hs2 hd1) ?_
    rintro e a2 W' ⟨_, E2, σ2, hs3, hq⟩
    have t := tr_out hs1.good hs3.good
    have hkf := keepsFrom_tr w.heap.size hs1.good t
    rcases hq with ⟨rfl, hpx, σ3, hj3, hsub⟩ | ⟨rfl, hpx, σ3, hj3, hsub⟩
    · refine ⟨hkf, fun b hb hA => t.kp.block b (Nat.lt_of_lt_of_le hb hS1) (hL1 b hb hA).1.2, fun i hi => ?_, σ3, hj3, t.good.less hsub, (hL1.tr t hS1).less hsub, Nat.le_trans hS1 t.kp.size⟩
      rcases List.mem_append.1 hi with hi | hi
      · exact hp i hi
      · rw [List.mem_singleton] at hi
        rw [hi]; exact hpx
    · exact ⟨hkf, rfl, pre, x, rfl, hp, hpx, σ3, hj3, t.good.less hsub, (hL1.tr t hS1).less hsub, Nat.le_trans hS1 t.kp.size⟩
  · intro D xs W hD hS ⟨hp, σ', hJ, hG, hL, hSz⟩ hdf
    subst hS
    exact ⟨E, σ', after a D W σ' hL hG hSz hD hdf ha, hdone σ' hJ fun i hi => hp ⟨i, hi⟩ (List.mem_finRange _)⟩
  · intro D c pre W hD hS ⟨hc, ini, i, hpre, hini, hi, σ', hJ, hG, hL, hSz⟩ hdf
    subst hc
    refine wpIn_ret ⟨E, σ', after a D W σ' hL hG hSz hD hdf ha, hstop i.1 σ' i.2 (fun j hj => ?_) hi hJ⟩
    refine hini ⟨j, by have := i.2; omega⟩ ?_
    subst hpre
    obtain ⟨rest, hrest⟩ := hS
    have hk : i.1 = ini.length := by
      have h1 : (List.finRange es.length)[ini.length]? = some i := by rw [← hrest]; simp
      obtain ⟨h2, h3⟩ := List.getElem?_eq_some_iff.1 h1
      rw [List.getElem_finRange] at h3
      rw [← h3]; rfl
    have h1 : (List.finRange es.length)[j]? = some ⟨j, by have := i.2; omega⟩ := by
      rw [List.getElem?_eq_getElem (by rw [List.length_finRange]; have := i.2; omega), List.getElem_finRange]; rfl
    rw [← hrest, List.append_assoc, List.getElem?_append_left (by omega)] at h1
    exact List.mem_of_getElem? h1
end Go.Ab
end
section
set_option linter.unusedSectionVars false
set_option linter.unusedVariables false
set_option linter.unusedSimpArgs false
namespace Go.Iv
open Go
variable [U : Uni]
/-- The two read as0 the same values. -/
def Br (a : AV) (b : Ab.AV) : Prop := ∀ (A : Nat → Prop) (w : World) (v : Value), (Rel A w a v → Ab.Rel A w b v) ∧ (Ab.Rel A w b v → Rel A w a v)
def BrL (xs : List AV) (bs : List Ab.AV) : Prop := xs.length = bs.length ∧ ∀ (j : Nat) a b, xs[j]? = some a → bs[j]? = some b → Br a b
theorem BrL.nil : BrL [] [] := ⟨rfl, fun j a b h => by cases h⟩
theorem BrL.cons {a : AV} {b : Ab.AV} {xs : List AV} {bs : List Ab.AV} (h : Br a b) (hs : BrL xs bs) : BrL (a :: xs) (b :: bs) := ⟨by simp [hs.1], fun j x y h1 h2 => by
  cases j with
  | zero => cases h1; cases h2; exact h
  | succ j => exact hs.2 j x y h1 h2⟩
theorem BrL.get {xs : List AV} {bs : List Ab.AV} (h : BrL xs bs) {j : Nat} {b : Ab.AV} (hb : bs[j]? = some b) : ∃ a, xs[j]? = some a ∧ Br a b := by
  have hj := (List.getElem?_eq_some_iff.1 hb).1
  have hj' : j < xs.length := by rw [h.1]; exact hj
  exact ⟨xs[j], List.getElem?_eq_getElem hj', h.2 j _ _ (List.getElem?_eq_getElem hj') hb⟩
theorem BrL.get' {xs : List AV} {bs : List Ab.AV} (h : BrL xs bs) {j : Nat} {a : AV} (ha : xs[j]? = some a) : ∃ b, bs[j]? = some b ∧ Br a b := by
  have hj := (List.getElem?_eq_some_iff.1 ha).1
  have hj' : j < bs.length := by rw [← h.1]; exact hj
  exact ⟨bs[j], List.getElem?_eq_getElem hj', h.2 j _ _ ha (List.getElem?_eq_getElem hj')⟩
theorem Br.lit (v : Value) : Br (.lit v) (.lit v) := fun A w u => ⟨fun h => by rw [h.litEq]; exact .lit _, fun h => by rw [h.litEq]; exact .lit _⟩
theorem Br.sl {α : Type} [Inhabited α] {t : Nat} {l : List (U.Dat t)} {c : α → List Ab.AV} {l' : List α} (hlen : l.length = l'.length) (h : ∀ i, i < l.length → BrL (U.cells t l[i]!) (c l'[i]!)) : Br (.sl t l) (.sl (U.sz t) c l') := fun A w v => by
  constructor
  · intro hr
    obtain ⟨p, cap, u, rfl, h1, h2, h3, h4, h5⟩ := hr.slInv
    rw [hlen]
    refine .sl _ _ _ _ _ u (by omega) (by omega) (fun i hi => by rw [← (h i (by omega)).1]; exact h3 i (by omega)) (fun i hi => h4 i (by omega)) (fun i j a hi ha => ?_)
    obtain ⟨b, q1, q2⟩ := (h i (by omega)).get ha
    exact (q2 A w _).1 (h5 i j b (by omega) q1)
  · intro hr
    obtain ⟨p, cap, u, rfl, h1, h2, h3, h4, h5⟩ := hr.slInv
    rw [← hlen]
    refine .sl _ _ _ _ u (by omega) (by omega) (fun i hi => by rw [(h i (by omega)).1]; exact h3 i (by omega)) (fun i hi => h4 i (by omega)) (fun i j a hi ha => ?_)
    obtain ⟨b, q1, q2⟩ := (h i (by omega)).get' ha
    exact (q2 A w _).2 (h5 i j b (by omega) q1)
theorem Br.agg {cs : List AV} {ds : List Ab.AV} (h : BrL cs ds) : Br (.agg cs) (.agg ds) := fun A w v => by
  constructor
  · intro hr
    generalize ha : AVq.agg cs = a at hr
    cases hr with
    | agg cs' us hl hr =>
      cases ha
      refine .agg _ us (by rw [hl, h.1]) fun j a v h1 h2 => ?_
      obtain ⟨b, q1, q2⟩ := h.get h1
      exact (q2 A w _).1 (hr j b v q1 h2)
    | _ => cases ha
  · intro hr
    generalize ha : Ab.AV.agg ds = a at hr
    cases hr with
    | agg cs' us hl hr =>
      cases ha
      refine .agg _ us (by rw [hl, h.1]) fun j a v h1 h2 => ?_
      obtain ⟨b, q1, q2⟩ := h.get' h1
      exact (q2 A w _).2 (hr j b v q1 h2)
    | _ => cases ha
theorem Br.tup {cs : List AV} {ds : List Ab.AV} (h : BrL cs ds) : Br (.tup cs) (.tup ds) := fun A w v => by
  constructor
  · intro hr
    generalize ha : AVq.tup cs = a at hr
    cases hr with
    | tup cs' us hl hr =>
      cases ha
      refine .tup _ us (by rw [hl, h.1]) fun j a v h1 h2 => ?_
      obtain ⟨b, q1, q2⟩ := h.get h1
      exact (q2 A w _).1 (hr j b v q1 h2)
    | _ => cases ha
  · intro hr
    generalize ha : Ab.AV.tup ds = a at hr
    cases hr with
    | tup cs' us hl hr =>
      cases ha
      refine .tup _ us (by rw [hl, h.1]) fun j a v h1 h2 => ?_
      obtain ⟨b, q1, q2⟩ := h.get' h1
      exact (q2 A w _).2 (hr j b v q1 h2)
    | _ => cases ha
theorem Fn.ofAb {P : Program} {f : FuncId} {xs : List AV} {bs : List Ab.AV} {d : AV} {b : Ab.AV} (h : Ab.Fn P f bs [] (fun a s => a = b ∧ s = [])) (ha : BrL xs bs) (hd : Br d b) : Fn P f xs [] (fun a s => a = d ∧ s = []) := fun w A vs h1 h2 h3 =>
  (h w A vs ⟨by rw [h1.1, ha.1], fun j a v q1 q2 => by
      obtain ⟨x, e1, e2⟩ := ha.get q1
      exact (e2 A w v).1 (h1.2 j x v e1 q2)⟩ ⟨fun r hr => absurd hr (List.not_mem_nil), fun b hb => absurd hb (List.not_mem_nil)⟩ List.nodup_nil).mono fun e w' ⟨v, av, σ', q1, ⟨e1, e2⟩, q3, q4⟩ => by
    subst e1
    subst e2
    refine ⟨v, d, [], q1, ⟨rfl, rfl⟩, ⟨⟨⟨q3.good.kept.os, q3.good.kept.tape, q3.good.kept.output, q3.good.kept.size, q3.good.kept.block⟩, fun r hr => absurd hr (List.not_mem_nil), List.nodup_nil, fun b hb => absurd hb (List.not_mem_nil)⟩, ⟨q3.kp.os, q3.kp.tape, q3.kp.output, q3.kp.size, q3.kp.block⟩, fun b h1 h2 => q3.al b h1 h2⟩, (hd _ _ _).2 q4⟩
theorem fnY_ofFn {P : Program} {f : FuncId} {xs : List AV} {d : AV} (h : Fn P f xs [] (fun a s => a = d ∧ s = [])) (ha : ∀ ρ : Gh, xs.map (AVq.sub ρ) = xs) (hd : ∀ ρ : Gh, d.sub ρ = d) : FnY P f xs [] 0 ⟨d, [], 0⟩ := fun ρ => by
  rw [ha ρ]
  exact h.mono fun a s ⟨h1, h2⟩ => ⟨ρ, fun _ _ => ⟨rfl, rfl⟩, by rw [h1]; exact (hd ρ).symm, by rw [h2]; exact List.Perm.refl _⟩
end Go.Iv
end
section
set_option linter.unusedSectionVars false
set_option linter.unusedVariables false
set_option linter.unusedSimpArgs false
namespace Go.Proofs.YtgdahkddhecloaaD
open Go.RowKit Go.Ab

structure Write where
  fAt : Int
  fData : List Int
  deriving Inhabited, DecidableEq
def Write.cells (x : Write) : List AV := [.i x.fAt, .sl 1 (cN .u8) x.fData]
structure Disk where
  fDurable : List (List Int)
  fPending : List Write
  fLeft : Int
  fDown : Bool
  deriving Inhabited, DecidableEq
def Disk.cells (x : Disk) : List AV := [.sl 1 (cL 1 (cN .u8)) x.fDurable, .sl 2 Write.cells x.fPending, .i x.fLeft, .b x.fDown]
structure Record where
  fEpoch : Int
  fSeq : Int
  fSecret : Int
  fClient : Int
  fNumber : Int
  fProgram : Int
  fPublic : Int
  fAnswer : Int
  fCharge : Int
  deriving Inhabited, DecidableEq
def Record.cells (x : Record) : List AV := [.i x.fEpoch, .i x.fSeq, .i x.fSecret, .i x.fClient, .i x.fNumber, .i x.fProgram, .i x.fPublic, .i x.fAnswer, .i x.fCharge]
theorem many63 : isMany Try.prog 63 4 := ⟨⟨_, Try.underlying63, trivial⟩, by kernel_rfl⟩
theorem many72 : isMany Try.prog 72 9 := ⟨⟨_, Try.underlying72, trivial⟩, by kernel_rfl⟩
theorem many90 : isMany Try.prog 90 2 := ⟨⟨_, Try.underlying90, trivial⟩, by kernel_rfl⟩
theorem ok29 : fnOk Try.prog 29 := ⟨_, Try.func29, by kernel_rfl, rfl⟩
theorem ok45 : fnOk Try.prog 45 := ⟨_, Try.func45, by kernel_rfl, rfl⟩
theorem ok53 : fnOk Try.prog 53 := ⟨_, Try.func53, by kernel_rfl, rfl⟩
theorem ok54 : fnOk Try.prog 54 := ⟨_, Try.func54, by kernel_rfl, rfl⟩
theorem ok55 : fnOk Try.prog 55 := ⟨_, Try.func55, by kernel_rfl, rfl⟩
theorem ok56 : fnOk Try.prog 56 := ⟨_, Try.func56, by kernel_rfl, rfl⟩
theorem ok57 : fnOk Try.prog 57 := ⟨_, Try.func57, by kernel_rfl, rfl⟩
theorem ok58 : fnOk Try.prog 58 := ⟨_, Try.func58, by kernel_rfl, rfl⟩
theorem ok59 : fnOk Try.prog 59 := ⟨_, Try.func59, by kernel_rfl, rfl⟩
theorem ok60 : fnOk Try.prog 60 := ⟨_, Try.func60, by kernel_rfl, rfl⟩
theorem ok61 : fnOk Try.prog 61 := ⟨_, Try.func61, by kernel_rfl, rfl⟩
theorem ok64 : fnOk Try.prog 64 := ⟨_, Try.func64, by kernel_rfl, rfl⟩
theorem ok65 : fnOk Try.prog 65 := ⟨_, Try.func65, by kernel_rfl, rfl⟩
theorem one24 : isOne Try.prog 24 := ⟨_, Try.underlying24, trivial⟩
theorem one26 : isOne Try.prog 26 := ⟨_, Try.underlying26, trivial⟩
theorem one3 : isOne Try.prog 3 := ⟨_, Try.underlying3, trivial⟩
theorem one4 : isOne Try.prog 4 := ⟨_, Try.underlying4, trivial⟩
theorem one60 : isOne Try.prog 60 := ⟨_, Try.underlying60, trivial⟩
theorem one61 : isOne Try.prog 61 := ⟨_, Try.underlying61, trivial⟩
theorem one93 : isOne Try.prog 93 := ⟨_, Try.underlying93, trivial⟩
theorem plc63 : placesOf Try.prog 63 = some [(0, 1), (1, 1), (2, 1), (3, 1)] := by kernel_rfl
theorem plc90 : placesOf Try.prog 90 = some [(0, 1), (1, 1)] := by kernel_rfl
theorem sz24 : (Try.prog.info? 24).map (·.size) = some 1 := by kernel_rfl
theorem sz26 : (Try.prog.info? 26).map (·.size) = some 1 := by kernel_rfl
theorem sz3 : (Try.prog.info? 3).map (·.size) = some 1 := by kernel_rfl
theorem sz4 : (Try.prog.info? 4).map (·.size) = some 1 := by kernel_rfl
theorem sz5 : (Try.prog.info? 5).map (·.size) = some 1 := by kernel_rfl
theorem sz60 : (Try.prog.info? 60).map (·.size) = some 1 := by kernel_rfl
theorem sz61 : (Try.prog.info? 61).map (·.size) = some 1 := by kernel_rfl
theorem sz63 : (Try.prog.info? 63).map (·.size) = some 4 := by kernel_rfl
theorem sz71 : (Try.prog.info? 71).map (·.size) = some 1 := by kernel_rfl
theorem sz72 : (Try.prog.info? 72).map (·.size) = some 9 := by kernel_rfl
theorem sz90 : (Try.prog.info? 90).map (·.size) = some 2 := by kernel_rfl
theorem sz93 : (Try.prog.info? 93).map (·.size) = some 1 := by kernel_rfl
theorem szb24 : (Try.prog.info? 24).map (fun i => (i.size, i.bytes)) = some (1, 24) := by kernel_rfl
theorem szb5 : (Try.prog.info? 5).map (fun i => (i.size, i.bytes)) = some (1, 1) := by kernel_rfl
theorem szb90 : (Try.prog.info? 90).map (fun i => (i.size, i.bytes)) = some (2, 32) := by kernel_rfl
theorem zer24 : zerosOf Try.prog 24 = some [.slice none 0 0] := by kernel_rfl
theorem zer5 : zerosOf Try.prog 5 = some [.int .u8 0] := by kernel_rfl
theorem zer63 : zerosOf Try.prog 63 = some [.slice none 0 0, .slice none 0 0, .int .i64 0, .bool false] := by kernel_rfl
theorem zer72 : zerosOf Try.prog 72 = some [.pointer none, .pointer none, .pointer none, .pointer none, .pointer none, .pointer none, .pointer none, .pointer none, .pointer none] := by kernel_rfl
theorem zer90 : zerosOf Try.prog 90 = some [.int .i64 0, .slice none 0 0] := by kernel_rfl
theorem zerb3 : (Try.prog.info? 3).bind (fun i => i.zero.map (·.cells)) = some ([.int .i64 0] : List Value).toArray := by kernel_rfl
theorem zerb63 : (Try.prog.info? 63).bind (fun i => i.zero.map (·.cells)) = some ([.slice none 0 0, .slice none 0 0, .int .i64 0, .bool false] : List Value).toArray := by kernel_rfl
theorem zerb72 : (Try.prog.info? 72).bind (fun i => i.zero.map (·.cells)) = some ([.pointer none, .pointer none, .pointer none, .pointer none, .pointer none, .pointer none, .pointer none, .pointer none, .pointer none] : List Value).toArray := by kernel_rfl
theorem zerb90 : (Try.prog.info? 90).bind (fun i => i.zero.map (·.cells)) = some ([.int .i64 0, .slice none 0 0] : List Value).toArray := by kernel_rfl
theorem zerb93 : (Try.prog.info? 93).bind (fun i => i.zero.map (·.cells)) = some ([.nilFunc] : List Value).toArray := by kernel_rfl
end Go.Proofs.YtgdahkddhecloaaD
end
section
set_option linter.unusedSectionVars false
set_option linter.unusedVariables false
set_option linter.unusedSimpArgs false
namespace Go.Proofs.YtgdahkddhecloaaD
open Go.RowKit Go.Ab

def m53 (p0 : List Int) : Option Bool :=
  some (decide ((p0.length : Int) = 96))

theorem m53_ok (p0 : List Int)  {r : Bool} (hm : m53 p0 = some r) : Ab.Fn Try.prog 53 [.sl 1 (cN .u8) p0] [] (fun a s => a = .b r ∧ s = []) := by
  rw [m53] at hm
  refine Ab.Fn.of Try.func53 rfl rfl rfl (fun C => ?_)
  refine CW.seq ?_
  refine CW.region ?_
  refine RW.p rfl rfl rfl (Yp.assign rfl rfl) ?_
  refine RW.nil ?_
  refine CW.seq ?_
  refine CW.region ?_
  refine RW.p rfl rfl rfl (Yp.move rfl rfl) ?_
  refine RW.p rfl rfl rfl (Yp.lenSl rfl rfl Try.underlying24) ?_
  refine RW.p rfl rfl rfl (Yp.eql rfl rfl rfl) ?_
  refine RW.p rfl rfl rfl (Yp.assign rfl rfl) ?_
  refine RW.nil ?_
  refine CW.ret ?_
  cases hm
  exact fin1 (.inr rfl) rfl (ResIs.tmp rfl) (List.nil_sublist _) ⟨rfl, rfl⟩

def m55 (p0 : List Int) : Option Bool :=
  (m53 p0).bind fun x1 =>
  some (!x1)

theorem m55_ok (p0 : List Int) (pb1 : Nat) {r : Bool} (hm : m55 p0 = some r) : Ab.Fn Try.prog 55 [.sl 1 (cN .u8) p0, .lit (.pointer (some ⟨pb1, 0, none⟩))] [.box pb1 93 [.fn (.func 53) []]] (fun a s => a = .b r ∧ s = [.box pb1 93 [.fn (.func 53) []]]) := by
  rw [m55] at hm
  refine Ab.Fn.of Try.func55 rfl rfl rfl (fun C => ?_)
  refine CW.seq ?_
  refine CW.region ?_
  refine RW.p rfl rfl rfl (Yp.assign rfl rfl) ?_
  refine RW.nil ?_
  refine CW.seq ?_
  refine CW.region ?_
  refine RW.p rfl rfl rfl (Yp.loadB1 0 rfl rfl rfl one93 rfl) ?_
  refine RW.p rfl rfl rfl (Yp.move rfl rfl) ?_
  obtain ⟨x1, hx1, hm⟩ := bnd hm
  refine RW.c rfl rfl rfl (Yc.fnV (σp := []) (args' := [.sl 1 (cN .u8) p0]) rfl rfl ok53 rfl rfl rfl (VwL.id _) (m53_ok p0 hx1)) ?_
  rintro _ _ ⟨_, ⟨rfl, rfl⟩, rfl⟩
  refine RW.p rfl rfl rfl (Yp.not rfl rfl) ?_
  refine RW.p rfl rfl rfl (Yp.assign rfl rfl) ?_
  refine RW.nil ?_
  refine CW.ret ?_
  cases hm
  exact fin1 (.inr rfl) rfl (ResIs.tmp rfl) (.cons_cons _ (List.nil_sublist _)) ⟨rfl, rfl⟩

def m64_l1 (p0 : List (List Int)) : Nat → Int → Option (Sum Unit Int)
  | 0, _ => none
  | k1 + 1, n3 =>
    if (decide (n3 < (p0.length : Int))) = true then
      if 0 ≤ n3 ∧ n3 < (p0.length : Int) then
      (m55 (p0[Int.toNat n3]!)).bind fun x1 =>
      if x1 = true then
        some (Sum.inr n3)
      else
        m64_l1 p0 k1 (w64 (n3 + 1))
      else none
    else
      some (Sum.inl ())
def m64 (p0 : List (List Int)) : Option Int :=
  Option.bind (
    (m64_l1 p0 (Int.toNat (p0.length : Int) + 1) 0).bind fun o2 =>
    match o2 with
    | .inl () =>
      some (Sum.inl ())
    | .inr r =>
      some (Sum.inr r)) fun o1 =>
  match o1 with
  | .inl () =>
    some (-1)
  | .inr r =>
    some r

theorem m64_ok (p0 : List (List Int)) (pb1_0 : Nat) {r : Int} (hm : m64 p0 = some r) : Ab.Fn Try.prog 64 [.sl 1 (cL 1 (cN .u8)) p0, .fn (.func 55) [.lit (.pointer (some ⟨pb1_0, 0, none⟩))]] [.box pb1_0 93 [.fn (.func 53) []]] (fun a s => a = .i r ∧ s = [.box pb1_0 93 [.fn (.func 53) []]]) := by
  rw [m64] at hm
  refine Ab.Fn.of Try.func64 rfl rfl rfl (fun C => ?_)
  refine CW.seq ?_
  refine CW.region ?_
  refine RW.p rfl rfl rfl (Yp.assign rfl rfl) ?_
  refine RW.nil ?_
  refine CW.seq ?_
  obtain ⟨o1, hs1, hk1⟩ := bnd hm
  refine CW.cut (fun E σ => o1 = Sum.inl () ∧ Sub [(1, .fn (.func 55) [.lit (.pointer (some ⟨pb1_0, 0, none⟩))])] E ∧ σ = [.box pb1_0 93 [.fn (.func 53) []]]) ?_ ?_
  ·
    have hm := hs1
    refine CW.seq ?_
    refine CW.region ?_
    refine RW.p rfl rfl rfl (Yp.move rfl rfl) ?_
    refine RW.p rfl rfl rfl (Yp.lenSl rfl rfl Try.underlying60) ?_
    refine RW.p rfl rfl rfl (Yp.move rfl rfl) ?_
    refine RW.nil ?_
    refine CW.block ?_
    obtain ⟨o2, hs2, hk2⟩ := bnd hm
    refine CW.lp (fun k1 E σ => ∃ n3 : Int, Sub [(0, .sl 1 (cL 1 (cN .u8)) p0), (1, .fn (.func 55) [.lit (.pointer (some ⟨pb1_0, 0, none⟩))]), (7, .i (p0.length : Int)), (8, .i n3)] E ∧ σ = [.box pb1_0 93 [.fn (.func 53) []]] ∧ m64_l1 p0 k1 n3 = some o2) (Int.toNat (p0.length : Int) + 1) ?_ ?_
    · exact ⟨0, (Sub.cons rfl (Sub.cons rfl (Sub.cons rfl (Sub.cons rfl Sub.nil)))), rfl, hs2⟩
    ·
      rintro k1 E σ ⟨n3, hsub1, rfl, hm⟩
      refine CW.weak ?_ hsub1
      cases k1 with
      | zero => cases hm
      | succ k1 =>
        rw [m64_l1] at hm
        refine CW.seq ?_
        refine CW.region ?_
        refine RW.p rfl rfl rfl (Yp.lss rfl rfl rfl) ?_
        refine RW.nil ?_
        refine CW.seq ?_
        refine CW.cond rfl (fun hb1 => ?_) (fun hb1 => ?_)
        ·
          have hm := ift hm hb1
          refine CW.skip ?_
          refine CW.seq ?_
          refine CW.block ?_
          refine CW.seq ?_
          refine CW.region ?_
          refine RW.p rfl rfl rfl (Yp.move rfl rfl) ?_
          refine RW.p rfl rfl rfl (Yp.assign rfl rfl) ?_
          refine RW.nil ?_
          refine CW.seq ?_
          refine CW.region ?_
          refine RW.p rfl rfl rfl (Yp.move rfl rfl) ?_
          refine RW.p rfl rfl rfl (Yp.move rfl rfl) ?_
          refine RW.p rfl rfl rfl (Yp.move rfl rfl) ?_
          obtain ⟨hc1, hm⟩ := chk hm
          refine RW.p rfl rfl rfl (Yp.indexSl rfl rfl rfl Try.underlying60 sz24 hc1) ?_
          refine RW.p rfl rfl rfl (Yp.loadF1 rfl rfl one24 rfl) ?_
          obtain ⟨x1, hx1, hm⟩ := bnd hm
          refine RW.c rfl rfl rfl (Yc.fnV (σp := [.box pb1_0 93 [.fn (.func 53) []]]) (args' := [.sl 1 (cN .u8) (p0[Int.toNat n3]!), .lit (.pointer (some ⟨pb1_0, 0, none⟩))]) rfl rfl ok55 rfl rfl rfl (VwL.id _) (m55_ok (p0[Int.toNat n3]!) pb1_0 hx1)) ?_
          rintro _ _ ⟨_, ⟨rfl, rfl⟩, rfl⟩
          refine RW.nil ?_
          refine CW.cond rfl (fun hb2 => ?_) (fun hb2 => ?_)
          ·
            have hm := ift hm hb2
            refine CW.seq ?_
            refine CW.region ?_
            refine RW.p rfl rfl rfl (Yp.move rfl rfl) ?_
            refine RW.p rfl rfl rfl (Yp.assign rfl rfl) ?_
            refine RW.nil ?_
            refine CW.ret ?_
            cases hm
            have hm := hk2
            cases hm
            have hm := hk1
            cases hm
            exact fin1 (.inr rfl) rfl (ResIs.tmp rfl) (.cons_cons _ (List.nil_sublist _)) ⟨rfl, rfl⟩
          ·
            have hm := iff' hm hb2
            refine CW.skip ?_
            refine CW.region ?_
            refine RW.p rfl rfl rfl (Yp.add rfl rfl rfl) ?_
            refine RW.p rfl rfl rfl (Yp.move rfl rfl) ?_
            refine RW.nil ?_
            exact ⟨k1, Nat.lt_succ_self _, _, (Sub.cons rfl (Sub.cons rfl (Sub.cons rfl (Sub.cons rfl Sub.nil)))), rfl, hm⟩
        ·
          have hm := iff' hm hb1
          refine CW.exit ?_
          cases hm
          have hm := hk2
          cases hm
          exact ⟨rfl, (Sub.cons rfl Sub.nil), rfl⟩
  ·
    rintro E σ ⟨rfl, hsub2, rfl⟩
    have hm := hk1
    refine CW.weak ?_ hsub2
    refine CW.seq ?_
    refine CW.region ?_
    refine RW.p rfl rfl rfl (Yp.assign rfl rfl) ?_
    refine RW.nil ?_
    refine CW.ret ?_
    cases hm
    exact fin1 (.inr rfl) rfl (ResIs.tmp rfl) (.cons_cons _ (List.nil_sublist _)) ⟨rfl, rfl⟩

def m54 (p0 : List (List Int)) : Option Bool :=
  (m64 p0).bind fun x1 =>
  some (decide ((0 : Int) ≤ x1))

theorem m54_ok (p0 : List (List Int)) (pb1_0 : Nat) {r : Bool} (hm : m54 p0 = some r) : Ab.Fn Try.prog 54 [.sl 1 (cL 1 (cN .u8)) p0, .fn (.func 55) [.lit (.pointer (some ⟨pb1_0, 0, none⟩))]] [.box pb1_0 93 [.fn (.func 53) []]] (fun a s => a = .b r ∧ s = [.box pb1_0 93 [.fn (.func 53) []]]) := by
  rw [m54] at hm
  refine Ab.Fn.of Try.func54 rfl rfl rfl (fun C => ?_)
  refine CW.seq ?_
  refine CW.region ?_
  refine RW.p rfl rfl rfl (Yp.assign rfl rfl) ?_
  refine RW.nil ?_
  refine CW.seq ?_
  refine CW.region ?_
  refine RW.p rfl rfl rfl (Yp.move rfl rfl) ?_
  refine RW.p rfl rfl rfl (Yp.move rfl rfl) ?_
  obtain ⟨x1, hx1, hm⟩ := bnd hm
  refine RW.c rfl rfl rfl (Yc.fnV (σp := [.box pb1_0 93 [.fn (.func 53) []]]) (args' := [.sl 1 (cL 1 (cN .u8)) p0, .fn (.func 55) [.lit (.pointer (some ⟨pb1_0, 0, none⟩))]]) rfl rfl ok64 rfl rfl rfl (VwL.id _) (m64_ok p0 pb1_0 hx1)) ?_
  rintro _ _ ⟨_, ⟨rfl, rfl⟩, rfl⟩
  refine RW.p rfl rfl rfl (Yp.geq rfl rfl rfl) ?_
  refine RW.p rfl rfl rfl (Yp.assign rfl rfl) ?_
  refine RW.nil ?_
  refine CW.ret ?_
  cases hm
  exact fin1 (.inr rfl) rfl (ResIs.tmp rfl) (.cons_cons _ (List.nil_sublist _)) ⟨rfl, rfl⟩

def m57 (p0 : Write) (p1 : Int) : Option Bool :=
  Option.bind (
    if (decide (p0.fAt < 0)) = true then
      some true
    else
      if (decide (p1 ≤ p0.fAt)) = true then
        some true
      else
        (m53 p0.fData).bind fun x1 =>
        some (!x1)) fun c1 =>
  some c1

theorem m57_ok (p0 : Write) (p1 : Int) (pb1 : Nat) (pb2 : Nat) {r : Bool} (hm : m57 p0 p1 = some r) : Ab.Fn Try.prog 57 [.agg [.i p0.fAt, .sl 1 (cN .u8) p0.fData], .lit (.pointer (some ⟨pb1, 0, none⟩)), .lit (.pointer (some ⟨pb2, 0, none⟩))] [.box pb1 3 [.i p1], .box pb2 93 [.fn (.func 53) []]] (fun a s => a = .b r ∧ s = [.box pb1 3 [.i p1], .box pb2 93 [.fn (.func 53) []]]) := by
  rw [m57] at hm
  refine Ab.Fn.of Try.func57 rfl rfl rfl (fun C => ?_)
  refine CW.seq ?_
  refine CW.region ?_
  refine RW.v rfl rfl rfl (Yv.box rfl rfl (Pw.p rfl)) ?_
  rintro _ _ ⟨b1, rfl, rfl⟩
  refine RW.p rfl rfl rfl (Yp.assign rfl rfl) ?_
  refine RW.nil ?_
  refine CW.seq ?_
  obtain ⟨c1, hs1, hk1⟩ := bnd hm
  refine CW.cut (fun E σ => Sub [(1, .lit (.pointer (some ⟨pb1, 0, none⟩))), (2, .lit (.pointer (some ⟨pb2, 0, none⟩))), (4, .b c1)] E ∧ σ = [.box pb1 3 [.i p1], .box pb2 93 [.fn (.func 53) []]]) ?_ ?_
  ·
    have hm := hs1
    refine CW.region ?_
    refine RW.p rfl rfl rfl (Yp.fieldP rfl rfl Try.underlying90 rfl sz3) ?_
    refine RW.p rfl rfl rfl (Yp.loadB1 0 rfl rfl rfl one3 rfl) ?_
    refine RW.p rfl rfl rfl (Yp.lss rfl rfl rfl) ?_
    refine RW.p rfl rfl rfl (Yp.move rfl rfl) ?_
    rcases Bool.eq_false_or_eq_true (decide (p0.fAt < 0)) with hb1 | hb1
    ·
      have hm := ift hm hb1
      refine RW.eqv 8 rfl (congrArg AV.b hb1) ?_
      refine RW.skip rfl rfl rfl ?_
      refine RW.skip rfl rfl rfl ?_
      refine RW.skip rfl rfl rfl ?_
      refine RW.skip rfl rfl rfl ?_
      refine RW.p rfl rfl rfl (Yp.pickT rfl rfl rfl) ?_
      refine RW.p rfl rfl rfl (Yp.move rfl rfl) ?_
      refine RW.skip rfl rfl rfl ?_
      refine RW.skip rfl rfl rfl ?_
      refine RW.skip rfl rfl rfl ?_
      refine RW.skip rfl rfl rfl ?_
      refine RW.skip rfl rfl rfl ?_
      refine RW.p rfl rfl rfl (Yp.pickT rfl rfl rfl) ?_
      refine RW.p rfl rfl rfl (Yp.assign rfl rfl) ?_
      refine RW.sel [1, 1] rfl ?_
      refine RW.nil ?_
      cases hm
      exact ⟨(Sub.cons rfl (Sub.cons rfl (Sub.cons rfl Sub.nil))), rfl⟩
    ·
      have hm := iff' hm hb1
      refine RW.eqv 8 rfl (congrArg AV.b hb1) ?_
      refine RW.p rfl rfl rfl (Yp.fieldP rfl rfl Try.underlying90 rfl sz3) ?_
      refine RW.p rfl rfl rfl (Yp.loadB1 0 rfl rfl rfl one3 rfl) ?_
      refine RW.p rfl rfl rfl (Yp.loadB1 1 rfl rfl rfl one3 rfl) ?_
      refine RW.p rfl rfl rfl (Yp.geq rfl rfl rfl) ?_
      refine RW.p rfl rfl rfl (Yp.pickF rfl rfl rfl) ?_
      refine RW.p rfl rfl rfl (Yp.move rfl rfl) ?_
      rcases Bool.eq_false_or_eq_true (decide (p1 ≤ p0.fAt)) with hb2 | hb2
      ·
        have hm := ift hm hb2
        refine RW.eqv 14 rfl (congrArg AV.b hb2) ?_
        refine RW.skip rfl rfl rfl ?_
        refine RW.skip rfl rfl rfl ?_
        refine RW.skip rfl rfl rfl ?_
        refine RW.skip rfl rfl rfl ?_
        refine RW.skip rfl rfl rfl ?_
        refine RW.p rfl rfl rfl (Yp.pickT rfl rfl rfl) ?_
        refine RW.p rfl rfl rfl (Yp.assign rfl rfl) ?_
        refine RW.sel [1, 1] rfl ?_
        refine RW.nil ?_
        cases hm
        exact ⟨(Sub.cons rfl (Sub.cons rfl (Sub.cons rfl Sub.nil))), rfl⟩
      ·
        have hm := iff' hm hb2
        refine RW.eqv 14 rfl (congrArg AV.b hb2) ?_
        refine RW.p rfl rfl rfl (Yp.loadB1 2 rfl rfl rfl one93 rfl) ?_
        refine RW.p rfl rfl rfl (Yp.fieldP rfl rfl Try.underlying90 rfl sz24) ?_
        refine RW.p rfl rfl rfl (Yp.loadB1 0 rfl rfl rfl one24 rfl) ?_
        obtain ⟨x1, hx1, hm⟩ := bnd hm
        refine RW.c rfl rfl rfl (Yc.fnV (σp := []) (args' := [.sl 1 (cN .u8) p0.fData]) rfl rfl ok53 rfl rfl rfl (VwL.id _) (m53_ok p0.fData hx1)) ?_
        rintro _ _ ⟨_, ⟨rfl, rfl⟩, rfl⟩
        refine RW.p rfl rfl rfl (Yp.not rfl rfl) ?_
        refine RW.p rfl rfl rfl (Yp.pickF rfl rfl rfl) ?_
        refine RW.p rfl rfl rfl (Yp.assign rfl rfl) ?_
        refine RW.sel [1, 1] rfl ?_
        refine RW.nil ?_
        cases hm
        exact ⟨(Sub.cons rfl (Sub.cons rfl (Sub.cons rfl Sub.nil))), rfl⟩
  ·
    rintro E σ ⟨hsub1, rfl⟩
    have hm := hk1
    refine CW.weak ?_ hsub1
    refine CW.ret ?_
    cases hm
    exact fin1 (.inr rfl) rfl (ResIs.tmp rfl) (.cons_cons _ (.cons_cons _ (List.nil_sublist _))) ⟨rfl, rfl⟩

def m65_l1 (p0 : List Write) (p1_0 : Int) : Nat → Int → Option (Sum Unit Int)
  | 0, _ => none
  | k1 + 1, n3 =>
    if (decide (n3 < (p0.length : Int))) = true then
      if 0 ≤ n3 ∧ n3 < (p0.length : Int) then
      (m57 (p0[Int.toNat n3]!) p1_0).bind fun x1 =>
      if x1 = true then
        some (Sum.inr n3)
      else
        m65_l1 p0 p1_0 k1 (w64 (n3 + 1))
      else none
    else
      some (Sum.inl ())
def m65 (p0 : List Write) (p1_0 : Int) : Option Int :=
  Option.bind (
    (m65_l1 p0 p1_0 (Int.toNat (p0.length : Int) + 1) 0).bind fun o2 =>
    match o2 with
    | .inl () =>
      some (Sum.inl ())
    | .inr r =>
      some (Sum.inr r)) fun o1 =>
  match o1 with
  | .inl () =>
    some (-1)
  | .inr r =>
    some r

theorem m65_ok (p0 : List Write) (p1_0 : Int) (pb1_0 : Nat) (pb1_1 : Nat) {r : Int} (hm : m65 p0 p1_0 = some r) : Ab.Fn Try.prog 65 [.sl 2 Write.cells p0, .fn (.func 57) [.lit (.pointer (some ⟨pb1_0, 0, none⟩)), .lit (.pointer (some ⟨pb1_1, 0, none⟩))]] [.box pb1_0 3 [.i p1_0], .box pb1_1 93 [.fn (.func 53) []]] (fun a s => a = .i r ∧ s = [.box pb1_0 3 [.i p1_0], .box pb1_1 93 [.fn (.func 53) []]]) := by
  rw [m65] at hm
  refine Ab.Fn.of Try.func65 rfl rfl rfl (fun C => ?_)
  refine CW.seq ?_
  refine CW.region ?_
  refine RW.p rfl rfl rfl (Yp.assign rfl rfl) ?_
  refine RW.nil ?_
  refine CW.seq ?_
  obtain ⟨o1, hs1, hk1⟩ := bnd hm
  refine CW.cut (fun E σ => o1 = Sum.inl () ∧ Sub [(1, .fn (.func 57) [.lit (.pointer (some ⟨pb1_0, 0, none⟩)), .lit (.pointer (some ⟨pb1_1, 0, none⟩))])] E ∧ σ = [.box pb1_0 3 [.i p1_0], .box pb1_1 93 [.fn (.func 53) []]]) ?_ ?_
  ·
    have hm := hs1
    refine CW.seq ?_
    refine CW.region ?_
    refine RW.p rfl rfl rfl (Yp.move rfl rfl) ?_
    refine RW.p rfl rfl rfl (Yp.lenSl rfl rfl Try.underlying61) ?_
    refine RW.p rfl rfl rfl (Yp.move rfl rfl) ?_
    refine RW.nil ?_
    refine CW.block ?_
    obtain ⟨o2, hs2, hk2⟩ := bnd hm
    refine CW.lp (fun k1 E σ => ∃ n3 : Int, Sub [(0, .sl 2 Write.cells p0), (1, .fn (.func 57) [.lit (.pointer (some ⟨pb1_0, 0, none⟩)), .lit (.pointer (some ⟨pb1_1, 0, none⟩))]), (7, .i (p0.length : Int)), (8, .i n3)] E ∧ σ = [.box pb1_0 3 [.i p1_0], .box pb1_1 93 [.fn (.func 53) []]] ∧ m65_l1 p0 p1_0 k1 n3 = some o2) (Int.toNat (p0.length : Int) + 1) ?_ ?_
    · exact ⟨0, (Sub.cons rfl (Sub.cons rfl (Sub.cons rfl (Sub.cons rfl Sub.nil)))), rfl, hs2⟩
    ·
      rintro k1 E σ ⟨n3, hsub1, rfl, hm⟩
      refine CW.weak ?_ hsub1
      cases k1 with
      | zero => cases hm
      | succ k1 =>
        rw [m65_l1] at hm
        refine CW.seq ?_
        refine CW.region ?_
        refine RW.p rfl rfl rfl (Yp.lss rfl rfl rfl) ?_
        refine RW.nil ?_
        refine CW.seq ?_
        refine CW.cond rfl (fun hb1 => ?_) (fun hb1 => ?_)
        ·
          have hm := ift hm hb1
          refine CW.skip ?_
          refine CW.seq ?_
          refine CW.block ?_
          refine CW.seq ?_
          refine CW.region ?_
          refine RW.p rfl rfl rfl (Yp.move rfl rfl) ?_
          refine RW.p rfl rfl rfl (Yp.assign rfl rfl) ?_
          refine RW.nil ?_
          refine CW.seq ?_
          refine CW.region ?_
          refine RW.p rfl rfl rfl (Yp.move rfl rfl) ?_
          refine RW.p rfl rfl rfl (Yp.move rfl rfl) ?_
          refine RW.p rfl rfl rfl (Yp.move rfl rfl) ?_
          obtain ⟨hc1, hm⟩ := chk hm
          refine RW.p rfl rfl rfl (Yp.indexSl rfl rfl rfl Try.underlying61 sz90 hc1) ?_
          refine RW.p rfl rfl rfl (Yp.loadFN rfl rfl many90 (Nat.le_of_ble_eq_true rfl)) ?_
          obtain ⟨x1, hx1, hm⟩ := bnd hm
          refine RW.c rfl rfl rfl (Yc.fnV (σp := [.box pb1_0 3 [.i p1_0], .box pb1_1 93 [.fn (.func 53) []]]) (args' := [.agg [.i ((p0[Int.toNat n3]!).fAt), .sl 1 (cN .u8) ((p0[Int.toNat n3]!).fData)], .lit (.pointer (some ⟨pb1_0, 0, none⟩)), .lit (.pointer (some ⟨pb1_1, 0, none⟩))]) rfl rfl ok57 rfl rfl rfl (VwL.id _) (m57_ok (p0[Int.toNat n3]!) p1_0 pb1_0 pb1_1 hx1)) ?_
          rintro _ _ ⟨_, ⟨rfl, rfl⟩, rfl⟩
          refine RW.nil ?_
          refine CW.cond rfl (fun hb2 => ?_) (fun hb2 => ?_)
          ·
            have hm := ift hm hb2
            refine CW.seq ?_
            refine CW.region ?_
            refine RW.p rfl rfl rfl (Yp.move rfl rfl) ?_
            refine RW.p rfl rfl rfl (Yp.assign rfl rfl) ?_
            refine RW.nil ?_
            refine CW.ret ?_
            cases hm
            have hm := hk2
            cases hm
            have hm := hk1
            cases hm
            exact fin1 (.inr rfl) rfl (ResIs.tmp rfl) (.cons_cons _ (.cons_cons _ (List.nil_sublist _))) ⟨rfl, rfl⟩
          ·
            have hm := iff' hm hb2
            refine CW.skip ?_
            refine CW.region ?_
            refine RW.p rfl rfl rfl (Yp.add rfl rfl rfl) ?_
            refine RW.p rfl rfl rfl (Yp.move rfl rfl) ?_
            refine RW.nil ?_
            exact ⟨k1, Nat.lt_succ_self _, _, (Sub.cons rfl (Sub.cons rfl (Sub.cons rfl (Sub.cons rfl Sub.nil)))), rfl, hm⟩
        ·
          have hm := iff' hm hb1
          refine CW.exit ?_
          cases hm
          have hm := hk2
          cases hm
          exact ⟨rfl, (Sub.cons rfl Sub.nil), rfl⟩
  ·
    rintro E σ ⟨rfl, hsub2, rfl⟩
    have hm := hk1
    refine CW.weak ?_ hsub2
    refine CW.seq ?_
    refine CW.region ?_
    refine RW.p rfl rfl rfl (Yp.assign rfl rfl) ?_
    refine RW.nil ?_
    refine CW.ret ?_
    cases hm
    exact fin1 (.inr rfl) rfl (ResIs.tmp rfl) (.cons_cons _ (.cons_cons _ (List.nil_sublist _))) ⟨rfl, rfl⟩

def m56 (p0 : List Write) (p1_0 : Int) : Option Bool :=
  (m65 p0 p1_0).bind fun x1 =>
  some (decide ((0 : Int) ≤ x1))

theorem m56_ok (p0 : List Write) (p1_0 : Int) (pb1_0 : Nat) (pb1_1 : Nat) {r : Bool} (hm : m56 p0 p1_0 = some r) : Ab.Fn Try.prog 56 [.sl 2 Write.cells p0, .fn (.func 57) [.lit (.pointer (some ⟨pb1_0, 0, none⟩)), .lit (.pointer (some ⟨pb1_1, 0, none⟩))]] [.box pb1_0 3 [.i p1_0], .box pb1_1 93 [.fn (.func 53) []]] (fun a s => a = .b r ∧ s = [.box pb1_0 3 [.i p1_0], .box pb1_1 93 [.fn (.func 53) []]]) := by
  rw [m56] at hm
  refine Ab.Fn.of Try.func56 rfl rfl rfl (fun C => ?_)
  refine CW.seq ?_
  refine CW.region ?_
  refine RW.p rfl rfl rfl (Yp.assign rfl rfl) ?_
  refine RW.nil ?_
  refine CW.seq ?_
  refine CW.region ?_
  refine RW.p rfl rfl rfl (Yp.move rfl rfl) ?_
  refine RW.p rfl rfl rfl (Yp.move rfl rfl) ?_
  obtain ⟨x1, hx1, hm⟩ := bnd hm
  refine RW.c rfl rfl rfl (Yc.fnV (σp := [.box pb1_0 3 [.i p1_0], .box pb1_1 93 [.fn (.func 53) []]]) (args' := [.sl 2 Write.cells p0, .fn (.func 57) [.lit (.pointer (some ⟨pb1_0, 0, none⟩)), .lit (.pointer (some ⟨pb1_1, 0, none⟩))]]) rfl rfl ok65 rfl rfl rfl (VwL.id _) (m65_ok p0 p1_0 pb1_0 pb1_1 hx1)) ?_
  rintro _ _ ⟨_, ⟨rfl, rfl⟩, rfl⟩
  refine RW.p rfl rfl rfl (Yp.geq rfl rfl rfl) ?_
  refine RW.p rfl rfl rfl (Yp.assign rfl rfl) ?_
  refine RW.nil ?_
  refine CW.ret ?_
  cases hm
  exact fin1 (.inr rfl) rfl (ResIs.tmp rfl) (.cons_cons _ (.cons_cons _ (List.nil_sublist _))) ⟨rfl, rfl⟩

def m45 (p0 : Disk) : Option Bool :=
  Option.bind (
    if (decide ((p0.fDurable.length : Int) < 1)) = true then
      some true
    else
      if (decide ((4096 : Int) < (p0.fDurable.length : Int))) = true then
        some true
      else
        some (decide ((8192 : Int) < (p0.fPending.length : Int)))) fun c1 =>
  if c1 = true then
    some false
  else
    (m54 p0.fDurable).bind fun x1 =>
    if x1 = true then
      some false
    else
      (m56 p0.fPending (p0.fDurable.length : Int)).bind fun x2 =>
      some (!x2)

theorem m45_ok (p0 : Disk)  {r : Bool} (hm : m45 p0 = some r) : Ab.Fn Try.prog 45 [.agg [.sl 1 (cL 1 (cN .u8)) p0.fDurable, .sl 2 Write.cells p0.fPending, .i p0.fLeft, .b p0.fDown]] [] (fun a s => a = .b r ∧ s = []) := by
  rw [m45] at hm
  refine Ab.Fn.of Try.func45 rfl rfl rfl (fun C => ?_)
  refine CW.seq ?_
  refine CW.region ?_
  refine RW.v rfl rfl rfl (Yv.box rfl rfl (Pw.p rfl)) ?_
  rintro _ _ ⟨b1, rfl, rfl⟩
  refine RW.p rfl rfl rfl (Yp.assign rfl rfl) ?_
  refine RW.nil ?_
  refine CW.seq ?_
  refine CW.region ?_
  refine RW.p rfl rfl rfl (Yp.fieldP rfl rfl Try.underlying63 rfl sz60) ?_
  refine RW.p rfl rfl rfl (Yp.loadB1 0 rfl rfl rfl one60 rfl) ?_
  refine RW.p rfl rfl rfl (Yp.lenSl rfl rfl Try.underlying60) ?_
  refine RW.v rfl rfl rfl (Yv.alloc rfl zerb3) ?_
  rintro _ _ ⟨b2, rfl, rfl⟩
  refine RW.u rfl rfl (Yu.storeB 0 rfl rfl rfl rfl sz3 (Pw.p rfl) rfl (Nat.le_of_ble_eq_true rfl)) ?_
  refine RW.nil ?_
  refine CW.seq ?_
  refine CW.seq ?_
  obtain ⟨c1, hs1, hk1⟩ := bnd hm
  refine CW.cut (fun E σ => Sub [(1, .lit (.pointer (some ⟨b1, 0, none⟩))), (3, .lit (.pointer (some ⟨b2, 0, none⟩))), (19, .b c1)] E ∧ σ = [.box b1 63 [.sl 1 (cL 1 (cN .u8)) p0.fDurable, .sl 2 Write.cells p0.fPending, .i p0.fLeft, .b p0.fDown], .box b2 3 [.i (p0.fDurable.length : Int)]]) ?_ ?_
  ·
    have hm := hs1
    refine CW.region ?_
    refine RW.p rfl rfl rfl (Yp.loadB1 0 rfl rfl rfl one3 rfl) ?_
    refine RW.p rfl rfl rfl (Yp.lss rfl rfl rfl) ?_
    refine RW.p rfl rfl rfl (Yp.move rfl rfl) ?_
    rcases Bool.eq_false_or_eq_true (decide ((p0.fDurable.length : Int) < 1)) with hb1 | hb1
    ·
      have hm := ift hm hb1
      refine RW.eqv 10 rfl (congrArg AV.b hb1) ?_
      refine RW.skip rfl rfl rfl ?_
      refine RW.skip rfl rfl rfl ?_
      refine RW.p rfl rfl rfl (Yp.pickT rfl rfl rfl) ?_
      refine RW.p rfl rfl rfl (Yp.move rfl rfl) ?_
      refine RW.skip rfl rfl rfl ?_
      refine RW.skip rfl rfl rfl ?_
      refine RW.skip rfl rfl rfl ?_
      refine RW.skip rfl rfl rfl ?_
      refine RW.p rfl rfl rfl (Yp.pickT rfl rfl rfl) ?_
      refine RW.sel [1, 0] rfl ?_
      refine RW.nil ?_
      cases hm
      exact ⟨(Sub.cons rfl (Sub.cons rfl (Sub.cons rfl Sub.nil))), rfl⟩
    ·
      have hm := iff' hm hb1
      refine RW.eqv 10 rfl (congrArg AV.b hb1) ?_
      refine RW.p rfl rfl rfl (Yp.loadB1 0 rfl rfl rfl one3 rfl) ?_
      refine RW.p rfl rfl rfl (Yp.gtr rfl rfl rfl) ?_
      refine RW.p rfl rfl rfl (Yp.pickF rfl rfl rfl) ?_
      refine RW.p rfl rfl rfl (Yp.move rfl rfl) ?_
      rcases Bool.eq_false_or_eq_true (decide ((4096 : Int) < (p0.fDurable.length : Int))) with hb2 | hb2
      ·
        have hm := ift hm hb2
        refine RW.eqv 14 rfl (congrArg AV.b hb2) ?_
        refine RW.skip rfl rfl rfl ?_
        refine RW.skip rfl rfl rfl ?_
        refine RW.skip rfl rfl rfl ?_
        refine RW.skip rfl rfl rfl ?_
        refine RW.p rfl rfl rfl (Yp.pickT rfl rfl rfl) ?_
        refine RW.sel [1, 0] rfl ?_
        refine RW.nil ?_
        cases hm
        exact ⟨(Sub.cons rfl (Sub.cons rfl (Sub.cons rfl Sub.nil))), rfl⟩
      ·
        have hm := iff' hm hb2
        refine RW.eqv 14 rfl (congrArg AV.b hb2) ?_
        refine RW.p rfl rfl rfl (Yp.fieldP rfl rfl Try.underlying63 rfl sz61) ?_
        refine RW.p rfl rfl rfl (Yp.loadB1 1 rfl rfl rfl one61 rfl) ?_
        refine RW.p rfl rfl rfl (Yp.lenSl rfl rfl Try.underlying61) ?_
        refine RW.p rfl rfl rfl (Yp.gtr rfl rfl rfl) ?_
        refine RW.p rfl rfl rfl (Yp.pickF rfl rfl rfl) ?_
        refine RW.sel [1, 0] rfl ?_
        refine RW.nil ?_
        cases hm
        exact ⟨(Sub.cons rfl (Sub.cons rfl (Sub.cons rfl Sub.nil))), rfl⟩
  ·
    rintro E σ ⟨hsub1, rfl⟩
    have hm := hk1
    refine CW.weak ?_ hsub1
    refine CW.cond rfl (fun hb3 => ?_) (fun hb3 => ?_)
    ·
      have hm := ift hm hb3
      refine CW.seq ?_
      refine CW.region ?_
      refine RW.p rfl rfl rfl (Yp.assign rfl rfl) ?_
      refine RW.nil ?_
      refine CW.ret ?_
      cases hm
      exact fin1 (.inr rfl) rfl (ResIs.tmp rfl) (List.nil_sublist _) ⟨rfl, rfl⟩
    ·
      have hm := iff' hm hb3
      refine CW.skip ?_
      refine CW.seq ?_
      refine CW.region ?_
      refine RW.v rfl rfl rfl (Yv.alloc rfl zerb93) ?_
      rintro _ _ ⟨b3, rfl, rfl⟩
      refine RW.u rfl rfl (Yu.storeB 0 rfl rfl rfl rfl sz93 (Pw.p rfl) rfl (Nat.le_of_ble_eq_true rfl)) ?_
      refine RW.nil ?_
      refine CW.seq ?_
      refine CW.seq ?_
      refine CW.region ?_
      refine RW.p rfl rfl rfl (Yp.fieldP rfl rfl Try.underlying63 rfl sz60) ?_
      refine RW.p rfl rfl rfl (Yp.loadB1 1 rfl rfl rfl one60 rfl) ?_
      refine RW.p rfl rfl rfl (Yp.func rfl rfl rfl) ?_
      obtain ⟨x1, hx1, hm⟩ := bnd hm
      refine RW.c rfl rfl rfl (Yc.fnV (σp := [.box b3 93 [.fn (.func 53) []]]) (args' := [.sl 1 (cL 1 (cN .u8)) p0.fDurable, .fn (.func 55) [.lit (.pointer (some ⟨b3, 0, none⟩))]]) rfl rfl ok54 rfl rfl rfl (VwL.id _) (m54_ok p0.fDurable b3 hx1)) ?_
      rintro _ _ ⟨_, ⟨rfl, rfl⟩, rfl⟩
      refine RW.nil ?_
      refine CW.cond rfl (fun hb4 => ?_) (fun hb4 => ?_)
      ·
        have hm := ift hm hb4
        refine CW.seq ?_
        refine CW.region ?_
        refine RW.p rfl rfl rfl (Yp.assign rfl rfl) ?_
        refine RW.nil ?_
        refine CW.ret ?_
        cases hm
        exact fin1 (.inr rfl) rfl (ResIs.tmp rfl) (List.nil_sublist _) ⟨rfl, rfl⟩
      ·
        have hm := iff' hm hb4
        refine CW.skip ?_
        refine CW.seq ?_
        refine CW.region ?_
        refine RW.p rfl rfl rfl (Yp.fieldP rfl rfl Try.underlying63 rfl sz61) ?_
        refine RW.p rfl rfl rfl (Yp.loadB1 1 rfl rfl rfl one61 rfl) ?_
        refine RW.p rfl rfl rfl (Yp.func rfl rfl rfl) ?_
        refine RW.sel [2, 0, 0] rfl ?_
        obtain ⟨x2, hx2, hm⟩ := bnd hm
        refine RW.c rfl rfl rfl (Yc.fnV (σp := [.box b2 3 [.i (p0.fDurable.length : Int)], .box b3 93 [.fn (.func 53) []]]) (args' := [.sl 2 Write.cells p0.fPending, .fn (.func 57) [.lit (.pointer (some ⟨b2, 0, none⟩)), .lit (.pointer (some ⟨b3, 0, none⟩))]]) rfl rfl ok56 rfl rfl rfl (VwL.id _) (m56_ok p0.fPending (p0.fDurable.length : Int) b2 b3 hx2)) ?_
        rintro _ _ ⟨_, ⟨rfl, rfl⟩, rfl⟩
        refine RW.p rfl rfl rfl (Yp.not rfl rfl) ?_
        refine RW.p rfl rfl rfl (Yp.assign rfl rfl) ?_
        refine RW.nil ?_
        refine CW.ret ?_
        cases hm
        exact fin1 (.inr rfl) rfl (ResIs.tmp rfl) (List.nil_sublist _) ⟨rfl, rfl⟩

def m60 (p0 : List Int) : Option (List Int) :=
  if (([] : List Int) ++ p0).length ≤ 1073741824 then
  some (([] : List Int) ++ p0)
  else none

theorem m60_ok (p0 : List Int)  {r : List Int} (hm : m60 p0 = some r) : Ab.Fn Try.prog 60 [.sl 1 (cN .u8) p0] [] (fun a s => a = .sl 1 (cN .u8) r ∧ s = []) := by
  rw [m60] at hm
  refine Ab.Fn.of Try.func60 rfl rfl rfl (fun C => ?_)
  refine CW.seq ?_
  refine CW.region ?_
  refine RW.p rfl rfl rfl (Yp.assign rfl rfl) ?_
  refine RW.nil ?_
  refine CW.seq ?_
  refine CW.seq ?_
  refine CW.region ?_
  refine RW.p rfl rfl rfl (Yp.move rfl rfl) ?_
  refine RW.nil? rfl rfl rfl (YpNil.sl rfl rfl rfl Try.underlying24) ?_
  rintro z1 hz1
  refine RW.nil ?_
  refine CW.cond rfl (fun hb1 => ?_) (fun hb1 => ?_)
  ·
    refine CW.seq ?_
    refine CW.region ?_
    refine RW.p rfl rfl rfl (Yp.assign rfl rfl) ?_
    refine RW.nil ?_
    refine CW.say 2 rfl (Vw.nil 1 (cN .u8)) ?_
    refine CW.ret ?_
    have hm : some [] = some r := by have h := hm; rw [hz1 hb1] at h; simpa using h
    cases hm
    exact fin1 (.inr rfl) rfl (ResIs.tmp rfl) (List.nil_sublist _) ⟨rfl, rfl⟩
  ·
    refine CW.skip ?_
    refine CW.seq ?_
    refine CW.region ?_
    refine RW.v rfl rfl rfl (Yv.lit0 (cN .u8) 1 rfl Try.underlying24 sz5) ?_
    rintro _ _ ⟨v1, rfl, rfl⟩
    refine RW.p rfl rfl rfl (Yp.move rfl rfl) ?_
    obtain ⟨hc1, hm⟩ := chk hm
    refine RW.v rfl rfl rfl (Yv.app (l := []) (l2 := p0) 0 rfl rfl rfl (.inr (.inl rfl)) Try.underlying24 szb5 zer5 rfl rfl (fun _ => rfl) hc1) ?_
    rintro _ _ ⟨v2, rfl, rfl⟩
    refine RW.p rfl rfl rfl (Yp.assign rfl rfl) ?_
    refine RW.nil ?_
    refine CW.frz 0 2 rfl rfl (Vw.row 0 rfl) ?_
    refine CW.ret ?_
    cases hm
    exact fin1 (.inr rfl) rfl (ResIs.tmp rfl) (List.nil_sublist _) ⟨rfl, rfl⟩


end Go.Proofs.YtgdahkddhecloaaD
end
section
set_option linter.unusedSectionVars false
set_option linter.unusedVariables false
set_option linter.unusedSimpArgs false
namespace Go.Proofs.YtgdahkddhecloaaD
open Go Go.RowKit Go.Shelf Go.Ab
attribute [local go_sem] Oper.semAt_some

theorem take_fin {n k : Nat} (h : k < n) : (List.finRange n).take (k + 1) = (List.finRange n).take k ++ [⟨k, h⟩] := by
  rw [List.take_add_one, List.getElem?_eq_getElem (by simpa using h), List.getElem_finRange]
  rfl

set_option maxRecDepth 100000 in
set_option maxHeartbeats 4000000 in
theorem back_in (l Bs o b off len cap n0 : Nat) (u : Nat → Nat → Value) (A : Nat → Prop) (hb : b < n0) (hAb : A b) (hB : Bs < n0) (hAB : A Bs) (hlen : len ≤ 9223372036854775807) (J Jx : List (Fin len) → World → Prop)
    (hY : ∀ pre (x : Fin len) W, J pre W → pre.length < len → YieldAt Fence.wide 0 Try.prog l #[.int .i64 ((len : Int) - 1 - (x.1 : Int)), .agg #[u (len - 1 - x.1) 0, u (len - 1 - x.1) 1]] W fun e W' =>
      (e = .returned (.bool true) ∧ J (pre ++ [x]) W' ∧ (∀ b, b < n0 → A b → W'.heap[b]? = W.heap[b]?)) ∨ (e = .returned (.bool false) ∧ Jx (pre ++ [x]) W'))
    (W : World) (hBs : W.cell? ⟨Bs, o, none⟩ = some (.slice (some ⟨b, off, none⟩) len cap)) (hc : ∀ i j, i < len → j < 2 → W.cell? ⟨b, off + i * 2 + j, none⟩ = some (u i j)) (h0 : J [] W) :
    CallsIn Fence.wide 1 Try.prog 66 #[.func (.yield l) #[] #[], .pointer (some ⟨Bs, o, none⟩)] W fun e W' => (∃ v, e = .returned v) ∧
      ((∃ xs, xs = List.finRange len ∧ J xs W') ∨ (∃ pre, pre <+: List.finRange len ∧ Jx pre W')) := by
  refine callsIn_of_wp Try.func66 rfl trivial ?_ rfl
  simp only [Try.ntmps66, List.size_toArray, List.length_cons, List.length_nil, Nat.reduceAdd, Nat.reduceSub, Array.replicate_succ, Array.replicate_zero, List.push_toArray, List.append_toArray, List.nil_append, List.cons_append]
  gi_wp2
  gi_loopw [3] (fun i wr => ∃ k : Nat, k ≤ len ∧ i = .int .i64 ((len : Int) - 1 - k) ∧ J ((List.finRange len).take k) wr ∧ (∀ b, b < n0 → A b → wr.heap[b]? = W.heap[b]?))
    (fun i _ => (intOf i + 1).toNat)
  case atStart => exact ⟨0, Nat.zero_le _, by simp, by simpa using h0, fun _ _ _ => rfl⟩
  case round =>
    obtain ⟨k, hk, rfl, hJs, hnx⟩ := hrel
    have hcB : wr.cell? ⟨Bs, o, none⟩ = some (.slice (some ⟨b, off, none⟩) len cap) := (World.cell?_of_block (hnx Bs hB hAB)).trans hBs
    have hcx : ∀ i j, i < len → j < 2 → wr.cell? ⟨b, off + i * 2 + j, none⟩ = some (u i j) := fun i j h1 h2 => (World.cell?_of_block (hnx b hb hAb)).trans (hc i j h1 h2)
    by_cases hlt : k < len
    · obtain ⟨fn, tmps, assign, body, hy, hR⟩ := hY _ ⟨k, hlt⟩ wr hJs (by simp; omega)
      dsimp only at hy
      have e0 : wr.cell? ⟨b, off + (len - 1 - k) * 2, none⟩ = some (u (len - 1 - k) 0) := hcx (len - 1 - k) 0 (by omega) (by omega)
      have e1 := hcx (len - 1 - k) 1 (by omega) (by omega)
      gi_wp2
      refine hR.mono ?_
      rintro e W3 (⟨rfl, hJ3, hk3⟩ | ⟨rfl, hJx3⟩)
      · gi_wp2
        go_roundw
        case rel => exact ⟨k + 1, by omega, by simp; omega, by rw [take_fin hlt]; exact hJ3, fun b' h1 h2 => (hk3 b' h1 h2).trans (hnx b' h1 h2)⟩
        case measure => simp [intOf]; omega
      · gi_wp2
        refine bodyPost_ret (results_none rfl _ _ _) rfl ?_
        exact ⟨⟨_, rfl⟩, .inr ⟨_, by rw [← take_fin hlt]; exact List.take_prefix _ _, hJx3⟩⟩
    · obtain rfl : k = len := by omega
      gi_wp2
      go_end0
      exact ⟨⟨_, rfl⟩, .inl ⟨_, rfl, by rwa [List.take_of_length_le (by simp)] at hJs⟩⟩

set_option maxRecDepth 100000 in
set_option maxHeartbeats 1000000 in
theorem back_nil (l Bs o cap : Nat) (p : Option Addr) (J : List (Fin 0) → World → Prop) (W : World) (hBs : W.cell? ⟨Bs, o, none⟩ = some (.slice p 0 cap)) (h0 : J [] W) :
    CallsIn Fence.wide 1 Try.prog 66 #[.func (.yield l) #[] #[], .pointer (some ⟨Bs, o, none⟩)] W fun e W' => (∃ v, e = .returned v) ∧ J [] W' := by
  refine callsIn_of_wp Try.func66 rfl trivial ?_ rfl
  simp only [Try.ntmps66, List.size_toArray, List.length_cons, List.length_nil, Nat.reduceAdd, Nat.reduceSub, Array.replicate_succ, Array.replicate_zero, List.push_toArray, List.append_toArray, List.nil_append, List.cons_append]
  gi_wp2
  gi_loopw [3] (fun i wr => i = .int .i64 (-1) ∧ J [] wr) (fun _ _ => 0)
  case atStart => exact ⟨by simp, h0⟩
  case round =>
    obtain ⟨rfl, hJs⟩ := hrel
    gi_wp2
    go_end0
    exact ⟨⟨_, rfl⟩, hJs⟩

def backEs (l : List Write) : List (List AV) := (List.range l.length).map fun (k : Nat) => [.i ((l.length : Int) - 1 - (k : Int)), .agg (Write.cells l[l.length - 1 - k]!)]
theorem backEs_len (l : List Write) : (backEs l).length = l.length := by simp [backEs]
theorem backEs_get (l : List Write) {k : Nat} (h : k < l.length) : (backEs l)[k]! = [.i ((l.length : Int) - 1 - (k : Int)), .agg (Write.cells l[l.length - 1 - k]!)] := by
  rw [getElem!_pos _ k (by rw [backEs_len]; exact h)]
  simp [backEs]

theorem back_iter (l : List Write) : Iter Try.prog 66 [.fp [.sl 2 Write.cells l]] (backEs l) := fun A w lb hlb => by
  obtain ⟨v, hv1, hv2⟩ := hlb.get (j := 0) rfl
  obtain rfl : lb = [v] := by
    have := hlb.1
    cases lb with
    | nil => cases hv1
    | cons x xs =>
      cases xs with
      | nil => simp at hv1; rw [hv1]
      | cons y ys => simp at this
  obtain ⟨Bs, o, us, rfl, hB, hAB, hcs, hus⟩ := hv2.fpInv
  obtain ⟨sv, hs1, hs2⟩ := hus.get (j := 0) rfl
  have hcB := hcs 0 sv hs1
  rw [Nat.add_zero] at hcB
  obtain ⟨p, cap, u, rfl, hl, hcap, hz, hc, hr⟩ := hs2.slInv
  have hE := backEs_len l
  obtain ⟨vs, hvs⟩ : ∃ vs : List (List Value), vs = (List.range l.length).map fun (k : Nat) => [.int .i64 ((l.length : Int) - 1 - (k : Int)), .agg #[u (l.length - 1 - k) 0, u (l.length - 1 - k) 1]] := ⟨_, rfl⟩
  have hget : ∀ k, k < l.length → vs[k]! = [.int .i64 ((l.length : Int) - 1 - (k : Int)), .agg #[u (l.length - 1 - k) 0, u (l.length - 1 - k) 1]] := fun k hk => by
    subst hvs
    rw [getElem!_pos _ k (by simpa using hk)]
    simp
  refine ⟨vs, by subst hvs; simp [backEs], fun i hi => ?_, ?_⟩
  · rw [hE] at hi
    rw [backEs_get l hi, hget i hi]
    refine ⟨rfl, fun j a v h1 h2 => ?_⟩
    match j with
    | 0 => cases h1; cases h2; exact .lit _
    | 1 =>
      cases h1; cases h2
      refine .agg _ [u (l.length - 1 - i) 0, u (l.length - 1 - i) 1] rfl fun j a v h1 h2 => ?_
      match j with
      | 0 => cases h2; exact hr _ 0 a (by omega) h1
      | 1 => cases h2; exact hr _ 1 a (by omega) h1
      | j + 2 => cases h2
    | j + 2 => cases h1
  · have henc : (fun i : Fin (backEs l).length => (vs[i.1]!).toArray) = fun x => #[.int .i64 (((backEs l).length : Int) - 1 - (x.1 : Int)), .agg #[u ((backEs l).length - 1 - x.1) 0, u ((backEs l).length - 1 - x.1) 1]] := funext fun x => by
      have hx := x.2
      rw [hget x.1 (by omega)]
      simp [hE]
    rw [henc]
    intro lp J Jx W hW _ _ hY h0
    have hblk : ∀ b, b < w.heap.size → W.heap[b]? = w.heap[b]? := fun b hb => hW.block b hb
    have hcB' : W.cell? ⟨Bs, o, none⟩ = some (.slice p (backEs l).length cap) := by rw [World.cell?_of_block (hblk Bs hB), hE]; exact hcB
    by_cases h0l : l.length = 0
    · obtain rfl : l = [] := List.length_eq_zero_iff.1 h0l
      exact (back_nil lp Bs o cap p J W hcB' h0).mono fun e W' h => ⟨h.1, .inl ⟨[], rfl, h.2⟩⟩
    · obtain ⟨b, off, rfl, hb, hAb, hcell⟩ := hc 0 (by omega)
      refine (back_in lp Bs o b off (backEs l).length cap w.heap.size u A hb hAb hB hAB (by omega) J Jx hY W hcB' (fun i j h1 h2 => ?_) h0).mono fun e W' h => h
      obtain ⟨b', off', e1, _, _, h4⟩ := hc i (by omega)
      cases e1
      rw [World.cell?_of_block (hblk b hb)]
      exact h4 j h2
end Go.Proofs.YtgdahkddhecloaaD
end
section
set_option linter.unusedSectionVars false
set_option linter.unusedVariables false
set_option linter.unusedSimpArgs false
namespace Go.Proofs.YtgdahkddhecloaaD
open Go Go.RowKit Go.Ab Go.Proofs

theorem find_some (l : List Write) (q : Write → Bool) (i : Nat) (hi : i < l.length) (h1 : ∀ j, j < i → q l[l.length - 1 - j]! = false) (h2 : q l[l.length - 1 - i]! = true) : l.reverse.find? q = some l[l.length - 1 - i]! := by
  rw [List.find?_eq_some_iff_getElem]
  refine ⟨h2, i, by simpa using hi, ?_, fun j hj => ?_⟩
  · rw [List.getElem_reverse, getElem!_pos l _ (by omega)]
  · have := h1 j hj
    rw [getElem!_pos l _ (by omega)] at this
    rw [List.getElem_reverse, this]; rfl
theorem find_none (l : List Write) (q : Write → Bool) (h1 : ∀ j, j < l.length → q l[l.length - 1 - j]! = false) : l.reverse.find? q = none := by
  rw [List.find?_eq_none]
  intro x hx
  rw [List.mem_reverse] at hx
  obtain ⟨k, hk, rfl⟩ := List.getElem_of_mem hx
  have := h1 (l.length - 1 - k) (by omega)
  rw [show l.length - 1 - (l.length - 1 - k) = k from by omega, getElem!_pos l _ hk] at this
  simp [this]

theorem ok62 : fnOk Try.prog 62 := ⟨_, Try.func62, by kernel_rfl, rfl⟩
theorem zerb24 : (Try.prog.info? 24).bind (fun i => i.zero.map (·.cells)) = some ([.slice none 0 0] : List Value).toArray := by kernel_rfl
theorem zerb26 : (Try.prog.info? 26).bind (fun i => i.zero.map (·.cells)) = some ([.int .i64 0] : List Value).toArray := by kernel_rfl

theorem m62_ok (p0 : List Write) : Ab.Fn Try.prog 62 [.sl 2 Write.cells p0] [] (fun a s => a = .fn (.func 66) [.fp [.sl 2 Write.cells p0]] ∧ s = []) := by
  refine Ab.Fn.of Try.func62 rfl rfl rfl (fun C => ?_)
  refine CW.seq ?_
  refine CW.region ?_
  refine RW.v rfl rfl rfl (Yv.box rfl rfl (Pw.p rfl)) ?_
  rintro _ _ ⟨b1, rfl, rfl⟩
  refine RW.p rfl rfl rfl (Yp.assign rfl rfl) ?_
  refine RW.nil ?_
  refine CW.seq ?_
  refine CW.region ?_
  refine RW.p rfl rfl rfl (Yp.func rfl rfl rfl) ?_
  refine RW.p rfl rfl rfl (Yp.assign rfl rfl) ?_
  refine RW.nil ?_
  refine CW.frz 0 2 rfl rfl (Vw.fn (VwL.cons (Vw.box 0 rfl) VwL.nil)) ?_
  refine CW.ret ?_
  exact fin1 (.inr rfl) rfl (ResIs.tmp rfl) (List.nil_sublist _) ⟨rfl, rfl⟩

def m48 (p0 : Disk) (p1 : Int) : Option (List Int × Int) :=
  (m45 p0).bind fun x1 =>
  if (!x1) = true then some ([], 1)
  else if (decide (p1 < 0) || decide ((p0.fDurable.length : Int) ≤ p1)) = true then some ([], 3)
  else if p0.fDown = true then some ([], 17)
  else if p0.fPending.all (fun w => (m60 w.fData).isSome) = true then
    match p0.fPending.reverse.find? (fun w => decide (w.fAt = p1)) with
    | some w => (m60 w.fData).bind fun x => some (x, 0)
    | none => (m60 p0.fDurable[p1.toNat]!).bind fun x => some (x, 0)
  else none

set_option maxHeartbeats 2000000 in
theorem m48_ok (p0 : Disk) (p1 : Int) {r : List Int × Int} (hm : m48 p0 p1 = some r) : Ab.Fn Try.prog 48 [.agg [.sl 1 (cL 1 (cN .u8)) p0.fDurable, .sl 2 Write.cells p0.fPending, .i p0.fLeft, .b p0.fDown], .i p1] [] (fun a s => a = .tup [.sl 1 (cN .u8) r.1, .i r.2] ∧ s = []) := by
  rw [m48] at hm
  refine Ab.Fn.of Try.func48 rfl rfl rfl (fun C => ?_)
  refine CW.seq ?_
  refine CW.region ?_
  refine RW.v rfl rfl rfl (Yv.box rfl rfl (Pw.p rfl)) ?_
  rintro _ _ ⟨b1, rfl, rfl⟩
  refine RW.v rfl rfl rfl (Yv.box rfl rfl (Pw.p rfl)) ?_
  rintro _ _ ⟨b2, rfl, rfl⟩
  refine RW.v rfl rfl rfl (Yv.alloc rfl zerb24) ?_
  rintro _ _ ⟨b3, rfl, rfl⟩
  refine RW.v rfl rfl rfl (Yv.alloc rfl zerb26) ?_
  rintro _ _ ⟨b4, rfl, rfl⟩
  refine RW.nil ?_
  obtain ⟨x1, hx1, hm⟩ := bnd hm
  refine CW.seq ?_
  refine CW.block ?_
  refine CW.seq ?_
  refine CW.region ?_
  refine RW.p rfl rfl rfl (Yp.loadBN 3 rfl rfl rfl many63 (Nat.le_of_ble_eq_true rfl)) ?_
  refine RW.c rfl rfl rfl (Yc.fnV (σp := []) (args' := [.agg [.sl 1 (cL 1 (cN .u8)) p0.fDurable, .sl 2 Write.cells p0.fPending, .i p0.fLeft, .b p0.fDown]]) rfl rfl ok45 rfl rfl rfl (VwL.id _) (m45_ok p0 hx1)) ?_
  rintro _ _ ⟨_, ⟨rfl, rfl⟩, rfl⟩
  refine RW.p rfl rfl rfl (Yp.not rfl rfl) ?_
  refine RW.p rfl rfl rfl (Yp.assign rfl rfl) ?_
  refine RW.nil ?_
  refine CW.cond rfl (fun hb1 => ?_) (fun hb1 => ?_)
  · have hm := ift hm hb1
    refine CW.seq ?_
    refine CW.region ?_
    refine RW.u rfl rfl (Yu.storeB 1 rfl rfl rfl rfl sz24 (Pw.p rfl) rfl (Nat.le_of_ble_eq_true rfl)) ?_
    refine RW.u rfl rfl (Yu.storeB 0 rfl rfl rfl rfl sz26 (Pw.p rfl) rfl (Nat.le_of_ble_eq_true rfl)) ?_
    refine RW.nil ?_
    refine CW.sayB 1 rfl (VwL.cons (Vw.nil 1 (cN .u8)) VwL.nil) ?_
    refine CW.ret ?_
    cases hm
    exact fin2 (.inr rfl) rfl (ResIs.cell1 1 rfl rfl one24 rfl) (ResIs.cell1 0 rfl rfl one26 rfl) (List.nil_sublist _) ⟨rfl, rfl⟩
  have hm := iff' hm hb1
  refine CW.seq ?_
  refine CW.region ?_
  refine RW.p rfl rfl rfl (Yp.loadB1 2 rfl rfl rfl one3 rfl) ?_
  refine RW.p rfl rfl rfl (Yp.lss rfl rfl rfl) ?_
  refine RW.p rfl rfl rfl (Yp.move rfl rfl) ?_
  have fin3 : (decide (p1 < 0) || decide ((p0.fDurable.length : Int) ≤ p1)) = true → some (([] : List Int), (3 : Int)) = some r := fun h => ift hm h
  rcases Bool.eq_false_or_eq_true (decide (p1 < 0)) with hb2 | hb2
  · refine RW.eqv 15 rfl (congrArg AV.b hb2) ?_
    refine RW.skip rfl rfl rfl ?_
    refine RW.skip rfl rfl rfl ?_
    refine RW.skip rfl rfl rfl ?_
    refine RW.skip rfl rfl rfl ?_
    refine RW.skip rfl rfl rfl ?_
    refine RW.p rfl rfl rfl (Yp.pickT rfl rfl rfl) ?_
    refine RW.p rfl rfl rfl (Yp.assign rfl rfl) ?_
    refine RW.nil ?_
    refine CW.condT rfl ?_
    have hm := fin3 (by rw [hb2]; rfl)
    refine CW.seq ?_
    refine CW.region ?_
    refine RW.u rfl rfl (Yu.storeB 1 rfl rfl rfl rfl sz24 (Pw.p rfl) rfl (Nat.le_of_ble_eq_true rfl)) ?_
    refine RW.u rfl rfl (Yu.storeB 0 rfl rfl rfl rfl sz26 (Pw.p rfl) rfl (Nat.le_of_ble_eq_true rfl)) ?_
    refine RW.nil ?_
    refine CW.sayB 1 rfl (VwL.cons (Vw.nil 1 (cN .u8)) VwL.nil) ?_
    refine CW.ret ?_
    cases hm
    exact fin2 (.inr rfl) rfl (ResIs.cell1 1 rfl rfl one24 rfl) (ResIs.cell1 0 rfl rfl one26 rfl) (List.nil_sublist _) ⟨rfl, rfl⟩
  refine RW.eqv 15 rfl (congrArg AV.b hb2) ?_
  refine RW.p rfl rfl rfl (Yp.loadB1 2 rfl rfl rfl one3 rfl) ?_
  refine RW.p rfl rfl rfl (Yp.fieldP rfl rfl Try.underlying63 rfl sz60) ?_
  refine RW.p rfl rfl rfl (Yp.loadB1 3 rfl rfl rfl one60 rfl) ?_
  refine RW.p rfl rfl rfl (Yp.lenSl rfl rfl Try.underlying60) ?_
  refine RW.p rfl rfl rfl (Yp.geq rfl rfl rfl) ?_
  refine RW.p rfl rfl rfl (Yp.pickF rfl rfl rfl) ?_
  refine RW.p rfl rfl rfl (Yp.assign rfl rfl) ?_
  refine RW.nil ?_
  refine CW.cond rfl (fun hb3 => ?_) (fun hb3 => ?_)
  · have hm := fin3 (by rw [hb3]; simp)
    refine CW.seq ?_
    refine CW.region ?_
    refine RW.u rfl rfl (Yu.storeB 1 rfl rfl rfl rfl sz24 (Pw.p rfl) rfl (Nat.le_of_ble_eq_true rfl)) ?_
    refine RW.u rfl rfl (Yu.storeB 0 rfl rfl rfl rfl sz26 (Pw.p rfl) rfl (Nat.le_of_ble_eq_true rfl)) ?_
    refine RW.nil ?_
    refine CW.sayB 1 rfl (VwL.cons (Vw.nil 1 (cN .u8)) VwL.nil) ?_
    refine CW.ret ?_
    cases hm
    exact fin2 (.inr rfl) rfl (ResIs.cell1 1 rfl rfl one24 rfl) (ResIs.cell1 0 rfl rfl one26 rfl) (List.nil_sublist _) ⟨rfl, rfl⟩
  have hm := iff' hm (show (decide (p1 < 0) || decide ((p0.fDurable.length : Int) ≤ p1)) = false from by rw [hb2, hb3]; rfl)
  refine CW.seq ?_
  refine CW.region ?_
  refine RW.p rfl rfl rfl (Yp.fieldP rfl rfl Try.underlying63 rfl sz4) ?_
  refine RW.p rfl rfl rfl (Yp.loadB1 3 rfl rfl rfl one4 rfl) ?_
  refine RW.p rfl rfl rfl (Yp.assign rfl rfl) ?_
  refine RW.nil ?_
  refine CW.cond rfl (fun hb4 => ?_) (fun hb4 => ?_)
  · have hm := ift hm hb4
    refine CW.seq ?_
    refine CW.region ?_
    refine RW.u rfl rfl (Yu.storeB 1 rfl rfl rfl rfl sz24 (Pw.p rfl) rfl (Nat.le_of_ble_eq_true rfl)) ?_
    refine RW.u rfl rfl (Yu.storeB 0 rfl rfl rfl rfl sz26 (Pw.p rfl) rfl (Nat.le_of_ble_eq_true rfl)) ?_
    refine RW.nil ?_
    refine CW.sayB 1 rfl (VwL.cons (Vw.nil 1 (cN .u8)) VwL.nil) ?_
    refine CW.ret ?_
    cases hm
    exact fin2 (.inr rfl) rfl (ResIs.cell1 1 rfl rfl one24 rfl) (ResIs.cell1 0 rfl rfl one26 rfl) (List.nil_sublist _) ⟨rfl, rfl⟩
  have hm := iff' hm hb4
  obtain ⟨hall, hm⟩ := chk hm
  refine CW.skip ?_
  refine CW.seq ?_
  refine CW.seq ?_
  refine CW.region ?_
  refine RW.p rfl rfl rfl (Yp.fieldP rfl rfl Try.underlying63 rfl sz61) ?_
  refine RW.p rfl rfl rfl (Yp.loadB1 3 rfl rfl rfl one61 rfl) ?_
  refine RW.c rfl rfl rfl (Yc.fnV (σp := []) (args' := [.sl 2 Write.cells p0.fPending]) rfl rfl ok62 rfl rfl rfl (VwL.id _) (m62_ok p0.fPending)) ?_
  rintro _ _ ⟨_, ⟨rfl, rfl⟩, rfl⟩
  refine RW.nil ?_
  refine CW.block ?_
  have hN := backEs_len p0.fPending
  obtain ⟨it, hit⟩ : ∃ it : Nat → Write, it = fun i => p0.fPending[p0.fPending.length - 1 - i]! := ⟨_, rfl⟩
  have hes : ∀ i, i < (backEs p0.fPending).length → (backEs p0.fPending)[i]! = [.i ((p0.fPending.length : Int) - 1 - (i : Int)), .agg (Write.cells (it i))] := fun i hi => by rw [backEs_get _ (by omega), hit]
  refine CW.rf (gf := 66) (caps := [.fp [.sl 2 Write.cells p0.fPending]]) (es := backEs p0.fPending)
    (fun s => s = [.box b4 26 [.i 0], .box b3 24 [.lit (.slice none 0 0)], .box b2 3 [.i p1], .box b1 63 [.sl 1 (cL 1 (cN .u8)) p0.fDurable, .sl 2 Write.cells p0.fPending, .i p0.fLeft, .b p0.fDown]])
    (fun i s => ∃ x, m60 (it i).fData = some x ∧ s = [.box b4 26 [.i 0], .box b3 24 [.sl 1 (cN .u8) x], .box b2 3 [.i p1], .box b1 63 [.sl 1 (cL 1 (cN .u8)) p0.fDurable, .sl 2 Write.cells p0.fPending, .i p0.fLeft, .b p0.fDown]])
    (fun i => decide ((it i).fAt = p1))
    (fun i E s => ∃ b7, Sub [(2, .lit (.pointer (some ⟨b1, 0, none⟩))), (3, .lit (.pointer (some ⟨b2, 0, none⟩))), (4, .lit (.pointer (some ⟨b3, 0, none⟩))), (5, .lit (.pointer (some ⟨b4, 0, none⟩))), (7, .lit (.pointer (some ⟨b7, 0, none⟩)))] E ∧
      s = [.box b7 90 (Write.cells (it i)), .box b4 26 [.i 0], .box b3 24 [.lit (.slice none 0 0)], .box b2 3 [.i p1], .box b1 63 [.sl 1 (cL 1 (cN .u8)) p0.fDurable, .sl 2 Write.cells p0.fPending, .i p0.fLeft, .b p0.fDown]])
    rfl (enters_of Try.func66 (by kernel_rfl) rfl) (back_iter _) (fun i hi => by rw [hes i hi]; rfl) (by decide) rfl ?_ ?_ ?_ ?_
  · rintro C' i _ hi rfl
    rw [hes i hi]
    refine CWR.region rfl ?_
    refine RW.v rfl rfl rfl (Yv.alloc rfl zerb90) ?_
    rintro _ _ ⟨b7, rfl, rfl⟩
    refine RW.u rfl rfl (Yu.storeB 0 rfl rfl rfl rfl sz90 (Pw.p rfl) rfl (Nat.le_of_ble_eq_true rfl)) ?_
    refine RW.nil ?_
    exact ⟨rfl, ⟨b7, Sub.cons rfl (Sub.cons rfl (Sub.cons rfl (Sub.cons rfl (Sub.cons rfl Sub.nil)))), rfl⟩, _, rfl, List.sublist_cons_self _ _⟩
  · rintro C' i E1 _ hi ⟨b7, hs, rfl⟩
    refine CWR.weak ?_ hs
    refine CWR.block ?_
    refine CWR.seq ?_
    refine CWR.region rfl ?_
    refine RW.p rfl rfl rfl (Yp.fieldP rfl rfl Try.underlying90 rfl sz3) ?_
    refine RW.p rfl rfl rfl (Yp.loadB1 0 rfl rfl rfl one3 rfl) ?_
    refine RW.p rfl rfl rfl (Yp.loadB1 3 rfl rfl rfl one3 rfl) ?_
    refine RW.p rfl rfl rfl (Yp.eql rfl rfl rfl) ?_
    refine RW.nil ?_
    refine CWR.cond rfl (fun hb5 => ?_) (fun hb5 => ?_)
    · have hx : (m60 (it i).fData).isSome = true := by
        rw [hit]
        rw [List.all_eq_true] at hall
        refine hall _ ?_
        show p0.fPending[p0.fPending.length - 1 - i]! ∈ _
        rw [getElem!_pos _ _ (by omega)]
        exact List.getElem_mem _
      obtain ⟨x, hx⟩ := Option.isSome_iff_exists.1 hx
      refine CWR.seq ?_
      refine CWR.region rfl ?_
      refine RW.p rfl rfl rfl (Yp.fieldP rfl rfl Try.underlying90 rfl sz24) ?_
      refine RW.p rfl rfl rfl (Yp.loadB1 0 rfl rfl rfl one24 rfl) ?_
      refine RW.c rfl rfl rfl (Yc.fnV (σp := []) (args' := [.sl 1 (cN .u8) (it i).fData]) rfl rfl ok60 rfl rfl rfl (VwL.id _) (m60_ok (it i).fData hx)) ?_
      rintro _ _ ⟨_, ⟨rfl, rfl⟩, rfl⟩
      refine RW.u rfl rfl (Yu.storeB 2 rfl rfl rfl rfl sz24 (Pw.p rfl) rfl (Nat.le_of_ble_eq_true rfl)) ?_
      refine RW.u rfl rfl (Yu.storeB 1 rfl rfl rfl rfl sz26 (Pw.p rfl) rfl (Nat.le_of_ble_eq_true rfl)) ?_
      refine RW.nil ?_
      refine CWR.ret ?_
      exact .inr ⟨rfl, hb5, _, ⟨x, hx, rfl⟩, List.sublist_cons_self _ _⟩
    · refine CWR.skip ?_
      exact .inl ⟨rfl, hb5, _, rfl, List.sublist_cons_self _ _⟩
  · rintro _ rfl hp
    have hfind := find_none p0.fPending (fun w => decide (w.fAt = p1)) (fun j hj => by have := hp j (by omega); rw [hit] at this; exact this)
    rw [hfind] at hm
    obtain ⟨x, hx, hm⟩ := bnd hm
    refine CW.seq ?_
    refine CW.region ?_
    refine RW.p rfl rfl rfl (Yp.fieldP rfl rfl Try.underlying63 rfl sz60) ?_
    refine RW.p rfl rfl rfl (Yp.loadB1 3 rfl rfl rfl one60 rfl) ?_
    refine RW.p rfl rfl rfl (Yp.loadB1 2 rfl rfl rfl one3 rfl) ?_
    have hc1 : 0 ≤ p1 ∧ p1 < (p0.fDurable.length : Int) := ⟨by simpa using hb2, by simpa using hb3⟩
    refine RW.p rfl rfl rfl (Yp.indexSl rfl rfl rfl Try.underlying60 sz24 hc1) ?_
    refine RW.p rfl rfl rfl (Yp.loadF1 rfl rfl one24 rfl) ?_
    refine RW.c rfl rfl rfl (Yc.fnV (σp := []) (args' := [.sl 1 (cN .u8) p0.fDurable[p1.toNat]!]) rfl rfl ok60 rfl rfl rfl (VwL.id _) (m60_ok _ hx)) ?_
    rintro _ _ ⟨_, ⟨rfl, rfl⟩, rfl⟩
    refine RW.u rfl rfl (Yu.storeB 1 rfl rfl rfl rfl sz24 (Pw.p rfl) rfl (Nat.le_of_ble_eq_true rfl)) ?_
    refine RW.u rfl rfl (Yu.storeB 0 rfl rfl rfl rfl sz26 (Pw.p rfl) rfl (Nat.le_of_ble_eq_true rfl)) ?_
    refine RW.nil ?_
    refine CW.ret ?_
    cases hm
    exact fin2 (.inr rfl) rfl (ResIs.cell1 1 rfl rfl one24 rfl) (ResIs.cell1 0 rfl rfl one26 rfl) (List.nil_sublist _) ⟨rfl, rfl⟩
  · rintro i _ hi hp1 hp2 ⟨x, hx, rfl⟩
    have hfind := find_some p0.fPending (fun w => decide (w.fAt = p1)) i (by omega) (fun j hj => by have := hp1 j hj; rw [hit] at this; exact this) (by have := hp2; rw [hit] at this; exact this)
    rw [hfind] at hm
    have hx' : m60 p0.fPending[p0.fPending.length - 1 - i]!.fData = some x := by rw [hit] at hx; exact hx
    simp only [hx', Option.bind_some] at hm
    cases hm
    exact fin2 (.inr rfl) rfl (ResIs.cell1 1 rfl rfl one24 rfl) (ResIs.cell1 0 rfl rfl one26 rfl) (List.nil_sublist _) ⟨rfl, rfl⟩
end Go.Proofs.YtgdahkddhecloaaD
end
section
set_option linter.unusedSectionVars false
set_option linter.unusedVariables false
set_option linter.unusedSimpArgs false
set_option maxRecDepth 100000
namespace Go.Proofs.Ytgdahkddhecloaa
open Go Go.Iv
def toW (w : Write) : YtgdahkddhecloaaD.Write := ⟨w.fAt, w.fData⟩
def toD (d : Disk) : YtgdahkddhecloaaD.Disk := ⟨d.fDurable, d.fPending.map toW, d.fLeft, d.fDown⟩
theorem br_bytes (l : List Int) : Br (.sl 5 l) (.sl 1 (Ab.cN .u8) l) := Br.sl (t := 5) (l := l) (l' := l) rfl fun i _ => BrL.cons (.lit _) .nil
theorem br_rows (l : List (List Int)) : Br (.sl 24 l) (.sl 1 (Ab.cL 1 (Ab.cN .u8)) l) := Br.sl (t := 24) (l := l) (l' := l) rfl fun i _ => BrL.cons (br_bytes _) .nil
theorem mapW (l : List Write) (i : Nat) (hi : i < l.length) : (l.map toW)[i]! = toW l[i]! := by
  rw [getElem!_pos (l.map toW) i (by simpa using hi), getElem!_pos l i hi, List.getElem_map]
theorem lenW (l : List Write) : l.length = (l.map toW).length := by simp
theorem br_writes (l : List Write) : Br (.sl 90 l) (.sl 2 YtgdahkddhecloaaD.Write.cells (l.map toW)) := Br.sl (t := 90) (l := l) (l' := l.map toW) (lenW l) fun i hi => by
  rw [mapW l i hi]
  exact BrL.cons (.lit _) (BrL.cons (br_bytes _) .nil)
theorem br_disk (d : Disk) : Br (.agg (uni.cells 63 d)) (.agg [.sl 1 (Ab.cL 1 (Ab.cN .u8)) (toD d).fDurable, .sl 2 YtgdahkddhecloaaD.Write.cells (toD d).fPending, .i (toD d).fLeft, .b (toD d).fDown]) :=
  Br.agg (BrL.cons (br_rows _) (BrL.cons (br_writes _) (BrL.cons (.lit _) (BrL.cons (.lit _) .nil))))
theorem subs_id {xs : List AV} (h : xs.all (cloB 2) = true) (ρ : Gh) : xs.map (AVq.sub ρ) = xs := by
  have : xs.map (AVq.sub ρ) = xs.map id := List.map_congr_left fun c hc => cloB_sub 2 (List.all_eq_true.1 h c hc)
  rw [this, List.map_id]
def E48 : Type := List Int × Int
def m48 (d : Disk) (n : Int) : Option (List Int × Int) := YtgdahkddhecloaaD.m48 (toD d) n
def o48 (r : List Int × Int) : Out := ⟨.tup [.sl 5 r.1, .n .i64 r.2], [], 0⟩
theorem fn48 (d : Disk) (n : Int) (r : List Int × Int) (h : m48 d n = some r) : FnY Try.prog 48 [.agg (uni.cells 63 d), .n .i64 n] [] 0 (o48 r) :=
  fnY_ofFn (Fn.ofAb (YtgdahkddhecloaaD.m48_ok (toD d) n h) (BrL.cons (br_disk d) (BrL.cons (.lit _) .nil)) (Br.tup (BrL.cons (br_bytes _) (BrL.cons (.lit _) .nil)))) (subs_id (by kernel_rfl)) (fun ρ => cloB_sub 2 (by kernel_rfl))
theorem fnok48 : fnOk Try.prog 48 := ⟨_, Try.func48, by kernel_rfl, by kernel_rfl⟩
noncomputable def e48 (F : Orc) : Orc := orY 48 0 (qy0 (pkC (asGc 63) (pkC (asI .i64) pkN))) (fun g => m48 g.1 g.2.1 : (Disk × Int × Unit) → Option (List Int × Int)) o48 F
theorem e48_ok {F : Orc} (h : OrcG Try.prog F) : OrcG Try.prog (e48 F) := orY_g h fnok48 (qy0_ok (ca := fun g => [.agg (uni.cells 63 g.1), .n .i64 g.2.1]) ((.cons (.g 63) (.cons (.i _) .nil)) : PkN (pkC (asGc 63) (pkC (asI .i64) pkN)) _)) (fun b => by kernel_rfl) (fun g b hb => fn48 g.1 g.2.1 b hb)
theorem t7 : callN Try.prog (e48 or0) (fun f => Nat.beq f 48) 300 60 Bool 7 [] [] 0 (kRes asB) = some true := by kernel_rfl
theorem fy7 : FnY Try.prog 7 [] [] 0 ⟨.b true, [], 0⟩ := fnY_ofFn (fn_run (callN_ok (e48_ok or0_g).ok (e48_ok or0_g).nat 300 60) P0.b rfl (fun d hd => by cases hd) t7).2 (fun _ => rfl) (fun ρ => cloB_sub 2 (by kernel_rfl))
end Go.Proofs.Ytgdahkddhecloaa
end
section
set_option linter.unusedSectionVars false
set_option linter.unusedVariables false
set_option linter.unusedSimpArgs false
namespace Go.Proofs.YtgdahkddhecloaaD
open Go.RowKit Go.Ab

def m58_1_l1 (p0 : Disk) : Nat → (List (List Int)) → Int → Option (List (List Int))
  | 0, _, _ => none
  | k1 + 1, l4, n3 =>
    if (decide (n3 < (p0.fDurable.length : Int))) = true then
      Option.bind (
        if 0 ≤ n3 ∧ n3 < (p0.fDurable.length : Int) then
        (m60 (p0.fDurable[Int.toNat n3]!)).bind fun x1 =>
        if (l4 ++ [x1]).length ≤ 1073741824 then
        some (l4 ++ [x1])
        else none
        else none) fun l6 =>
      m58_1_l1 p0 k1 l6 (w64 (n3 + 1))
    else
      some l4
def m58_1_l2 (p0 : Disk) : Nat → (List Write) → Int → Option (List Write)
  | 0, _, _ => none
  | k2 + 1, l10, n6 =>
    if (decide (n6 < (p0.fPending.length : Int))) = true then
      Option.bind (
        if 0 ≤ n6 ∧ n6 < (p0.fPending.length : Int) then
        (m60 ((p0.fPending[Int.toNat n6]!).fData)).bind fun x2 =>
        if (l10 ++ [(Write.mk ((p0.fPending[Int.toNat n6]!).fAt) x2)]).length ≤ 1073741824 then
        some (l10 ++ [(Write.mk ((p0.fPending[Int.toNat n6]!).fAt) x2)])
        else none
        else none) fun l12 =>
      m58_1_l2 p0 k2 l12 (w64 (n6 + 1))
    else
      some l10
def m58_1 (p0 : Disk) : Option Disk :=
  Option.bind (
    (m58_1_l1 p0 (Int.toNat (p0.fDurable.length : Int) + 1) [] 0).bind fun l5 =>
    some l5) fun l1 =>
  Option.bind (
    (m58_1_l2 p0 (Int.toNat (p0.fPending.length : Int) + 1) [] 0).bind fun l11 =>
    some l11) fun l7 =>
  some (Disk.mk l1 l7 p0.fLeft p0.fDown)

set_option maxHeartbeats 4000000 in
theorem m58_1_ok (p0 : Disk)  {r : Disk} (hm : m58_1 p0 = some r) : Ab.Fn Try.prog 58 [.agg [.sl 1 (cL 1 (cN .u8)) p0.fDurable, .sl 2 Write.cells p0.fPending, .i p0.fLeft, .b p0.fDown]] [] (fun a s => ∃ w0 : Value, ∃ w1 : Value, a = .agg [.lit w0, .lit w1, .i r.fLeft, .b r.fDown] ∧ s = [.row w0 24 1 (cL 1 (cN .u8)) r.fDurable, .row w1 90 2 Write.cells r.fPending]) := by
  rw [m58_1] at hm
  refine Ab.Fn.of Try.func58 rfl rfl rfl (fun C => ?_)
  refine CW.seq ?_
  refine CW.region ?_
  refine RW.v rfl rfl rfl (Yv.box rfl rfl (Pw.p rfl)) ?_
  rintro _ _ ⟨b1, rfl, rfl⟩
  refine RW.v rfl rfl rfl (Yv.alloc rfl zerb63) ?_
  rintro _ _ ⟨b2, rfl, rfl⟩
  refine RW.nil ?_
  refine CW.seq ?_
  refine CW.region ?_
  refine RW.p rfl rfl rfl (Yp.loadBN 1 rfl rfl rfl many63 (Nat.le_of_ble_eq_true rfl)) ?_
  refine RW.v rfl rfl rfl (Yv.alloc rfl zerb63) ?_
  rintro _ _ ⟨b3, rfl, rfl⟩
  refine RW.u rfl rfl (Yu.storeB 0 rfl rfl rfl rfl sz63 (Pw.p rfl) rfl (Nat.le_of_ble_eq_true rfl)) ?_
  refine RW.nil ?_
  refine CW.seq ?_
  refine CW.region ?_
  refine RW.p rfl rfl rfl (Yp.fieldP rfl rfl Try.underlying63 rfl sz60) ?_
  refine RW.u rfl rfl (Yu.storeB 0 rfl rfl rfl rfl sz60 (Pw.p rfl) rfl (Nat.le_of_ble_eq_true rfl)) ?_
  refine RW.p rfl rfl rfl (Yp.fieldP rfl rfl Try.underlying63 rfl sz61) ?_
  refine RW.u rfl rfl (Yu.storeB 0 rfl rfl rfl rfl sz61 (Pw.p rfl) rfl (Nat.le_of_ble_eq_true rfl)) ?_
  refine RW.nil ?_
  refine CW.seq ?_
  obtain ⟨l1, hs1, hk1⟩ := bnd hm
  refine CW.cut (fun E σ => ∃ v1 : Value, Sub [(1, .lit (.pointer (some ⟨b1, 0, none⟩))), (2, .lit (.pointer (some ⟨b2, 0, none⟩))), (3, .lit (.pointer (some ⟨b3, 0, none⟩)))] E ∧ σ = [.box b1 63 [.sl 1 (cL 1 (cN .u8)) p0.fDurable, .sl 2 Write.cells p0.fPending, .i p0.fLeft, .b p0.fDown], .box b2 63 [.lit (.slice none 0 0), .lit (.slice none 0 0), .i 0, .b false], .box b3 63 [.lit v1, .lit (.slice none 0 0), .i p0.fLeft, .b p0.fDown], .row v1 24 1 (cL 1 (cN .u8)) l1]) ?_ ?_
  ·
    have hm := hs1
    refine CW.seq ?_
    refine CW.region ?_
    refine RW.p rfl rfl rfl (Yp.fieldP rfl rfl Try.underlying63 rfl sz60) ?_
    refine RW.p rfl rfl rfl (Yp.loadB1 2 rfl rfl rfl one60 rfl) ?_
    refine RW.p rfl rfl rfl (Yp.lenSl rfl rfl Try.underlying60) ?_
    refine RW.p rfl rfl rfl (Yp.move rfl rfl) ?_
    refine RW.nil ?_
    refine CW.block ?_
    refine CW.own none 24 1 (cL 1 (cN .u8)) ?_
    refine CW.sel [3, 2, 1, 0] rfl ?_
    obtain ⟨l5, hs2, hk2⟩ := bnd hm
    refine CW.lp (fun k1 E σ => ∃ l4 : List (List Int), ∃ n3 : Int, ∃ v4 : Value, Sub [(1, .lit (.pointer (some ⟨b1, 0, none⟩))), (2, .lit (.pointer (some ⟨b2, 0, none⟩))), (3, .lit (.pointer (some ⟨b3, 0, none⟩))), (12, .sl 1 (cL 1 (cN .u8)) p0.fDurable), (13, .i (p0.fDurable.length : Int)), (14, .i n3)] E ∧ σ = [.box b1 63 [.sl 1 (cL 1 (cN .u8)) p0.fDurable, .sl 2 Write.cells p0.fPending, .i p0.fLeft, .b p0.fDown], .box b2 63 [.lit (.slice none 0 0), .lit (.slice none 0 0), .i 0, .b false], .box b3 63 [.lit v4, .lit (.slice none 0 0), .i p0.fLeft, .b p0.fDown], .row v4 24 1 (cL 1 (cN .u8)) l4] ∧ m58_1_l1 p0 k1 l4 n3 = some l5) (Int.toNat (p0.fDurable.length : Int) + 1) ?_ ?_
    · exact ⟨[], 0, (.slice none 0 0), (Sub.cons rfl (Sub.cons rfl (Sub.cons rfl (Sub.cons rfl (Sub.cons rfl (Sub.cons rfl Sub.nil)))))), rfl, hs2⟩
    ·
      rintro k1 E σ ⟨l4, n3, v4, hsub1, rfl, hm⟩
      refine CW.weak ?_ hsub1
      cases k1 with
      | zero => cases hm
      | succ k1 =>
        rw [m58_1_l1] at hm
        refine CW.seq ?_
        refine CW.region ?_
        refine RW.p rfl rfl rfl (Yp.lss rfl rfl rfl) ?_
        refine RW.nil ?_
        refine CW.seq ?_
        refine CW.cond rfl (fun hb1 => ?_) (fun hb1 => ?_)
        ·
          have hm := ift hm hb1
          refine CW.skip ?_
          refine CW.seq ?_
          obtain ⟨l6, hs3, hk3⟩ := bnd hm
          refine CW.cut (fun E σ => ∃ v6 : Value, Sub [(1, .lit (.pointer (some ⟨b1, 0, none⟩))), (2, .lit (.pointer (some ⟨b2, 0, none⟩))), (3, .lit (.pointer (some ⟨b3, 0, none⟩))), (12, .sl 1 (cL 1 (cN .u8)) p0.fDurable), (13, .i (p0.fDurable.length : Int)), (14, .i n3)] E ∧ σ = [.box b1 63 [.sl 1 (cL 1 (cN .u8)) p0.fDurable, .sl 2 Write.cells p0.fPending, .i p0.fLeft, .b p0.fDown], .box b2 63 [.lit (.slice none 0 0), .lit (.slice none 0 0), .i 0, .b false], .box b3 63 [.lit v6, .lit (.slice none 0 0), .i p0.fLeft, .b p0.fDown], .row v6 24 1 (cL 1 (cN .u8)) l6]) ?_ ?_
          ·
            have hm := hs3
            refine CW.block ?_
            refine CW.seq ?_
            refine CW.region ?_
            obtain ⟨hc1, hm⟩ := chk hm
            refine RW.p rfl rfl rfl (Yp.indexSl rfl rfl rfl Try.underlying60 sz24 hc1) ?_
            refine RW.p rfl rfl rfl (Yp.loadF1 rfl rfl one24 rfl) ?_
            refine RW.p rfl rfl rfl (Yp.assign rfl rfl) ?_
            refine RW.nil ?_
            obtain ⟨x1, hx1, hm⟩ := bnd hm
            obtain ⟨hc2, hm⟩ := chk hm
            refine CW.drawSel 8 rfl [2, 2, 0, 0] [.box b3 63 [.lit v4, .lit (.slice none 0 0), .i p0.fLeft, .b p0.fDown], .row v4 24 1 (cL 1 (cN .u8)) l4] [.box b1 63 [.sl 1 (cL 1 (cN .u8)) p0.fDurable, .sl 2 Write.cells p0.fPending, .i p0.fLeft, .b p0.fDown], .box b2 63 [.lit (.slice none 0 0), .lit (.slice none 0 0), .i 0, .b false]] rfl (by kernel_rfl) ?_
            intro A1 w1 hB1
            refine RH.take 0 rfl (by kernel_rfl) rfl rfl rfl hB1 (Yp.fieldP rfl rfl Try.underlying63 rfl sz60) ?_
            refine RH.take 2 rfl (by kernel_rfl) rfl rfl rfl hB1 (Yp.move rfl rfl) ?_
            refine RH.two 1 3 (by kernel_rfl) ?_ ?_
            ·
              refine RO.p rfl rfl rfl rfl rfl (Yp.loadB1 2 rfl rfl rfl one60 rfl) ?_
              refine RH.one 3 (by kernel_rfl) ?_
              refine RO.c rfl rfl rfl rfl rfl (Yc.fnV (σp := []) (args' := [.sl 1 (cN .u8) (p0.fDurable[Int.toNat n3]!)]) rfl rfl ok60 rfl rfl rfl (VwL.id _) (m60_ok (p0.fDurable[Int.toNat n3]!) hx1)) (fun b hb => absurd hb (by simp [blks])) ?_
              rintro _ _ ⟨_, ⟨rfl, rfl⟩, rfl⟩
              refine RH.one 4 (by kernel_rfl) ?_
              refine RO.v rfl rfl rfl rfl rfl (Yv.lit (cL 1 (cN .u8)) ([x1] : List (List Int)) rfl Try.underlying60 sz24 zer24 rfl rfl rfl rfl rfl (fun i hi => by match i, hi with | 0, _ => rfl) (by decide) (by decide)) (fun b hb => absurd hb (by simp)) ?_
              rintro _ _ ⟨v9, rfl, rfl⟩
              refine RH.one 5 (by kernel_rfl) ?_
              refine RO.v rfl rfl rfl rfl rfl (Yv.app (l := l4) (l2 := ([x1] : List (List Int))) 4 rfl rfl rfl (.inr (.inr ⟨0, _, rfl, rfl⟩)) Try.underlying60 szb24 zer24 rfl rfl (fun _ => rfl) hc2) (inX (r := .row v4 24 1 (cL 1 (cN .u8)) l4) 1 rfl) ?_
              rintro _ _ ⟨v10, rfl, rfl⟩
              refine RH.take 6 rfl (by kernel_rfl) rfl rfl rfl hB1 (Yp.fieldP rfl rfl Try.underlying63 rfl sz60) ?_
              refine RH.one 7 (by kernel_rfl) ?_
              refine RO.u rfl rfl rfl (Yu.storeB 3 rfl rfl rfl rfl sz60 (Pw.own 4 rfl) rfl (Nat.le_of_ble_eq_true rfl)) (inX (r := .box b3 63 [.lit v4, .lit (.slice none 0 0), .i p0.fLeft, .b p0.fDown]) 0 rfl) ?_
              refine RH.sel [1, 1, 1, 1] rfl ?_
              refine RH.done (by kernel_rfl) ?_
              cases hm
              exact ⟨v10, (Sub.cons rfl (Sub.cons rfl (Sub.cons rfl (Sub.cons rfl (Sub.cons rfl (Sub.cons rfl Sub.nil)))))), rfl⟩
            ·
              refine RO.c rfl rfl rfl rfl rfl (Yc.fnV (σp := []) (args' := [.sl 1 (cN .u8) (p0.fDurable[Int.toNat n3]!)]) rfl rfl ok60 rfl rfl rfl (VwL.id _) (m60_ok (p0.fDurable[Int.toNat n3]!) hx1)) (fun b hb => absurd hb (by simp [blks])) ?_
              rintro _ _ ⟨_, ⟨rfl, rfl⟩, rfl⟩
              refine RH.two 1 4 (by kernel_rfl) ?_ ?_
              ·
                refine RO.p rfl rfl rfl rfl rfl (Yp.loadB1 2 rfl rfl rfl one60 rfl) ?_
                refine RH.one 4 (by kernel_rfl) ?_
                refine RO.v rfl rfl rfl rfl rfl (Yv.lit (cL 1 (cN .u8)) ([x1] : List (List Int)) rfl Try.underlying60 sz24 zer24 rfl rfl rfl rfl rfl (fun i hi => by match i, hi with | 0, _ => rfl) (by decide) (by decide)) (fun b hb => absurd hb (by simp)) ?_
                rintro _ _ ⟨v11, rfl, rfl⟩
                refine RH.one 5 (by kernel_rfl) ?_
                refine RO.v rfl rfl rfl rfl rfl (Yv.app (l := l4) (l2 := ([x1] : List (List Int))) 4 rfl rfl rfl (.inr (.inr ⟨0, _, rfl, rfl⟩)) Try.underlying60 szb24 zer24 rfl rfl (fun _ => rfl) hc2) (inX (r := .row v4 24 1 (cL 1 (cN .u8)) l4) 1 rfl) ?_
                rintro _ _ ⟨v12, rfl, rfl⟩
                refine RH.take 6 rfl (by kernel_rfl) rfl rfl rfl hB1 (Yp.fieldP rfl rfl Try.underlying63 rfl sz60) ?_
                refine RH.one 7 (by kernel_rfl) ?_
                refine RO.u rfl rfl rfl (Yu.storeB 3 rfl rfl rfl rfl sz60 (Pw.own 4 rfl) rfl (Nat.le_of_ble_eq_true rfl)) (inX (r := .box b3 63 [.lit v4, .lit (.slice none 0 0), .i p0.fLeft, .b p0.fDown]) 0 rfl) ?_
                refine RH.sel [1, 1, 1, 1] rfl ?_
                refine RH.done (by kernel_rfl) ?_
                cases hm
                exact ⟨v12, (Sub.cons rfl (Sub.cons rfl (Sub.cons rfl (Sub.cons rfl (Sub.cons rfl (Sub.cons rfl Sub.nil)))))), rfl⟩
              ·
                refine RO.v rfl rfl rfl rfl rfl (Yv.lit (cL 1 (cN .u8)) ([x1] : List (List Int)) rfl Try.underlying60 sz24 zer24 rfl rfl rfl rfl rfl (fun i hi => by match i, hi with | 0, _ => rfl) (by decide) (by decide)) (fun b hb => absurd hb (by simp)) ?_
                rintro _ _ ⟨v13, rfl, rfl⟩
                refine RH.one 1 (by kernel_rfl) ?_
                refine RO.p rfl rfl rfl rfl rfl (Yp.loadB1 3 rfl rfl rfl one60 rfl) ?_
                refine RH.one 5 (by kernel_rfl) ?_
                refine RO.v rfl rfl rfl rfl rfl (Yv.app (l := l4) (l2 := ([x1] : List (List Int))) 4 rfl rfl rfl (.inr (.inr ⟨0, _, rfl, rfl⟩)) Try.underlying60 szb24 zer24 rfl rfl (fun _ => rfl) hc2) (inX (r := .row v4 24 1 (cL 1 (cN .u8)) l4) 1 rfl) ?_
                rintro _ _ ⟨v14, rfl, rfl⟩
                refine RH.take 6 rfl (by kernel_rfl) rfl rfl rfl hB1 (Yp.fieldP rfl rfl Try.underlying63 rfl sz60) ?_
                refine RH.one 7 (by kernel_rfl) ?_
                refine RO.u rfl rfl rfl (Yu.storeB 3 rfl rfl rfl rfl sz60 (Pw.own 4 rfl) rfl (Nat.le_of_ble_eq_true rfl)) (inX (r := .box b3 63 [.lit v4, .lit (.slice none 0 0), .i p0.fLeft, .b p0.fDown]) 0 rfl) ?_
                refine RH.sel [1, 1, 1, 1] rfl ?_
                refine RH.done (by kernel_rfl) ?_
                cases hm
                exact ⟨v14, (Sub.cons rfl (Sub.cons rfl (Sub.cons rfl (Sub.cons rfl (Sub.cons rfl (Sub.cons rfl Sub.nil)))))), rfl⟩
          ·
            rintro E σ ⟨v6, hsub2, rfl⟩
            have hm := hk3
            refine CW.weak ?_ hsub2
            refine CW.region ?_
            refine RW.p rfl rfl rfl (Yp.add rfl rfl rfl) ?_
            refine RW.p rfl rfl rfl (Yp.move rfl rfl) ?_
            refine RW.nil ?_
            exact ⟨k1, Nat.lt_succ_self _, _, _, v6, (Sub.cons rfl (Sub.cons rfl (Sub.cons rfl (Sub.cons rfl (Sub.cons rfl (Sub.cons rfl Sub.nil)))))), rfl, hm⟩
        ·
          have hm := iff' hm hb1
          refine CW.exit ?_
          cases hm
          have hm := hk2
          cases hm
          exact ⟨v4, (Sub.cons rfl (Sub.cons rfl (Sub.cons rfl Sub.nil))), rfl⟩
  ·
    rintro E σ ⟨v1, hsub3, rfl⟩
    have hm := hk1
    refine CW.weak ?_ hsub3
    refine CW.seq ?_
    obtain ⟨l7, hs4, hk4⟩ := bnd hm
    refine CW.cut (fun E σ => ∃ v15 : Value, Sub [(2, .lit (.pointer (some ⟨b2, 0, none⟩))), (3, .lit (.pointer (some ⟨b3, 0, none⟩)))] E ∧ σ = [.box b2 63 [.lit (.slice none 0 0), .lit (.slice none 0 0), .i 0, .b false], .box b3 63 [.lit v1, .lit v15, .i p0.fLeft, .b p0.fDown], .row v1 24 1 (cL 1 (cN .u8)) l1, .row v15 90 2 Write.cells l7]) ?_ ?_
    ·
      have hm := hs4
      refine CW.seq ?_
      refine CW.region ?_
      refine RW.p rfl rfl rfl (Yp.fieldP rfl rfl Try.underlying63 rfl sz61) ?_
      refine RW.p rfl rfl rfl (Yp.loadB1 0 rfl rfl rfl one61 rfl) ?_
      refine RW.p rfl rfl rfl (Yp.lenSl rfl rfl Try.underlying61) ?_
      refine RW.p rfl rfl rfl (Yp.move rfl rfl) ?_
      refine RW.nil ?_
      refine CW.block ?_
      refine CW.own none 90 2 Write.cells ?_
      refine CW.sel [2, 2, 2, 0] rfl ?_
      obtain ⟨l11, hs5, hk5⟩ := bnd hm
      refine CW.lp (fun k2 E σ => ∃ l10 : List Write, ∃ n6 : Int, ∃ v18 : Value, Sub [(2, .lit (.pointer (some ⟨b2, 0, none⟩))), (3, .lit (.pointer (some ⟨b3, 0, none⟩))), (27, .sl 2 Write.cells p0.fPending), (28, .i (p0.fPending.length : Int)), (29, .i n6)] E ∧ σ = [.box b2 63 [.lit (.slice none 0 0), .lit (.slice none 0 0), .i 0, .b false], .box b3 63 [.lit v1, .lit v18, .i p0.fLeft, .b p0.fDown], .row v1 24 1 (cL 1 (cN .u8)) l1, .row v18 90 2 Write.cells l10] ∧ m58_1_l2 p0 k2 l10 n6 = some l11) (Int.toNat (p0.fPending.length : Int) + 1) ?_ ?_
      · exact ⟨[], 0, (.slice none 0 0), (Sub.cons rfl (Sub.cons rfl (Sub.cons rfl (Sub.cons rfl (Sub.cons rfl Sub.nil))))), rfl, hs5⟩
      ·
        rintro k2 E σ ⟨l10, n6, v18, hsub4, rfl, hm⟩
        refine CW.weak ?_ hsub4
        cases k2 with
        | zero => cases hm
        | succ k2 =>
          rw [m58_1_l2] at hm
          refine CW.seq ?_
          refine CW.region ?_
          refine RW.p rfl rfl rfl (Yp.lss rfl rfl rfl) ?_
          refine RW.nil ?_
          refine CW.seq ?_
          refine CW.cond rfl (fun hb2 => ?_) (fun hb2 => ?_)
          ·
            have hm := ift hm hb2
            refine CW.skip ?_
            refine CW.seq ?_
            obtain ⟨l12, hs6, hk6⟩ := bnd hm
            refine CW.cut (fun E σ => ∃ v20 : Value, Sub [(2, .lit (.pointer (some ⟨b2, 0, none⟩))), (3, .lit (.pointer (some ⟨b3, 0, none⟩))), (27, .sl 2 Write.cells p0.fPending), (28, .i (p0.fPending.length : Int)), (29, .i n6)] E ∧ σ = [.box b2 63 [.lit (.slice none 0 0), .lit (.slice none 0 0), .i 0, .b false], .box b3 63 [.lit v1, .lit v20, .i p0.fLeft, .b p0.fDown], .row v1 24 1 (cL 1 (cN .u8)) l1, .row v20 90 2 Write.cells l12]) ?_ ?_
            ·
              have hm := hs6
              refine CW.block ?_
              refine CW.seq ?_
              refine CW.region ?_
              obtain ⟨hc3, hm⟩ := chk hm
              refine RW.p rfl rfl rfl (Yp.indexSl rfl rfl rfl Try.underlying61 sz90 hc3) ?_
              refine RW.p rfl rfl rfl (Yp.loadFN rfl rfl many90 (Nat.le_of_ble_eq_true rfl)) ?_
              refine RW.v rfl rfl rfl (Yv.alloc rfl zerb90) ?_
              rintro _ _ ⟨b4, rfl, rfl⟩
              refine RW.u rfl rfl (Yu.storeB 0 rfl rfl rfl rfl sz90 (Pw.p rfl) rfl (Nat.le_of_ble_eq_true rfl)) ?_
              refine RW.nil ?_
              obtain ⟨x2, hx2, hm⟩ := bnd hm
              obtain ⟨hc4, hm⟩ := chk hm
              refine CW.drawSel 12 rfl [2, 2, 2, 0, 0] [.box b3 63 [.lit v1, .lit v18, .i p0.fLeft, .b p0.fDown], .row v1 24 1 (cL 1 (cN .u8)) l1, .row v18 90 2 Write.cells l10] [.box b4 90 [.i ((p0.fPending[Int.toNat n6]!).fAt), .sl 1 (cN .u8) ((p0.fPending[Int.toNat n6]!).fData)], .box b2 63 [.lit (.slice none 0 0), .lit (.slice none 0 0), .i 0, .b false]] rfl (by kernel_rfl) ?_
              intro A2 w2 hB2
              refine RH.take 0 rfl (by kernel_rfl) rfl rfl rfl hB2 (Yp.fieldP rfl rfl Try.underlying63 rfl sz61) ?_
              refine RH.take 2 rfl (by kernel_rfl) rfl rfl rfl hB2 (Yp.fieldP rfl rfl Try.underlying90 rfl sz3) ?_
              refine RH.take 3 rfl (by kernel_rfl) rfl rfl rfl hB2 (Yp.loadB1 0 rfl rfl rfl one3 rfl) ?_
              refine RH.take 4 rfl (by kernel_rfl) rfl rfl rfl hB2 (Yp.fieldP rfl rfl Try.underlying90 rfl sz24) ?_
              refine RH.take 5 rfl (by kernel_rfl) rfl rfl rfl hB2 (Yp.loadB1 0 rfl rfl rfl one24 rfl) ?_
              refine RH.two 1 6 (by kernel_rfl) ?_ ?_
              ·
                refine RO.p rfl rfl rfl rfl rfl (Yp.loadB1 2 rfl rfl rfl one61 rfl) ?_
                refine RH.one 6 (by kernel_rfl) ?_
                refine RO.c rfl rfl rfl rfl rfl (Yc.fnV (σp := []) (args' := [.sl 1 (cN .u8) ((p0.fPending[Int.toNat n6]!).fData)]) rfl rfl ok60 rfl rfl rfl (VwL.id _) (m60_ok ((p0.fPending[Int.toNat n6]!).fData) hx2)) (fun b hb => absurd hb (by simp [blks])) ?_
                rintro _ _ ⟨_, ⟨rfl, rfl⟩, rfl⟩
                refine RH.one 7 (by kernel_rfl) ?_
                refine RO.p rfl rfl rfl rfl rfl (Yp.build rfl plc90 zer90 rfl rfl) ?_
                refine RH.one 8 (by kernel_rfl) ?_
                refine RO.v rfl rfl rfl rfl rfl (Yv.lit Write.cells ([(Write.mk ((p0.fPending[Int.toNat n6]!).fAt) x2)] : List Write) rfl Try.underlying61 sz90 zer90 rfl rfl rfl rfl rfl (fun i hi => by match i, hi with | 0, _ => rfl) (by decide) (by decide)) (fun b hb => absurd hb (by simp)) ?_
                rintro _ _ ⟨v23, rfl, rfl⟩
                refine RH.one 9 (by kernel_rfl) ?_
                refine RO.v rfl rfl rfl rfl rfl (Yv.app (l := l10) (l2 := ([(Write.mk ((p0.fPending[Int.toNat n6]!).fAt) x2)] : List Write)) 5 rfl rfl rfl (.inr (.inr ⟨0, _, rfl, rfl⟩)) Try.underlying61 szb90 zer90 rfl rfl (fun _ => rfl) hc4) (inX (r := .row v18 90 2 Write.cells l10) 2 rfl) ?_
                rintro _ _ ⟨v24, rfl, rfl⟩
                refine RH.take 10 rfl (by kernel_rfl) rfl rfl rfl hB2 (Yp.fieldP rfl rfl Try.underlying63 rfl sz61) ?_
                refine RH.one 11 (by kernel_rfl) ?_
                refine RO.u rfl rfl rfl (Yu.storeB 3 rfl rfl rfl rfl sz61 (Pw.own 5 rfl) rfl (Nat.le_of_ble_eq_true rfl)) (inX (r := .box b3 63 [.lit v1, .lit v18, .i p0.fLeft, .b p0.fDown]) 0 rfl) ?_
                refine RH.sel [2, 2, 2, 2] rfl ?_
                refine RH.done (by kernel_rfl) ?_
                cases hm
                exact ⟨v24, (Sub.cons rfl (Sub.cons rfl (Sub.cons rfl (Sub.cons rfl (Sub.cons rfl Sub.nil))))), rfl⟩
              ·
                refine RO.c rfl rfl rfl rfl rfl (Yc.fnV (σp := []) (args' := [.sl 1 (cN .u8) ((p0.fPending[Int.toNat n6]!).fData)]) rfl rfl ok60 rfl rfl rfl (VwL.id _) (m60_ok ((p0.fPending[Int.toNat n6]!).fData) hx2)) (fun b hb => absurd hb (by simp [blks])) ?_
                rintro _ _ ⟨_, ⟨rfl, rfl⟩, rfl⟩
                refine RH.two 1 7 (by kernel_rfl) ?_ ?_
                ·
                  refine RO.p rfl rfl rfl rfl rfl (Yp.loadB1 2 rfl rfl rfl one61 rfl) ?_
                  refine RH.one 7 (by kernel_rfl) ?_
                  refine RO.p rfl rfl rfl rfl rfl (Yp.build rfl plc90 zer90 rfl rfl) ?_
                  refine RH.one 8 (by kernel_rfl) ?_
                  refine RO.v rfl rfl rfl rfl rfl (Yv.lit Write.cells ([(Write.mk ((p0.fPending[Int.toNat n6]!).fAt) x2)] : List Write) rfl Try.underlying61 sz90 zer90 rfl rfl rfl rfl rfl (fun i hi => by match i, hi with | 0, _ => rfl) (by decide) (by decide)) (fun b hb => absurd hb (by simp)) ?_
                  rintro _ _ ⟨v25, rfl, rfl⟩
                  refine RH.one 9 (by kernel_rfl) ?_
                  refine RO.v rfl rfl rfl rfl rfl (Yv.app (l := l10) (l2 := ([(Write.mk ((p0.fPending[Int.toNat n6]!).fAt) x2)] : List Write)) 5 rfl rfl rfl (.inr (.inr ⟨0, _, rfl, rfl⟩)) Try.underlying61 szb90 zer90 rfl rfl (fun _ => rfl) hc4) (inX (r := .row v18 90 2 Write.cells l10) 2 rfl) ?_
                  rintro _ _ ⟨v26, rfl, rfl⟩
                  refine RH.take 10 rfl (by kernel_rfl) rfl rfl rfl hB2 (Yp.fieldP rfl rfl Try.underlying63 rfl sz61) ?_
                  refine RH.one 11 (by kernel_rfl) ?_
                  refine RO.u rfl rfl rfl (Yu.storeB 3 rfl rfl rfl rfl sz61 (Pw.own 5 rfl) rfl (Nat.le_of_ble_eq_true rfl)) (inX (r := .box b3 63 [.lit v1, .lit v18, .i p0.fLeft, .b p0.fDown]) 0 rfl) ?_
                  refine RH.sel [2, 2, 2, 2] rfl ?_
                  refine RH.done (by kernel_rfl) ?_
                  cases hm
                  exact ⟨v26, (Sub.cons rfl (Sub.cons rfl (Sub.cons rfl (Sub.cons rfl (Sub.cons rfl Sub.nil))))), rfl⟩
                ·
                  refine RO.p rfl rfl rfl rfl rfl (Yp.build rfl plc90 zer90 rfl rfl) ?_
                  refine RH.two 1 8 (by kernel_rfl) ?_ ?_
                  ·
                    refine RO.p rfl rfl rfl rfl rfl (Yp.loadB1 2 rfl rfl rfl one61 rfl) ?_
                    refine RH.one 8 (by kernel_rfl) ?_
                    refine RO.v rfl rfl rfl rfl rfl (Yv.lit Write.cells ([(Write.mk ((p0.fPending[Int.toNat n6]!).fAt) x2)] : List Write) rfl Try.underlying61 sz90 zer90 rfl rfl rfl rfl rfl (fun i hi => by match i, hi with | 0, _ => rfl) (by decide) (by decide)) (fun b hb => absurd hb (by simp)) ?_
                    rintro _ _ ⟨v27, rfl, rfl⟩
                    refine RH.one 9 (by kernel_rfl) ?_
                    refine RO.v rfl rfl rfl rfl rfl (Yv.app (l := l10) (l2 := ([(Write.mk ((p0.fPending[Int.toNat n6]!).fAt) x2)] : List Write)) 5 rfl rfl rfl (.inr (.inr ⟨0, _, rfl, rfl⟩)) Try.underlying61 szb90 zer90 rfl rfl (fun _ => rfl) hc4) (inX (r := .row v18 90 2 Write.cells l10) 2 rfl) ?_
                    rintro _ _ ⟨v28, rfl, rfl⟩
                    refine RH.take 10 rfl (by kernel_rfl) rfl rfl rfl hB2 (Yp.fieldP rfl rfl Try.underlying63 rfl sz61) ?_
                    refine RH.one 11 (by kernel_rfl) ?_
                    refine RO.u rfl rfl rfl (Yu.storeB 3 rfl rfl rfl rfl sz61 (Pw.own 5 rfl) rfl (Nat.le_of_ble_eq_true rfl)) (inX (r := .box b3 63 [.lit v1, .lit v18, .i p0.fLeft, .b p0.fDown]) 0 rfl) ?_
                    refine RH.sel [2, 2, 2, 2] rfl ?_
                    refine RH.done (by kernel_rfl) ?_
                    cases hm
                    exact ⟨v28, (Sub.cons rfl (Sub.cons rfl (Sub.cons rfl (Sub.cons rfl (Sub.cons rfl Sub.nil))))), rfl⟩
                  ·
                    refine RO.v rfl rfl rfl rfl rfl (Yv.lit Write.cells ([(Write.mk ((p0.fPending[Int.toNat n6]!).fAt) x2)] : List Write) rfl Try.underlying61 sz90 zer90 rfl rfl rfl rfl rfl (fun i hi => by match i, hi with | 0, _ => rfl) (by decide) (by decide)) (fun b hb => absurd hb (by simp)) ?_
                    rintro _ _ ⟨v29, rfl, rfl⟩
                    refine RH.one 1 (by kernel_rfl) ?_
                    refine RO.p rfl rfl rfl rfl rfl (Yp.loadB1 3 rfl rfl rfl one61 rfl) ?_
                    refine RH.one 9 (by kernel_rfl) ?_
                    refine RO.v rfl rfl rfl rfl rfl (Yv.app (l := l10) (l2 := ([(Write.mk ((p0.fPending[Int.toNat n6]!).fAt) x2)] : List Write)) 5 rfl rfl rfl (.inr (.inr ⟨0, _, rfl, rfl⟩)) Try.underlying61 szb90 zer90 rfl rfl (fun _ => rfl) hc4) (inX (r := .row v18 90 2 Write.cells l10) 2 rfl) ?_
                    rintro _ _ ⟨v30, rfl, rfl⟩
                    refine RH.take 10 rfl (by kernel_rfl) rfl rfl rfl hB2 (Yp.fieldP rfl rfl Try.underlying63 rfl sz61) ?_
                    refine RH.one 11 (by kernel_rfl) ?_
                    refine RO.u rfl rfl rfl (Yu.storeB 3 rfl rfl rfl rfl sz61 (Pw.own 5 rfl) rfl (Nat.le_of_ble_eq_true rfl)) (inX (r := .box b3 63 [.lit v1, .lit v18, .i p0.fLeft, .b p0.fDown]) 0 rfl) ?_
                    refine RH.sel [2, 2, 2, 2] rfl ?_
                    refine RH.done (by kernel_rfl) ?_
                    cases hm
                    exact ⟨v30, (Sub.cons rfl (Sub.cons rfl (Sub.cons rfl (Sub.cons rfl (Sub.cons rfl Sub.nil))))), rfl⟩
            ·
              rintro E σ ⟨v20, hsub5, rfl⟩
              have hm := hk6
              refine CW.weak ?_ hsub5
              refine CW.region ?_
              refine RW.p rfl rfl rfl (Yp.add rfl rfl rfl) ?_
              refine RW.p rfl rfl rfl (Yp.move rfl rfl) ?_
              refine RW.nil ?_
              exact ⟨k2, Nat.lt_succ_self _, _, _, v20, (Sub.cons rfl (Sub.cons rfl (Sub.cons rfl (Sub.cons rfl (Sub.cons rfl Sub.nil))))), rfl, hm⟩
          ·
            have hm := iff' hm hb2
            refine CW.exit ?_
            cases hm
            have hm := hk5
            cases hm
            exact ⟨v18, (Sub.cons rfl (Sub.cons rfl Sub.nil)), rfl⟩
    ·
      rintro E σ ⟨v15, hsub6, rfl⟩
      have hm := hk4
      refine CW.weak ?_ hsub6
      refine CW.seq ?_
      refine CW.region ?_
      refine RW.p rfl rfl rfl (Yp.loadBN 1 rfl rfl rfl many63 (Nat.le_of_ble_eq_true rfl)) ?_
      refine RW.u rfl rfl (Yu.storeB 0 rfl rfl rfl rfl sz63 (Pw.agg (PwL.own 2 rfl (PwL.own 3 rfl (PwL.p rfl (PwL.p rfl PwL.nil))))) rfl (Nat.le_of_ble_eq_true rfl)) ?_
      refine RW.nil ?_
      refine CW.sel [2, 2, 0] rfl ?_
      refine CW.ret ?_
      cases hm
      exact fin1 (.inr rfl) rfl (ResIs.cellN 2 rfl rfl many63 rfl) (.cons_cons _ (.cons_cons _ (List.nil_sublist _))) ⟨v1, v15, rfl, rfl⟩

def m59_1 (p0 : Disk) : Option (Bool × Disk) :=
  Option.bind (
    if (decide (p0.fLeft = 0)) = true then
      some (Sum.inr (false, (Disk.mk p0.fDurable p0.fPending p0.fLeft true)))
    else
      if (decide ((0 : Int) < p0.fLeft)) = true then
        some (Sum.inl (w64 (p0.fLeft - 1)))
      else
        some (Sum.inl p0.fLeft)) fun o1 =>
  match o1 with
  | .inl n1 =>
    some (true, (Disk.mk p0.fDurable p0.fPending n1 p0.fDown))
  | .inr r =>
    some r

set_option maxHeartbeats 4000000 in
theorem m59_1_ok (p0 : Disk) (pb0 : Nat) (pv0_0 : Value) (pv0_1 : Value) {r : Bool × Disk} (hm : m59_1 p0 = some r) : Ab.Fn Try.prog 59 [.lit (.pointer (some ⟨pb0, 0, none⟩))] [.box pb0 63 [.lit pv0_0, .lit pv0_1, .i p0.fLeft, .b p0.fDown], .row pv0_0 24 1 (cL 1 (cN .u8)) p0.fDurable, .row pv0_1 90 2 Write.cells p0.fPending] (fun a s => a = .b r.1 ∧ s = [.box pb0 63 [.lit pv0_0, .lit pv0_1, .i r.2.fLeft, .b r.2.fDown], .row pv0_0 24 1 (cL 1 (cN .u8)) p0.fDurable, .row pv0_1 90 2 Write.cells p0.fPending]) := by
  rw [m59_1] at hm
  refine Ab.Fn.of Try.func59 rfl rfl rfl (fun C => ?_)
  refine CW.seq ?_
  refine CW.region ?_
  refine RW.p rfl rfl rfl (Yp.assign rfl rfl) ?_
  refine RW.nil ?_
  refine CW.seq ?_
  obtain ⟨o1, hs1, hk1⟩ := bnd hm
  refine CW.cut (fun E σ => ∃ n1 : Int, o1 = Sum.inl n1 ∧ Sub [(0, .lit (.pointer (some ⟨pb0, 0, none⟩)))] E ∧ σ = [.box pb0 63 [.lit pv0_0, .lit pv0_1, .i n1, .b p0.fDown], .row pv0_0 24 1 (cL 1 (cN .u8)) p0.fDurable, .row pv0_1 90 2 Write.cells p0.fPending]) ?_ ?_
  ·
    have hm := hs1
    refine CW.block ?_
    refine CW.seq ?_
    refine CW.region ?_
    refine RW.p rfl rfl rfl (Yp.move rfl rfl) ?_
    refine RW.p rfl rfl rfl (Yp.nilCheckP rfl rfl) ?_
    refine RW.p rfl rfl rfl (Yp.fieldP rfl rfl Try.underlying63 rfl sz3) ?_
    refine RW.p rfl rfl rfl (Yp.loadB1 0 rfl rfl rfl one3 rfl) ?_
    refine RW.p rfl rfl rfl (Yp.eql rfl rfl rfl) ?_
    refine RW.p rfl rfl rfl (Yp.assign rfl rfl) ?_
    refine RW.nil ?_
    refine CW.cond rfl (fun hb1 => ?_) (fun hb1 => ?_)
    ·
      have hm := ift hm hb1
      refine CW.seq ?_
      refine CW.region ?_
      refine RW.p rfl rfl rfl (Yp.move rfl rfl) ?_
      refine RW.p rfl rfl rfl (Yp.nilCheckP rfl rfl) ?_
      refine RW.p rfl rfl rfl (Yp.fieldP rfl rfl Try.underlying63 rfl sz4) ?_
      refine RW.u rfl rfl (Yu.storeB 0 rfl rfl rfl rfl sz4 (Pw.p rfl) rfl (Nat.le_of_ble_eq_true rfl)) ?_
      refine RW.nil ?_
      refine CW.seq ?_
      refine CW.region ?_
      refine RW.p rfl rfl rfl (Yp.assign rfl rfl) ?_
      refine RW.nil ?_
      refine CW.ret ?_
      cases hm
      have hm := hk1
      cases hm
      exact fin1 (.inr rfl) rfl (ResIs.tmp rfl) (.cons_cons _ (.cons_cons _ (.cons_cons _ (List.nil_sublist _)))) ⟨rfl, rfl⟩
    ·
      have hm := iff' hm hb1
      refine CW.seq ?_
      refine CW.region ?_
      refine RW.p rfl rfl rfl (Yp.move rfl rfl) ?_
      refine RW.p rfl rfl rfl (Yp.nilCheckP rfl rfl) ?_
      refine RW.p rfl rfl rfl (Yp.fieldP rfl rfl Try.underlying63 rfl sz3) ?_
      refine RW.p rfl rfl rfl (Yp.loadB1 0 rfl rfl rfl one3 rfl) ?_
      refine RW.p rfl rfl rfl (Yp.gtr rfl rfl rfl) ?_
      refine RW.p rfl rfl rfl (Yp.assign rfl rfl) ?_
      refine RW.nil ?_
      refine CW.cond rfl (fun hb2 => ?_) (fun hb2 => ?_)
      ·
        have hm := ift hm hb2
        refine CW.region ?_
        refine RW.p rfl rfl rfl (Yp.move rfl rfl) ?_
        refine RW.p rfl rfl rfl (Yp.nilCheckP rfl rfl) ?_
        refine RW.p rfl rfl rfl (Yp.fieldP rfl rfl Try.underlying63 rfl sz3) ?_
        refine RW.p rfl rfl rfl (Yp.loadB1 0 rfl rfl rfl one3 rfl) ?_
        refine RW.p rfl rfl rfl (Yp.sub rfl rfl rfl) ?_
        refine RW.p rfl rfl rfl (Yp.nilCheckP rfl rfl) ?_
        refine RW.p rfl rfl rfl (Yp.fieldP rfl rfl Try.underlying63 rfl sz3) ?_
        refine RW.u rfl rfl (Yu.storeB 0 rfl rfl rfl rfl sz3 (Pw.p rfl) rfl (Nat.le_of_ble_eq_true rfl)) ?_
        refine RW.nil ?_
        cases hm
        exact ⟨_, rfl, (Sub.cons rfl Sub.nil), rfl⟩
      ·
        have hm := iff' hm hb2
        refine CW.skip ?_
        cases hm
        exact ⟨_, rfl, (Sub.cons rfl Sub.nil), rfl⟩
  ·
    rintro E σ ⟨n1, rfl, hsub1, rfl⟩
    have hm := hk1
    refine CW.weak ?_ hsub1
    refine CW.seq ?_
    refine CW.region ?_
    refine RW.p rfl rfl rfl (Yp.assign rfl rfl) ?_
    refine RW.nil ?_
    refine CW.ret ?_
    cases hm
    exact fin1 (.inr rfl) rfl (ResIs.tmp rfl) (.cons_cons _ (.cons_cons _ (.cons_cons _ (List.nil_sublist _)))) ⟨rfl, rfl⟩

def m46 (p0 : Disk) (p1 : Int) (p2 : List Int) : Option (Disk × Int) :=
  (m45 p0).bind fun x1 =>
  if (!x1) = true then
    some ((Disk.mk [] [] 0 false), 1)
  else
    (m58_1 p0).bind fun x2 =>
    Option.bind (
      if (decide (p1 < 0)) = true then
        some true
      else
        some (decide ((p0.fDurable.length : Int) ≤ p1))) fun c1 =>
    if c1 = true then
      some (x2, 3)
    else
      if (!decide ((p2.length : Int) = 96)) = true then
        some (x2, 2)
      else
        if p0.fDown = true then
          some (x2, 17)
        else
          if (decide ((p0.fPending.length : Int) = 8192)) = true then
            some (x2, 16)
          else
            (m59_1 x2).bind fun x3 =>
            if (!x3.1) = true then
              some ((Disk.mk x2.fDurable x2.fPending x3.2.fLeft x3.2.fDown), 17)
            else
              Option.bind (
                (m60 p2).bind fun x4 =>
                if (x2.fPending ++ [(Write.mk p1 x4)]).length ≤ 1073741824 then
                some (x2.fPending ++ [(Write.mk p1 x4)])
                else none) fun l1 =>
              some ((Disk.mk x2.fDurable l1 x3.2.fLeft x3.2.fDown), 0)

set_option maxHeartbeats 4000000 in
theorem m46_ok (p0 : Disk) (p1 : Int) (p2 : List Int)  {r : Disk × Int} (hm : m46 p0 p1 p2 = some r) : Ab.Fn Try.prog 46 [.agg [.sl 1 (cL 1 (cN .u8)) p0.fDurable, .sl 2 Write.cells p0.fPending, .i p0.fLeft, .b p0.fDown], .i p1, .sl 1 (cN .u8) p2] [] (fun a s => a = .tup [.agg [.sl 1 (cL 1 (cN .u8)) r.1.fDurable, .sl 2 Write.cells r.1.fPending, .i r.1.fLeft, .b r.1.fDown], .i r.2] ∧ s = []) := by
  rw [m46] at hm
  refine Ab.Fn.of Try.func46 rfl rfl rfl (fun C => ?_)
  refine CW.seq ?_
  refine CW.region ?_
  refine RW.v rfl rfl rfl (Yv.box rfl rfl (Pw.p rfl)) ?_
  rintro _ _ ⟨b1, rfl, rfl⟩
  refine RW.v rfl rfl rfl (Yv.alloc rfl zerb63) ?_
  rintro _ _ ⟨b2, rfl, rfl⟩
  refine RW.p rfl rfl rfl (Yp.assign rfl rfl) ?_
  refine RW.nil ?_
  refine CW.seq ?_
  refine CW.seq ?_
  refine CW.region ?_
  refine RW.p rfl rfl rfl (Yp.loadBN 1 rfl rfl rfl many63 (Nat.le_of_ble_eq_true rfl)) ?_
  obtain ⟨x1, hx1, hm⟩ := bnd hm
  refine RW.c rfl rfl rfl (Yc.fnV (σp := []) (args' := [.agg [.sl 1 (cL 1 (cN .u8)) p0.fDurable, .sl 2 Write.cells p0.fPending, .i p0.fLeft, .b p0.fDown]]) rfl rfl ok45 rfl rfl rfl (VwL.id _) (m45_ok p0 hx1)) ?_
  rintro _ _ ⟨_, ⟨rfl, rfl⟩, rfl⟩
  refine RW.p rfl rfl rfl (Yp.not rfl rfl) ?_
  refine RW.nil ?_
  refine CW.cond rfl (fun hb1 => ?_) (fun hb1 => ?_)
  ·
    have hm := ift hm hb1
    refine CW.seq ?_
    refine CW.region ?_
    refine RW.p rfl rfl rfl (Yp.build rfl plc63 zer63 rfl rfl) ?_
    refine RW.u rfl rfl (Yu.storeB 0 rfl rfl rfl rfl sz63 (Pw.p rfl) rfl (Nat.le_of_ble_eq_true rfl)) ?_
    refine RW.p rfl rfl rfl (Yp.assign rfl rfl) ?_
    refine RW.nil ?_
    refine CW.sayB 0 rfl (VwL.cons (Vw.nil 1 (cL 1 (cN .u8))) (VwL.cons (Vw.nil 2 Write.cells) (VwL.cons (Vw.id _) (VwL.cons (Vw.id _) VwL.nil)))) ?_
    refine CW.ret ?_
    cases hm
    exact fin2 (.inr rfl) rfl (ResIs.cellN 0 rfl rfl many63 rfl) (ResIs.tmp rfl) (List.nil_sublist _) ⟨rfl, rfl⟩
  ·
    have hm := iff' hm hb1
    refine CW.skip ?_
    refine CW.seq ?_
    refine CW.region ?_
    refine RW.p rfl rfl rfl (Yp.loadBN 1 rfl rfl rfl many63 (Nat.le_of_ble_eq_true rfl)) ?_
    obtain ⟨x2, hx2, hm⟩ := bnd hm
    refine RW.c rfl rfl rfl (Yc.fnV (σp := []) (args' := [.agg [.sl 1 (cL 1 (cN .u8)) p0.fDurable, .sl 2 Write.cells p0.fPending, .i p0.fLeft, .b p0.fDown]]) rfl rfl ok58 rfl rfl rfl (VwL.id _) (m58_1_ok p0 hx2)) ?_
    rintro _ _ ⟨_, ⟨v1, v2, rfl, rfl⟩, rfl⟩
    refine RW.v rfl rfl rfl (Yv.alloc rfl zerb63) ?_
    rintro _ _ ⟨b3, rfl, rfl⟩
    refine RW.u rfl rfl (Yu.storeB 0 rfl rfl rfl rfl sz63 (Pw.agg (PwL.own 1 rfl (PwL.own 2 rfl (PwL.p rfl (PwL.p rfl PwL.nil))))) rfl (Nat.le_of_ble_eq_true rfl)) ?_
    refine RW.nil ?_
    refine CW.seq ?_
    refine CW.block ?_
    refine CW.seq ?_
    obtain ⟨c1, hs1, hk1⟩ := bnd hm
    refine CW.cut (fun E σ => Sub [(1, .i p1), (2, .sl 1 (cN .u8) p2), (3, .lit (.pointer (some ⟨b1, 0, none⟩))), (6, .lit (.pointer (some ⟨b2, 0, none⟩))), (8, .lit (.pointer (some ⟨b3, 0, none⟩))), (15, .b c1)] E ∧ σ = [.box b1 63 [.sl 1 (cL 1 (cN .u8)) p0.fDurable, .sl 2 Write.cells p0.fPending, .i p0.fLeft, .b p0.fDown], .box b2 63 [.lit (.slice none 0 0), .lit (.slice none 0 0), .i 0, .b false], .box b3 63 [.lit v1, .lit v2, .i x2.fLeft, .b x2.fDown], .row v1 24 1 (cL 1 (cN .u8)) x2.fDurable, .row v2 90 2 Write.cells x2.fPending]) ?_ ?_
    ·
      have hm := hs1
      refine CW.region ?_
      refine RW.p rfl rfl rfl (Yp.move rfl rfl) ?_
      refine RW.p rfl rfl rfl (Yp.lss rfl rfl rfl) ?_
      refine RW.p rfl rfl rfl (Yp.move rfl rfl) ?_
      rcases Bool.eq_false_or_eq_true (decide (p1 < 0)) with hb2 | hb2
      ·
        have hm := ift hm hb2
        refine RW.eqv 18 rfl (congrArg AV.b hb2) ?_
        refine RW.skip rfl rfl rfl ?_
        refine RW.skip rfl rfl rfl ?_
        refine RW.skip rfl rfl rfl ?_
        refine RW.skip rfl rfl rfl ?_
        refine RW.skip rfl rfl rfl ?_
        refine RW.p rfl rfl rfl (Yp.pickT rfl rfl rfl) ?_
        refine RW.p rfl rfl rfl (Yp.assign rfl rfl) ?_
        refine RW.sel [4, 3, 0, 0, 0] rfl ?_
        refine RW.nil ?_
        cases hm
        exact ⟨(Sub.cons rfl (Sub.cons rfl (Sub.cons rfl (Sub.cons rfl (Sub.cons rfl (Sub.cons rfl Sub.nil)))))), rfl⟩
      ·
        have hm := iff' hm hb2
        refine RW.eqv 18 rfl (congrArg AV.b hb2) ?_
        refine RW.p rfl rfl rfl (Yp.move rfl rfl) ?_
        refine RW.p rfl rfl rfl (Yp.fieldP rfl rfl Try.underlying63 rfl sz60) ?_
        refine RW.p rfl rfl rfl (Yp.loadB1 4 rfl rfl rfl one60 rfl) ?_
        refine RW.p rfl rfl rfl (Yp.lenSl rfl rfl Try.underlying60) ?_
        refine RW.p rfl rfl rfl (Yp.geq rfl rfl rfl) ?_
        refine RW.p rfl rfl rfl (Yp.pickF rfl rfl rfl) ?_
        refine RW.p rfl rfl rfl (Yp.assign rfl rfl) ?_
        refine RW.sel [4, 3, 0, 0, 0] rfl ?_
        refine RW.nil ?_
        cases hm
        exact ⟨(Sub.cons rfl (Sub.cons rfl (Sub.cons rfl (Sub.cons rfl (Sub.cons rfl (Sub.cons rfl Sub.nil)))))), rfl⟩
    ·
      rintro E σ ⟨hsub1, rfl⟩
      have hm := hk1
      refine CW.weak ?_ hsub1
      refine CW.cond rfl (fun hb3 => ?_) (fun hb3 => ?_)
      ·
        have hm := ift hm hb3
        refine CW.seq ?_
        refine CW.region ?_
        refine RW.p rfl rfl rfl (Yp.loadBN 2 rfl rfl rfl many63 (Nat.le_of_ble_eq_true rfl)) ?_
        refine RW.u rfl rfl (Yu.storeB 1 rfl rfl rfl rfl sz63 (Pw.agg (PwL.own 3 rfl (PwL.own 4 rfl (PwL.p rfl (PwL.p rfl PwL.nil))))) rfl (Nat.le_of_ble_eq_true rfl)) ?_
        refine RW.p rfl rfl rfl (Yp.assign rfl rfl) ?_
        refine RW.nil ?_
        refine CW.frzB 3 1 rfl rfl (VwL.cons (Vw.row 0 rfl) (VwL.cons (Vw.id _) (VwL.cons (Vw.id _) (VwL.cons (Vw.id _) VwL.nil)))) ?_
        refine CW.frzB 3 1 rfl rfl (VwL.cons (Vw.id _) (VwL.cons (Vw.row 0 rfl) (VwL.cons (Vw.id _) (VwL.cons (Vw.id _) VwL.nil)))) ?_
        refine CW.ret ?_
        cases hm
        exact fin2 (.inr rfl) rfl (ResIs.cellN 1 rfl rfl many63 rfl) (ResIs.tmp rfl) (List.nil_sublist _) ⟨rfl, rfl⟩
      ·
        have hm := iff' hm hb3
        refine CW.seq ?_
        refine CW.region ?_
        refine RW.p rfl rfl rfl (Yp.move rfl rfl) ?_
        refine RW.p rfl rfl rfl (Yp.lenSl rfl rfl Try.underlying24) ?_
        refine RW.p rfl rfl rfl (Yp.neq rfl rfl rfl) ?_
        refine RW.p rfl rfl rfl (Yp.assign rfl rfl) ?_
        refine RW.nil ?_
        refine CW.cond rfl (fun hb4 => ?_) (fun hb4 => ?_)
        ·
          have hm := ift hm hb4
          refine CW.seq ?_
          refine CW.region ?_
          refine RW.p rfl rfl rfl (Yp.loadBN 2 rfl rfl rfl many63 (Nat.le_of_ble_eq_true rfl)) ?_
          refine RW.u rfl rfl (Yu.storeB 1 rfl rfl rfl rfl sz63 (Pw.agg (PwL.own 3 rfl (PwL.own 4 rfl (PwL.p rfl (PwL.p rfl PwL.nil))))) rfl (Nat.le_of_ble_eq_true rfl)) ?_
          refine RW.p rfl rfl rfl (Yp.assign rfl rfl) ?_
          refine RW.nil ?_
          refine CW.frzB 3 1 rfl rfl (VwL.cons (Vw.row 0 rfl) (VwL.cons (Vw.id _) (VwL.cons (Vw.id _) (VwL.cons (Vw.id _) VwL.nil)))) ?_
          refine CW.frzB 3 1 rfl rfl (VwL.cons (Vw.id _) (VwL.cons (Vw.row 0 rfl) (VwL.cons (Vw.id _) (VwL.cons (Vw.id _) VwL.nil)))) ?_
          refine CW.ret ?_
          cases hm
          exact fin2 (.inr rfl) rfl (ResIs.cellN 1 rfl rfl many63 rfl) (ResIs.tmp rfl) (List.nil_sublist _) ⟨rfl, rfl⟩
        ·
          have hm := iff' hm hb4
          refine CW.seq ?_
          refine CW.region ?_
          refine RW.p rfl rfl rfl (Yp.fieldP rfl rfl Try.underlying63 rfl sz4) ?_
          refine RW.p rfl rfl rfl (Yp.loadB1 0 rfl rfl rfl one4 rfl) ?_
          refine RW.p rfl rfl rfl (Yp.assign rfl rfl) ?_
          refine RW.nil ?_
          refine CW.cond rfl (fun hb5 => ?_) (fun hb5 => ?_)
          ·
            have hm := ift hm hb5
            refine CW.seq ?_
            refine CW.region ?_
            refine RW.p rfl rfl rfl (Yp.loadBN 2 rfl rfl rfl many63 (Nat.le_of_ble_eq_true rfl)) ?_
            refine RW.u rfl rfl (Yu.storeB 1 rfl rfl rfl rfl sz63 (Pw.agg (PwL.own 3 rfl (PwL.own 4 rfl (PwL.p rfl (PwL.p rfl PwL.nil))))) rfl (Nat.le_of_ble_eq_true rfl)) ?_
            refine RW.p rfl rfl rfl (Yp.assign rfl rfl) ?_
            refine RW.nil ?_
            refine CW.frzB 3 1 rfl rfl (VwL.cons (Vw.row 0 rfl) (VwL.cons (Vw.id _) (VwL.cons (Vw.id _) (VwL.cons (Vw.id _) VwL.nil)))) ?_
            refine CW.frzB 3 1 rfl rfl (VwL.cons (Vw.id _) (VwL.cons (Vw.row 0 rfl) (VwL.cons (Vw.id _) (VwL.cons (Vw.id _) VwL.nil)))) ?_
            refine CW.ret ?_
            cases hm
            exact fin2 (.inr rfl) rfl (ResIs.cellN 1 rfl rfl many63 rfl) (ResIs.tmp rfl) (List.nil_sublist _) ⟨rfl, rfl⟩
          ·
            have hm := iff' hm hb5
            refine CW.seq ?_
            refine CW.region ?_
            refine RW.p rfl rfl rfl (Yp.fieldP rfl rfl Try.underlying63 rfl sz61) ?_
            refine RW.p rfl rfl rfl (Yp.loadB1 0 rfl rfl rfl one61 rfl) ?_
            refine RW.p rfl rfl rfl (Yp.lenSl rfl rfl Try.underlying61) ?_
            refine RW.p rfl rfl rfl (Yp.eql rfl rfl rfl) ?_
            refine RW.p rfl rfl rfl (Yp.assign rfl rfl) ?_
            refine RW.nil ?_
            refine CW.cond rfl (fun hb6 => ?_) (fun hb6 => ?_)
            ·
              have hm := ift hm hb6
              refine CW.seq ?_
              refine CW.region ?_
              refine RW.p rfl rfl rfl (Yp.loadBN 2 rfl rfl rfl many63 (Nat.le_of_ble_eq_true rfl)) ?_
              refine RW.u rfl rfl (Yu.storeB 1 rfl rfl rfl rfl sz63 (Pw.agg (PwL.own 3 rfl (PwL.own 4 rfl (PwL.p rfl (PwL.p rfl PwL.nil))))) rfl (Nat.le_of_ble_eq_true rfl)) ?_
              refine RW.p rfl rfl rfl (Yp.assign rfl rfl) ?_
              refine RW.nil ?_
              refine CW.frzB 3 1 rfl rfl (VwL.cons (Vw.row 0 rfl) (VwL.cons (Vw.id _) (VwL.cons (Vw.id _) (VwL.cons (Vw.id _) VwL.nil)))) ?_
              refine CW.frzB 3 1 rfl rfl (VwL.cons (Vw.id _) (VwL.cons (Vw.row 0 rfl) (VwL.cons (Vw.id _) (VwL.cons (Vw.id _) VwL.nil)))) ?_
              refine CW.ret ?_
              cases hm
              exact fin2 (.inr rfl) rfl (ResIs.cellN 1 rfl rfl many63 rfl) (ResIs.tmp rfl) (List.nil_sublist _) ⟨rfl, rfl⟩
            ·
              have hm := iff' hm hb6
              refine CW.seq ?_
              refine CW.region ?_
              refine RW.sel [2, 2, 2, 0, 0] rfl ?_
              obtain ⟨x3, hx3, hm⟩ := bnd hm
              refine RW.c rfl rfl rfl (Yc.fnV (σp := [.box b3 63 [.lit v1, .lit v2, .i x2.fLeft, .b x2.fDown], .row v1 24 1 (cL 1 (cN .u8)) x2.fDurable, .row v2 90 2 Write.cells x2.fPending]) (args' := [.lit (.pointer (some ⟨b3, 0, none⟩))]) rfl rfl ok59 rfl rfl rfl (VwL.id _) (m59_1_ok x2 b3 v1 v2 hx3)) ?_
              rintro _ _ ⟨_, ⟨rfl, rfl⟩, rfl⟩
              refine RW.p rfl rfl rfl (Yp.not rfl rfl) ?_
              refine RW.p rfl rfl rfl (Yp.assign rfl rfl) ?_
              refine RW.nil ?_
              refine CW.cond rfl (fun hb7 => ?_) (fun hb7 => ?_)
              ·
                have hm := ift hm hb7
                refine CW.seq ?_
                refine CW.region ?_
                refine RW.p rfl rfl rfl (Yp.loadBN 0 rfl rfl rfl many63 (Nat.le_of_ble_eq_true rfl)) ?_
                refine RW.u rfl rfl (Yu.storeB 4 rfl rfl rfl rfl sz63 (Pw.agg (PwL.own 1 rfl (PwL.own 2 rfl (PwL.p rfl (PwL.p rfl PwL.nil))))) rfl (Nat.le_of_ble_eq_true rfl)) ?_
                refine RW.p rfl rfl rfl (Yp.assign rfl rfl) ?_
                refine RW.nil ?_
                refine CW.frzB 1 3 rfl rfl (VwL.cons (Vw.row 0 rfl) (VwL.cons (Vw.id _) (VwL.cons (Vw.id _) (VwL.cons (Vw.id _) VwL.nil)))) ?_
                refine CW.frzB 1 2 rfl rfl (VwL.cons (Vw.id _) (VwL.cons (Vw.row 0 rfl) (VwL.cons (Vw.id _) (VwL.cons (Vw.id _) VwL.nil)))) ?_
                refine CW.ret ?_
                cases hm
                exact fin2 (.inr rfl) rfl (ResIs.cellN 2 rfl rfl many63 rfl) (ResIs.tmp rfl) (List.nil_sublist _) ⟨rfl, rfl⟩
              ·
                have hm := iff' hm hb7
                refine CW.skip ?_
                refine CW.seq ?_
                obtain ⟨l1, hs2, hk2⟩ := bnd hm
                refine CW.cut (fun E σ => ∃ v3 : Value, Sub [(6, .lit (.pointer (some ⟨b2, 0, none⟩))), (8, .lit (.pointer (some ⟨b3, 0, none⟩)))] E ∧ σ = [.box b2 63 [.lit (.slice none 0 0), .lit (.slice none 0 0), .i 0, .b false], .box b3 63 [.lit v1, .lit v3, .i x3.2.fLeft, .b x3.2.fDown], .row v1 24 1 (cL 1 (cN .u8)) x2.fDurable, .row v3 90 2 Write.cells l1]) ?_ ?_
                ·
                  have hm := hs2
                  obtain ⟨x4, hx4, hm⟩ := bnd hm
                  obtain ⟨hc1, hm⟩ := chk hm
                  refine CW.drawSel 10 rfl [0, 0, 0, 0, 0] [.box b3 63 [.lit v1, .lit v2, .i x3.2.fLeft, .b x3.2.fDown], .row v1 24 1 (cL 1 (cN .u8)) x2.fDurable, .row v2 90 2 Write.cells x2.fPending] [.box b1 63 [.sl 1 (cL 1 (cN .u8)) p0.fDurable, .sl 2 Write.cells p0.fPending, .i p0.fLeft, .b p0.fDown], .box b2 63 [.lit (.slice none 0 0), .lit (.slice none 0 0), .i 0, .b false]] rfl (by kernel_rfl) ?_
                  intro A1 w1 hB1
                  refine RH.take 0 rfl (by kernel_rfl) rfl rfl rfl hB1 (Yp.fieldP rfl rfl Try.underlying63 rfl sz61) ?_
                  refine RH.take 2 rfl (by kernel_rfl) rfl rfl rfl hB1 (Yp.move rfl rfl) ?_
                  refine RH.take 3 rfl (by kernel_rfl) rfl rfl rfl hB1 (Yp.move rfl rfl) ?_
                  refine RH.two 1 4 (by kernel_rfl) ?_ ?_
                  ·
                    refine RO.p rfl rfl rfl rfl rfl (Yp.loadB1 0 rfl rfl rfl one61 rfl) ?_
                    refine RH.one 4 (by kernel_rfl) ?_
                    refine RO.c rfl rfl rfl rfl rfl (Yc.fnV (σp := []) (args' := [.sl 1 (cN .u8) p2]) rfl rfl ok60 rfl rfl rfl (VwL.id _) (m60_ok p2 hx4)) (fun b hb => absurd hb (by simp [blks])) ?_
                    rintro _ _ ⟨_, ⟨rfl, rfl⟩, rfl⟩
                    refine RH.one 5 (by kernel_rfl) ?_
                    refine RO.p rfl rfl rfl rfl rfl (Yp.build rfl plc90 zer90 rfl rfl) ?_
                    refine RH.one 6 (by kernel_rfl) ?_
                    refine RO.v rfl rfl rfl rfl rfl (Yv.lit Write.cells ([(Write.mk p1 x4)] : List Write) rfl Try.underlying61 sz90 zer90 rfl rfl rfl rfl rfl (fun i hi => by match i, hi with | 0, _ => rfl) (by decide) (by decide)) (fun b hb => absurd hb (by simp)) ?_
                    rintro _ _ ⟨v6, rfl, rfl⟩
                    refine RH.one 7 (by kernel_rfl) ?_
                    refine RO.v rfl rfl rfl rfl rfl (Yv.app (l := x2.fPending) (l2 := ([(Write.mk p1 x4)] : List Write)) 3 rfl rfl rfl (.inr (.inr ⟨0, _, rfl, rfl⟩)) Try.underlying61 szb90 zer90 rfl rfl (fun _ => rfl) hc1) (inX (r := .row v2 90 2 Write.cells x2.fPending) 2 rfl) ?_
                    rintro _ _ ⟨v7, rfl, rfl⟩
                    refine RH.take 8 rfl (by kernel_rfl) rfl rfl rfl hB1 (Yp.fieldP rfl rfl Try.underlying63 rfl sz61) ?_
                    refine RH.one 9 (by kernel_rfl) ?_
                    refine RO.u rfl rfl rfl (Yu.storeB 1 rfl rfl rfl rfl sz61 (Pw.own 3 rfl) rfl (Nat.le_of_ble_eq_true rfl)) (inX (r := .box b3 63 [.lit v1, .lit v2, .i x3.2.fLeft, .b x3.2.fDown]) 0 rfl) ?_
                    refine RH.sel [5, 1, 1, 1] rfl ?_
                    refine RH.done (by kernel_rfl) ?_
                    cases hm
                    exact ⟨v7, (Sub.cons rfl (Sub.cons rfl Sub.nil)), rfl⟩
                  ·
                    refine RO.c rfl rfl rfl rfl rfl (Yc.fnV (σp := []) (args' := [.sl 1 (cN .u8) p2]) rfl rfl ok60 rfl rfl rfl (VwL.id _) (m60_ok p2 hx4)) (fun b hb => absurd hb (by simp [blks])) ?_
                    rintro _ _ ⟨_, ⟨rfl, rfl⟩, rfl⟩
                    refine RH.two 1 5 (by kernel_rfl) ?_ ?_
                    ·
                      refine RO.p rfl rfl rfl rfl rfl (Yp.loadB1 0 rfl rfl rfl one61 rfl) ?_
                      refine RH.one 5 (by kernel_rfl) ?_
                      refine RO.p rfl rfl rfl rfl rfl (Yp.build rfl plc90 zer90 rfl rfl) ?_
                      refine RH.one 6 (by kernel_rfl) ?_
                      refine RO.v rfl rfl rfl rfl rfl (Yv.lit Write.cells ([(Write.mk p1 x4)] : List Write) rfl Try.underlying61 sz90 zer90 rfl rfl rfl rfl rfl (fun i hi => by match i, hi with | 0, _ => rfl) (by decide) (by decide)) (fun b hb => absurd hb (by simp)) ?_
                      rintro _ _ ⟨v8, rfl, rfl⟩
                      refine RH.one 7 (by kernel_rfl) ?_
                      refine RO.v rfl rfl rfl rfl rfl (Yv.app (l := x2.fPending) (l2 := ([(Write.mk p1 x4)] : List Write)) 3 rfl rfl rfl (.inr (.inr ⟨0, _, rfl, rfl⟩)) Try.underlying61 szb90 zer90 rfl rfl (fun _ => rfl) hc1) (inX (r := .row v2 90 2 Write.cells x2.fPending) 2 rfl) ?_
                      rintro _ _ ⟨v9, rfl, rfl⟩
                      refine RH.take 8 rfl (by kernel_rfl) rfl rfl rfl hB1 (Yp.fieldP rfl rfl Try.underlying63 rfl sz61) ?_
                      refine RH.one 9 (by kernel_rfl) ?_
                      refine RO.u rfl rfl rfl (Yu.storeB 1 rfl rfl rfl rfl sz61 (Pw.own 3 rfl) rfl (Nat.le_of_ble_eq_true rfl)) (inX (r := .box b3 63 [.lit v1, .lit v2, .i x3.2.fLeft, .b x3.2.fDown]) 0 rfl) ?_
                      refine RH.sel [5, 1, 1, 1] rfl ?_
                      refine RH.done (by kernel_rfl) ?_
                      cases hm
                      exact ⟨v9, (Sub.cons rfl (Sub.cons rfl Sub.nil)), rfl⟩
                    ·
                      refine RO.p rfl rfl rfl rfl rfl (Yp.build rfl plc90 zer90 rfl rfl) ?_
                      refine RH.two 1 6 (by kernel_rfl) ?_ ?_
                      ·
                        refine RO.p rfl rfl rfl rfl rfl (Yp.loadB1 0 rfl rfl rfl one61 rfl) ?_
                        refine RH.one 6 (by kernel_rfl) ?_
                        refine RO.v rfl rfl rfl rfl rfl (Yv.lit Write.cells ([(Write.mk p1 x4)] : List Write) rfl Try.underlying61 sz90 zer90 rfl rfl rfl rfl rfl (fun i hi => by match i, hi with | 0, _ => rfl) (by decide) (by decide)) (fun b hb => absurd hb (by simp)) ?_
                        rintro _ _ ⟨v10, rfl, rfl⟩
                        refine RH.one 7 (by kernel_rfl) ?_
                        refine RO.v rfl rfl rfl rfl rfl (Yv.app (l := x2.fPending) (l2 := ([(Write.mk p1 x4)] : List Write)) 3 rfl rfl rfl (.inr (.inr ⟨0, _, rfl, rfl⟩)) Try.underlying61 szb90 zer90 rfl rfl (fun _ => rfl) hc1) (inX (r := .row v2 90 2 Write.cells x2.fPending) 2 rfl) ?_
                        rintro _ _ ⟨v11, rfl, rfl⟩
                        refine RH.take 8 rfl (by kernel_rfl) rfl rfl rfl hB1 (Yp.fieldP rfl rfl Try.underlying63 rfl sz61) ?_
                        refine RH.one 9 (by kernel_rfl) ?_
                        refine RO.u rfl rfl rfl (Yu.storeB 1 rfl rfl rfl rfl sz61 (Pw.own 3 rfl) rfl (Nat.le_of_ble_eq_true rfl)) (inX (r := .box b3 63 [.lit v1, .lit v2, .i x3.2.fLeft, .b x3.2.fDown]) 0 rfl) ?_
                        refine RH.sel [5, 1, 1, 1] rfl ?_
                        refine RH.done (by kernel_rfl) ?_
                        cases hm
                        exact ⟨v11, (Sub.cons rfl (Sub.cons rfl Sub.nil)), rfl⟩
                      ·
                        refine RO.v rfl rfl rfl rfl rfl (Yv.lit Write.cells ([(Write.mk p1 x4)] : List Write) rfl Try.underlying61 sz90 zer90 rfl rfl rfl rfl rfl (fun i hi => by match i, hi with | 0, _ => rfl) (by decide) (by decide)) (fun b hb => absurd hb (by simp)) ?_
                        rintro _ _ ⟨v12, rfl, rfl⟩
                        refine RH.one 1 (by kernel_rfl) ?_
                        refine RO.p rfl rfl rfl rfl rfl (Yp.loadB1 1 rfl rfl rfl one61 rfl) ?_
                        refine RH.one 7 (by kernel_rfl) ?_
                        refine RO.v rfl rfl rfl rfl rfl (Yv.app (l := x2.fPending) (l2 := ([(Write.mk p1 x4)] : List Write)) 3 rfl rfl rfl (.inr (.inr ⟨0, _, rfl, rfl⟩)) Try.underlying61 szb90 zer90 rfl rfl (fun _ => rfl) hc1) (inX (r := .row v2 90 2 Write.cells x2.fPending) 2 rfl) ?_
                        rintro _ _ ⟨v13, rfl, rfl⟩
                        refine RH.take 8 rfl (by kernel_rfl) rfl rfl rfl hB1 (Yp.fieldP rfl rfl Try.underlying63 rfl sz61) ?_
                        refine RH.one 9 (by kernel_rfl) ?_
                        refine RO.u rfl rfl rfl (Yu.storeB 1 rfl rfl rfl rfl sz61 (Pw.own 3 rfl) rfl (Nat.le_of_ble_eq_true rfl)) (inX (r := .box b3 63 [.lit v1, .lit v2, .i x3.2.fLeft, .b x3.2.fDown]) 0 rfl) ?_
                        refine RH.sel [5, 1, 1, 1] rfl ?_
                        refine RH.done (by kernel_rfl) ?_
                        cases hm
                        exact ⟨v13, (Sub.cons rfl (Sub.cons rfl Sub.nil)), rfl⟩
                ·
                  rintro E σ ⟨v3, hsub2, rfl⟩
                  have hm := hk2
                  refine CW.weak ?_ hsub2
                  refine CW.seq ?_
                  refine CW.region ?_
                  refine RW.p rfl rfl rfl (Yp.loadBN 1 rfl rfl rfl many63 (Nat.le_of_ble_eq_true rfl)) ?_
                  refine RW.u rfl rfl (Yu.storeB 0 rfl rfl rfl rfl sz63 (Pw.agg (PwL.own 2 rfl (PwL.own 3 rfl (PwL.p rfl (PwL.p rfl PwL.nil))))) rfl (Nat.le_of_ble_eq_true rfl)) ?_
                  refine RW.p rfl rfl rfl (Yp.assign rfl rfl) ?_
                  refine RW.nil ?_
                  refine CW.frzB 2 0 rfl rfl (VwL.cons (Vw.row 0 rfl) (VwL.cons (Vw.id _) (VwL.cons (Vw.id _) (VwL.cons (Vw.id _) VwL.nil)))) ?_
                  refine CW.frzB 2 0 rfl rfl (VwL.cons (Vw.id _) (VwL.cons (Vw.row 0 rfl) (VwL.cons (Vw.id _) (VwL.cons (Vw.id _) VwL.nil)))) ?_
                  refine CW.ret ?_
                  cases hm
                  exact fin2 (.inr rfl) rfl (ResIs.cellN 0 rfl rfl many63 rfl) (ResIs.tmp rfl) (List.nil_sublist _) ⟨rfl, rfl⟩

def m61_1 (p0 : Disk) (p1 : Write) : Option Disk :=
  if 0 ≤ p1.fAt ∧ p1.fAt < (p0.fDurable.length : Int) then
  some (Disk.mk (p0.fDurable.set (Int.toNat p1.fAt) p1.fData) p0.fPending p0.fLeft p0.fDown)
  else none

set_option maxHeartbeats 4000000 in
theorem m61_1_ok (p0 : Disk) (p1 : Write) (pb0 : Nat) (pv0_0 : Value) (pv0_1 : Value) {r : Disk} (hm : m61_1 p0 p1 = some r) : Ab.Fn Try.prog 61 [.lit (.pointer (some ⟨pb0, 0, none⟩)), .agg [.i p1.fAt, .sl 1 (cN .u8) p1.fData]] [.box pb0 63 [.lit pv0_0, .lit pv0_1, .i p0.fLeft, .b p0.fDown], .row pv0_0 24 1 (cL 1 (cN .u8)) p0.fDurable, .row pv0_1 90 2 Write.cells p0.fPending] (fun a s => ∃ w0 : Value, a = .tup [] ∧ s = [.box pb0 63 [.lit w0, .lit pv0_1, .i p0.fLeft, .b p0.fDown], .row w0 24 1 (cL 1 (cN .u8)) r.fDurable, .row pv0_1 90 2 Write.cells p0.fPending]) := by
  rw [m61_1] at hm
  refine Ab.Fn.of Try.func61 rfl rfl rfl (fun C => ?_)
  refine CW.seq ?_
  refine CW.region ?_
  refine RW.v rfl rfl rfl (Yv.box rfl rfl (Pw.p rfl)) ?_
  rintro _ _ ⟨b1, rfl, rfl⟩
  refine RW.nil ?_
  obtain ⟨hc1, hm⟩ := chk hm
  refine CW.drawSel 10 rfl [1, 1, 1, 0] [.box pb0 63 [.lit pv0_0, .lit pv0_1, .i p0.fLeft, .b p0.fDown], .row pv0_0 24 1 (cL 1 (cN .u8)) p0.fDurable, .row pv0_1 90 2 Write.cells p0.fPending] [.box b1 90 [.i p1.fAt, .sl 1 (cN .u8) p1.fData]] rfl (by kernel_rfl) ?_
  intro A1 w1 hB1
  refine RH.take 0 rfl (by kernel_rfl) rfl rfl rfl hB1 (Yp.move rfl rfl) ?_
  refine RH.take 1 rfl (by kernel_rfl) rfl rfl rfl hB1 (Yp.nilCheckP rfl rfl) ?_
  refine RH.take 2 rfl (by kernel_rfl) rfl rfl rfl hB1 (Yp.fieldP rfl rfl Try.underlying63 rfl sz60) ?_
  refine RH.take 4 rfl (by kernel_rfl) rfl rfl rfl hB1 (Yp.fieldP rfl rfl Try.underlying90 rfl sz3) ?_
  refine RH.take 5 rfl (by kernel_rfl) rfl rfl rfl hB1 (Yp.loadB1 0 rfl rfl rfl one3 rfl) ?_
  refine RH.take 6 rfl (by kernel_rfl) rfl rfl rfl hB1 (Yp.fieldP rfl rfl Try.underlying90 rfl sz24) ?_
  refine RH.take 7 rfl (by kernel_rfl) rfl rfl rfl hB1 (Yp.loadB1 0 rfl rfl rfl one24 rfl) ?_
  refine RH.one 3 (by kernel_rfl) ?_
  refine RO.p rfl rfl rfl rfl rfl (Yp.loadB1 1 rfl rfl rfl one60 rfl) ?_
  refine RH.one 8 (by kernel_rfl) ?_
  refine RO.p rfl rfl rfl rfl rfl (Yp.indexRow 2 rfl rfl rfl rfl Try.underlying60 sz24 hc1) ?_
  refine RH.one 9 (by kernel_rfl) ?_
  refine RO.u rfl rfl rfl (Yu.storeR (of := 0) (m := Int.toNat p1.fAt) 2 p1.fData rfl rfl rfl rfl sz24 rfl rfl rfl (by have := hc1; (try simp only [List.length_set] at this); (try simp only [List.length_set]); omega) (by decide) rfl) (inX (r := .row pv0_0 24 1 (cL 1 (cN .u8)) p0.fDurable) 1 rfl) ?_
  refine RH.sel [1, 1, 1] rfl ?_
  refine RH.done (by kernel_rfl) ?_
  cases hm
  exact fin0 (.inl rfl) rfl  (.cons_cons _ (.cons_cons _ (.cons_cons _ (List.nil_sublist _)))) ⟨pv0_0, rfl, rfl⟩

def m47_l1 (x2 : Disk) (n1 : Int) (c1 : Bool) : Nat → (List (List Int)) → Int → Option (List (List Int))
  | 0, _, _ => none
  | k1 + 1, l4, n4 =>
    if (decide (n4 < (x2.fPending.length : Int))) = true then
      if 0 ≤ n4 ∧ n4 < (x2.fPending.length : Int) then
      (m61_1 (Disk.mk l4 x2.fPending n1 c1) (x2.fPending[Int.toNat n4]!)).bind fun x4 =>
      m47_l1 x2 n1 c1 k1 x4.fDurable (w64 (n4 + 1))
      else none
    else
      some l4
def m47 (p0 : Disk) : Option (Disk × Int) :=
  (m45 p0).bind fun x1 =>
  if (!x1) = true then
    some ((Disk.mk [] [] 0 false), 1)
  else
    (m58_1 p0).bind fun x2 =>
    Option.bind (
      if p0.fDown = true then
        some (x2.fLeft, x2.fDown, true)
      else
        (m59_1 x2).bind fun x3 =>
        some (x3.2.fLeft, x3.2.fDown, (!x3.1))) fun (n1, c1, c2) =>
    if c2 = true then
      some ((Disk.mk x2.fDurable x2.fPending n1 c1), 17)
    else
      Option.bind (
        (m47_l1 x2 n1 c1 (Int.toNat (x2.fPending.length : Int) + 1) x2.fDurable 0).bind fun l5 =>
        some l5) fun l1 =>
      some ((Disk.mk l1 [] n1 c1), 0)

set_option maxHeartbeats 4000000 in
theorem m47_ok (p0 : Disk)  {r : Disk × Int} (hm : m47 p0 = some r) : Ab.Fn Try.prog 47 [.agg [.sl 1 (cL 1 (cN .u8)) p0.fDurable, .sl 2 Write.cells p0.fPending, .i p0.fLeft, .b p0.fDown]] [] (fun a s => a = .tup [.agg [.sl 1 (cL 1 (cN .u8)) r.1.fDurable, .sl 2 Write.cells r.1.fPending, .i r.1.fLeft, .b r.1.fDown], .i r.2] ∧ s = []) := by
  rw [m47] at hm
  refine Ab.Fn.of Try.func47 rfl rfl rfl (fun C => ?_)
  refine CW.seq ?_
  refine CW.region ?_
  refine RW.v rfl rfl rfl (Yv.box rfl rfl (Pw.p rfl)) ?_
  rintro _ _ ⟨b1, rfl, rfl⟩
  refine RW.v rfl rfl rfl (Yv.alloc rfl zerb63) ?_
  rintro _ _ ⟨b2, rfl, rfl⟩
  refine RW.p rfl rfl rfl (Yp.assign rfl rfl) ?_
  refine RW.nil ?_
  refine CW.seq ?_
  refine CW.seq ?_
  refine CW.region ?_
  refine RW.p rfl rfl rfl (Yp.loadBN 1 rfl rfl rfl many63 (Nat.le_of_ble_eq_true rfl)) ?_
  obtain ⟨x1, hx1, hm⟩ := bnd hm
  refine RW.c rfl rfl rfl (Yc.fnV (σp := []) (args' := [.agg [.sl 1 (cL 1 (cN .u8)) p0.fDurable, .sl 2 Write.cells p0.fPending, .i p0.fLeft, .b p0.fDown]]) rfl rfl ok45 rfl rfl rfl (VwL.id _) (m45_ok p0 hx1)) ?_
  rintro _ _ ⟨_, ⟨rfl, rfl⟩, rfl⟩
  refine RW.p rfl rfl rfl (Yp.not rfl rfl) ?_
  refine RW.nil ?_
  refine CW.cond rfl (fun hb1 => ?_) (fun hb1 => ?_)
  ·
    have hm := ift hm hb1
    refine CW.seq ?_
    refine CW.region ?_
    refine RW.p rfl rfl rfl (Yp.build rfl plc63 zer63 rfl rfl) ?_
    refine RW.u rfl rfl (Yu.storeB 0 rfl rfl rfl rfl sz63 (Pw.p rfl) rfl (Nat.le_of_ble_eq_true rfl)) ?_
    refine RW.p rfl rfl rfl (Yp.assign rfl rfl) ?_
    refine RW.nil ?_
    refine CW.sayB 0 rfl (VwL.cons (Vw.nil 1 (cL 1 (cN .u8))) (VwL.cons (Vw.nil 2 Write.cells) (VwL.cons (Vw.id _) (VwL.cons (Vw.id _) VwL.nil)))) ?_
    refine CW.ret ?_
    cases hm
    exact fin2 (.inr rfl) rfl (ResIs.cellN 0 rfl rfl many63 rfl) (ResIs.tmp rfl) (List.nil_sublist _) ⟨rfl, rfl⟩
  ·
    have hm := iff' hm hb1
    refine CW.skip ?_
    refine CW.seq ?_
    refine CW.region ?_
    refine RW.p rfl rfl rfl (Yp.loadBN 1 rfl rfl rfl many63 (Nat.le_of_ble_eq_true rfl)) ?_
    obtain ⟨x2, hx2, hm⟩ := bnd hm
    refine RW.c rfl rfl rfl (Yc.fnV (σp := []) (args' := [.agg [.sl 1 (cL 1 (cN .u8)) p0.fDurable, .sl 2 Write.cells p0.fPending, .i p0.fLeft, .b p0.fDown]]) rfl rfl ok58 rfl rfl rfl (VwL.id _) (m58_1_ok p0 hx2)) ?_
    rintro _ _ ⟨_, ⟨v1, v2, rfl, rfl⟩, rfl⟩
    refine RW.v rfl rfl rfl (Yv.alloc rfl zerb63) ?_
    rintro _ _ ⟨b3, rfl, rfl⟩
    refine RW.u rfl rfl (Yu.storeB 0 rfl rfl rfl rfl sz63 (Pw.agg (PwL.own 1 rfl (PwL.own 2 rfl (PwL.p rfl (PwL.p rfl PwL.nil))))) rfl (Nat.le_of_ble_eq_true rfl)) ?_
    refine RW.nil ?_
    refine CW.seq ?_
    refine CW.seq ?_
    obtain ⟨⟨n1, c1, c2⟩, hs1, hk1⟩ := bnd hm
    refine CW.cut (fun E σ => Sub [(2, .lit (.pointer (some ⟨b2, 0, none⟩))), (4, .lit (.pointer (some ⟨b3, 0, none⟩))), (18, .b c2)] E ∧ σ = [.box b2 63 [.lit (.slice none 0 0), .lit (.slice none 0 0), .i 0, .b false], .box b3 63 [.lit v1, .lit v2, .i n1, .b c1], .row v1 24 1 (cL 1 (cN .u8)) x2.fDurable, .row v2 90 2 Write.cells x2.fPending]) ?_ ?_
    ·
      have hm := hs1
      refine CW.region ?_
      refine RW.p rfl rfl rfl (Yp.fieldP rfl rfl Try.underlying63 rfl sz4) ?_
      refine RW.p rfl rfl rfl (Yp.loadB1 4 rfl rfl rfl one4 rfl) ?_
      refine RW.p rfl rfl rfl (Yp.move rfl rfl) ?_
      rcases Bool.eq_false_or_eq_true p0.fDown with hb2 | hb2
      ·
        have hm := ift hm hb2
        refine RW.eqv 15 rfl (congrArg AV.b hb2) ?_
        refine RW.skip rfl rfl rfl ?_
        refine RW.skip rfl rfl rfl ?_
        refine RW.p rfl rfl rfl (Yp.pickT rfl rfl rfl) ?_
        refine RW.sel [3, 0, 0, 0] rfl ?_
        refine RW.nil ?_
        cases hm
        exact ⟨(Sub.cons rfl (Sub.cons rfl (Sub.cons rfl Sub.nil))), rfl⟩
      ·
        have hm := iff' hm hb2
        refine RW.eqv 15 rfl (congrArg AV.b hb2) ?_
        obtain ⟨x3, hx3, hm⟩ := bnd hm
        refine RW.c rfl rfl rfl (Yc.fnV (σp := [.box b3 63 [.lit v1, .lit v2, .i x2.fLeft, .b x2.fDown], .row v1 24 1 (cL 1 (cN .u8)) x2.fDurable, .row v2 90 2 Write.cells x2.fPending]) (args' := [.lit (.pointer (some ⟨b3, 0, none⟩))]) rfl rfl ok59 rfl rfl rfl (VwL.id _) (m59_1_ok x2 b3 v1 v2 hx3)) ?_
        rintro _ _ ⟨_, ⟨rfl, rfl⟩, rfl⟩
        refine RW.p rfl rfl rfl (Yp.not rfl rfl) ?_
        refine RW.p rfl rfl rfl (Yp.pickF rfl rfl rfl) ?_
        refine RW.sel [3, 0, 0, 0] rfl ?_
        refine RW.nil ?_
        cases hm
        exact ⟨(Sub.cons rfl (Sub.cons rfl (Sub.cons rfl Sub.nil))), rfl⟩
    ·
      rintro E σ ⟨hsub1, rfl⟩
      have hm := hk1
      refine CW.weak ?_ hsub1
      refine CW.cond rfl (fun hb3 => ?_) (fun hb3 => ?_)
      ·
        have hm := ift hm hb3
        refine CW.seq ?_
        refine CW.region ?_
        refine RW.p rfl rfl rfl (Yp.loadBN 1 rfl rfl rfl many63 (Nat.le_of_ble_eq_true rfl)) ?_
        refine RW.u rfl rfl (Yu.storeB 0 rfl rfl rfl rfl sz63 (Pw.agg (PwL.own 2 rfl (PwL.own 3 rfl (PwL.p rfl (PwL.p rfl PwL.nil))))) rfl (Nat.le_of_ble_eq_true rfl)) ?_
        refine RW.p rfl rfl rfl (Yp.assign rfl rfl) ?_
        refine RW.nil ?_
        refine CW.frzB 2 0 rfl rfl (VwL.cons (Vw.row 0 rfl) (VwL.cons (Vw.id _) (VwL.cons (Vw.id _) (VwL.cons (Vw.id _) VwL.nil)))) ?_
        refine CW.frzB 2 0 rfl rfl (VwL.cons (Vw.id _) (VwL.cons (Vw.row 0 rfl) (VwL.cons (Vw.id _) (VwL.cons (Vw.id _) VwL.nil)))) ?_
        refine CW.ret ?_
        cases hm
        exact fin2 (.inr rfl) rfl (ResIs.cellN 0 rfl rfl many63 rfl) (ResIs.tmp rfl) (List.nil_sublist _) ⟨rfl, rfl⟩
      ·
        have hm := iff' hm hb3
        refine CW.skip ?_
        refine CW.seq ?_
        obtain ⟨l1, hs2, hk2⟩ := bnd hm
        refine CW.cut (fun E σ => ∃ v3 : Value, Sub [(2, .lit (.pointer (some ⟨b2, 0, none⟩))), (4, .lit (.pointer (some ⟨b3, 0, none⟩)))] E ∧ σ = [.box b2 63 [.lit (.slice none 0 0), .lit (.slice none 0 0), .i 0, .b false], .box b3 63 [.lit v3, .lit v2, .i n1, .b c1], .row v3 24 1 (cL 1 (cN .u8)) l1, .row v2 90 2 Write.cells x2.fPending]) ?_ ?_
        ·
          have hm := hs2
          refine CW.seq ?_
          refine CW.region ?_
          refine RW.p rfl rfl rfl (Yp.fieldP rfl rfl Try.underlying63 rfl sz61) ?_
          refine RW.p rfl rfl rfl (Yp.loadB1 1 rfl rfl rfl one61 rfl) ?_
          refine RW.p rfl rfl rfl (Yp.lenRow 3 rfl rfl rfl Try.underlying61) ?_
          refine RW.p rfl rfl rfl (Yp.move rfl rfl) ?_
          refine RW.nil ?_
          refine CW.block ?_
          obtain ⟨l5, hs3, hk3⟩ := bnd hm
          refine CW.lp (fun k1 E σ => ∃ l4 : List (List Int), ∃ n4 : Int, ∃ v6 : Value, Sub [(2, .lit (.pointer (some ⟨b2, 0, none⟩))), (4, .lit (.pointer (some ⟨b3, 0, none⟩))), (21, .lit v2), (22, .i (x2.fPending.length : Int)), (23, .i n4)] E ∧ σ = [.box b2 63 [.lit (.slice none 0 0), .lit (.slice none 0 0), .i 0, .b false], .box b3 63 [.lit v6, .lit v2, .i n1, .b c1], .row v6 24 1 (cL 1 (cN .u8)) l4, .row v2 90 2 Write.cells x2.fPending] ∧ m47_l1 x2 n1 c1 k1 l4 n4 = some l5) (Int.toNat (x2.fPending.length : Int) + 1) ?_ ?_
          · exact ⟨x2.fDurable, 0, v1, (Sub.cons rfl (Sub.cons rfl (Sub.cons rfl (Sub.cons rfl (Sub.cons rfl Sub.nil))))), rfl, hs3⟩
          ·
            rintro k1 E σ ⟨l4, n4, v6, hsub2, rfl, hm⟩
            refine CW.weak ?_ hsub2
            cases k1 with
            | zero => cases hm
            | succ k1 =>
              rw [m47_l1] at hm
              refine CW.seq ?_
              refine CW.region ?_
              refine RW.p rfl rfl rfl (Yp.lss rfl rfl rfl) ?_
              refine RW.nil ?_
              refine CW.seq ?_
              refine CW.cond rfl (fun hb4 => ?_) (fun hb4 => ?_)
              ·
                have hm := ift hm hb4
                refine CW.skip ?_
                refine CW.seq ?_
                refine CW.block ?_
                refine CW.seq ?_
                refine CW.region ?_
                obtain ⟨hc1, hm⟩ := chk hm
                refine RW.p rfl rfl rfl (Yp.indexRow 3 rfl rfl rfl rfl Try.underlying61 sz90 hc1) ?_
                refine RW.p rfl rfl rfl (Yp.loadRN (of := 0) 3 (Int.toNat n4) rfl rfl rfl many90 rfl (by have := hc1; (try simp only [List.length_set] at this); (try simp only [List.length_set]); omega) (by decide)) ?_
                refine RW.v rfl rfl rfl (Yv.alloc rfl zerb90) ?_
                rintro _ _ ⟨b4, rfl, rfl⟩
                refine RW.u rfl rfl (Yu.storeB 0 rfl rfl rfl rfl sz90 (Pw.p rfl) rfl (Nat.le_of_ble_eq_true rfl)) ?_
                refine RW.nil ?_
                refine CW.region ?_
                refine RW.p rfl rfl rfl (Yp.loadBN 0 rfl rfl rfl many90 (Nat.le_of_ble_eq_true rfl)) ?_
                refine RW.sel [2, 2, 2, 0, 0] rfl ?_
                obtain ⟨x4, hx4, hm⟩ := bnd hm
                refine RW.c rfl rfl rfl (Yc.fnV (σp := [.box b3 63 [.lit v6, .lit v2, .i n1, .b c1], .row v6 24 1 (cL 1 (cN .u8)) l4, .row v2 90 2 Write.cells x2.fPending]) (args' := [.lit (.pointer (some ⟨b3, 0, none⟩)), .agg [.i ((x2.fPending[Int.toNat n4]!).fAt), .sl 1 (cN .u8) ((x2.fPending[Int.toNat n4]!).fData)]]) rfl rfl ok61 rfl rfl rfl (VwL.id _) (m61_1_ok (Disk.mk l4 x2.fPending n1 c1) (x2.fPending[Int.toNat n4]!) b3 v6 v2 hx4)) ?_
                rintro _ _ ⟨_, ⟨v8, rfl, rfl⟩, rfl⟩
                refine RW.nil ?_
                refine CW.region ?_
                refine RW.p rfl rfl rfl (Yp.add rfl rfl rfl) ?_
                refine RW.p rfl rfl rfl (Yp.move rfl rfl) ?_
                refine RW.sel [4, 0, 0, 0] rfl ?_
                refine RW.nil ?_
                exact ⟨k1, Nat.lt_succ_self _, _, _, v8, (Sub.cons rfl (Sub.cons rfl (Sub.cons rfl (Sub.cons rfl (Sub.cons rfl Sub.nil))))), rfl, hm⟩
              ·
                have hm := iff' hm hb4
                refine CW.exit ?_
                cases hm
                have hm := hk3
                cases hm
                exact ⟨v6, (Sub.cons rfl (Sub.cons rfl Sub.nil)), rfl⟩
        ·
          rintro E σ ⟨v3, hsub3, rfl⟩
          have hm := hk2
          refine CW.weak ?_ hsub3
          refine CW.seq ?_
          refine CW.region ?_
          refine RW.p rfl rfl rfl (Yp.fieldP rfl rfl Try.underlying63 rfl sz61) ?_
          refine RW.u rfl rfl (Yu.storeB 1 rfl rfl rfl rfl sz61 (Pw.p rfl) rfl (Nat.le_of_ble_eq_true rfl)) ?_
          refine RW.nil ?_
          refine CW.seq ?_
          refine CW.region ?_
          refine RW.p rfl rfl rfl (Yp.loadBN 1 rfl rfl rfl many63 (Nat.le_of_ble_eq_true rfl)) ?_
          refine RW.u rfl rfl (Yu.storeB 0 rfl rfl rfl rfl sz63 (Pw.agg (PwL.own 2 rfl (PwL.p rfl (PwL.p rfl (PwL.p rfl PwL.nil))))) rfl (Nat.le_of_ble_eq_true rfl)) ?_
          refine RW.p rfl rfl rfl (Yp.assign rfl rfl) ?_
          refine RW.nil ?_
          refine CW.frzB 2 0 rfl rfl (VwL.cons (Vw.row 0 rfl) (VwL.cons (Vw.id _) (VwL.cons (Vw.id _) (VwL.cons (Vw.id _) VwL.nil)))) ?_
          refine CW.sayB 0 rfl (VwL.cons (Vw.id _) (VwL.cons (Vw.nil 2 Write.cells) (VwL.cons (Vw.id _) (VwL.cons (Vw.id _) VwL.nil)))) ?_
          refine CW.ret ?_
          cases hm
          exact fin2 (.inr rfl) rfl (ResIs.cellN 0 rfl rfl many63 rfl) (ResIs.tmp rfl) (List.nil_sublist _) ⟨rfl, rfl⟩


end Go.Proofs.YtgdahkddhecloaaD
end
