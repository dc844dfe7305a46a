/- Regions that draw their order: carried out in the order of the text; what was done stands in every order. Program-independent. -/
import Derived.Test.YtgdahkddhecloaaIw8
set_option linter.unusedSectionVars false
set_option linter.unusedVariables false
set_option linter.unusedSimpArgs false
namespace Go.Iv
variable [U : Uni] [L : UniL]
open Go Go.RowKit

/-! ### sets of numbers as numbers -/

noncomputable def lm (l : List Nat) : Nat := List.rec 0 (fun t _ ih => Nat.lor ih (Nat.pow 2 t)) l
theorem lm_bit : ∀ (l : List Nat) (t : Nat), (lm l).testBit t = true ↔ t ∈ l
  | [], t => by simp [lm]
  | a :: l, t => by
    show ((lm l) ||| 2 ^ a).testBit t = true ↔ _
    rw [Nat.testBit_or, Bool.or_eq_true, lm_bit l t, Nat.testBit_two_pow]
    simp only [decide_eq_true_eq, List.mem_cons]
    constructor
    · rintro (h | h)
      · exact .inr h
      · exact .inl h.symm
    · rintro (h | h)
      · exact .inr h.symm
      · exact .inl h
theorem and_zero {x y t : Nat} (h : Nat.land x y = 0) (hx : x.testBit t = true) (hy : y.testBit t = true) : False := by
  have h' : x &&& y = 0 := h
  have := Nat.testBit_and x y t
  rw [h', hx, hy] at this
  simp at this

/-! ### which operations wait for which -/

noncomputable def msk (acc : List Nat) (es : List Edge) : Nat := List.rec 0 (fun e _ ih => match Region.binds .any e with
  | true => Nat.lor ih (Nat.lor (Nat.pow 2 e.on) (acc.getD e.on 0))
  | false => ih) es
theorem msk_bit {acc : List Nat} : ∀ {es : List Edge} {j : Nat}, (msk acc es).testBit j = true → ∃ e ∈ es, Region.binds .any e = true ∧ (j = e.on ∨ (acc.getD e.on 0).testBit j = true)
  | [], j, h => by simp [msk] at h
  | e :: es, j, h => by
    change (match Region.binds .any e with
      | true => Nat.lor (msk acc es) (Nat.lor (Nat.pow 2 e.on) (acc.getD e.on 0))
      | false => msk acc es).testBit j = true at h
    cases hb : Region.binds .any e with
    | false =>
      rw [hb] at h
      obtain ⟨e', h1, h2⟩ := msk_bit h
      exact ⟨e', List.mem_cons_of_mem _ h1, h2⟩
    | true =>
      rw [hb] at h
      change ((msk acc es) ||| ((2 ^ e.on) ||| (acc.getD e.on 0))).testBit j = true at h
      rw [Nat.testBit_or, Nat.testBit_or, Bool.or_eq_true, Bool.or_eq_true, Nat.testBit_two_pow] at h
      rcases h with h | h | h
      · obtain ⟨e', h1, h2⟩ := msk_bit h
        exact ⟨e', List.mem_cons_of_mem _ h1, h2⟩
      · exact ⟨e, List.mem_cons_self, hb, .inl (by simp only [decide_eq_true_eq] at h; exact h.symm)⟩
      · exact ⟨e, List.mem_cons_self, hb, .inr h⟩
noncomputable def msks (l : List Oper) : List Nat → List Nat := List.rec (fun acc => acc) (fun o _ ih acc => ih (acc ++ [msk acc o.after.toList])) l

/-- what an operation waits for has come up -/
def Rdy (bs : List Bool) (o : Oper) : Prop := ∀ e ∈ o.after.toList, Region.binds .any e = true → bs[e.on]? = some true
def Closed (ops : List Oper) (bs : List Bool) : Prop := ∀ (i : Nat) o, ops[i]? = some o → bs[i]? = some true → Rdy bs o
def MskOk (ops : List Oper) (acc : List Nat) : Prop := ∀ (i m : Nat) o, acc[i]? = some m → ops[i]? = some o → ∀ bs, Closed ops bs → Rdy bs o → ∀ j, m.testBit j = true → bs[j]? = some true

theorem msks_ok (ops : List Oper) : ∀ (l : List Oper) (acc : List Nat), (∃ pre, ops = pre ++ l ∧ pre.length = acc.length) → MskOk ops acc → MskOk ops (msks l acc)
  | [], acc, _, h => h
  | o :: l, acc, ⟨pre, hp, hl⟩, h => by
    refine msks_ok ops l _ ⟨pre ++ [o], by rw [hp]; simp, by simp [hl]⟩ fun i m o' hm ho bs hc hr j hj => ?_
    rw [List.getElem?_append] at hm
    split at hm
    · exact h i m o' hm ho bs hc hr j hj
    · rename_i hlt
      have hi : i = acc.length := by
        have := (List.getElem?_eq_some_iff.1 hm).1
        simp at this
        omega
      subst hi
      rw [Nat.sub_self] at hm
      cases hm
      have ho' : o' = o := by
        rw [hp, ← hl, List.getElem?_append_right (Nat.le_refl _), Nat.sub_self] at ho
        exact (Option.some.inj ho).symm
      subst ho'
      obtain ⟨e, h1, h2, h3⟩ := msk_bit hj
      have h4 := hr e h1 h2
      rcases h3 with rfl | h3
      · exact h4
      · cases ha : acc[e.on]? with
        | none => rw [List.getD_eq_getElem?_getD, ha] at h3; simp at h3
        | some m' =>
          rw [List.getD_eq_getElem?_getD, ha] at h3
          have hlt' := (List.getElem?_eq_some_iff.1 ha).1
          cases hoe : ops[e.on]? with
          | none =>
            rw [List.getElem?_eq_none_iff, hp, List.length_append] at hoe
            omega
          | some oe => exact h e.on m' oe ha hoe bs hc (hc e.on oe hoe h4) j h3

/-! ### what an operation looks at -/

def tmpOf : Operand → List Nat
  | .tmp t => [t]
  | _ => []
def gslot (ops : Array Oper) (o : Oper) : List Nat := match o.guard with
  | none => []
  | some (j, _) => match (ops[j]?).bind (·.dst) with
    | some t => [t]
    | none => []
def opSlots (ops : Array Oper) (o : Oper) : List Nat := o.op.operands.toList.flatMap tmpOf ++ gslot ops o
/-- may it have an effect? -/
def efk (o : Oper) : Bool := match o.op with
  | .store _ _ _ => true
  | .buildSlice _ _ _ => true
  | .makeSlice _ _ _ => true
  | .alloc _ => true
  | .box _ _ => true
  | .slice _ _ _ _ _ => true
  | .call { callee := .builtin .len, .. } => false
  | .call { callee := .builtin .max, .. } => false
  | .call { callee := .builtin .min, .. } => false
  | .call _ => true
  | _ => false
def dmk : Option Nat → Nat
  | none => 0
  | some t => Nat.pow 2 t
theorem dmk_bit {d : Option Nat} {t : Nat} (h : d = some t) : (dmk d).testBit t = true := by
  subst h
  show (2 ^ t).testBit t = true
  rw [Nat.testBit_two_pow]; simp

structure Sk where
  anc : Nat
  sm : Nat
  dm : Nat
  ef : Bool
/-- operations j before i in the text: is one bound to wait for the other, or do they leave each other's slots alone? -/
def skOk (j : Nat) (a b : Sk) : Bool := b.anc.testBit j || (Nat.beq (Nat.land a.dm b.sm) 0 && Nat.beq (Nat.land a.dm b.dm) 0 && Nat.beq (Nat.land b.dm a.sm) 0)
/-- the pairs whose effects are to be compared -/
noncomputable def skRow (b : Sk) (i : Nat) (l : List Sk) : Nat → Option (List (Nat × Nat)) := List.rec (fun _ => some []) (fun a _ ih j => match skOk j a b with
  | true => match !b.anc.testBit j && (a.ef || b.ef) with
    | true => (ih (j + 1)).map fun ps => (j, i) :: ps
    | false => ih (j + 1)
  | false => none) l
noncomputable def skAll (l : List Sk) : List Sk → Nat → Option (List (Nat × Nat)) := List.rec (fun _ _ => some []) (fun b _ ih pre i => (skRow b i pre 0).bind fun ps => (ih (pre ++ [b]) (i + 1)).map fun qs => ps ++ qs) l

theorem skRow_ok {b : Sk} {i : Nat} : ∀ {l : List Sk} {k : Nat} {ps : List (Nat × Nat)}, skRow b i l k = some ps → ∀ (j : Nat) a, l[j]? = some a → skOk (k + j) a b = true ∧ (b.anc.testBit (k + j) = true ∨ (a.ef || b.ef) = false ∨ (k + j, i) ∈ ps)
  | [], k, ps, _, j, a, h => by cases h
  | a0 :: l, k, ps, hs, j, a, h => by
    change (match skOk k a0 b with
      | true => match !b.anc.testBit k && (a0.ef || b.ef) with
        | true => (skRow b i l (k + 1)).map fun ps => (k, i) :: ps
        | false => skRow b i l (k + 1)
      | false => none) = some ps at hs
    cases h0 : skOk k a0 b with
    | false => rw [h0] at hs; cases hs
    | true =>
      rw [h0] at hs
      simp only at hs
      cases h1 : (!b.anc.testBit k && (a0.ef || b.ef)) with
      | true =>
        rw [h1] at hs
        obtain ⟨ps', h2, rfl⟩ := Option.map_eq_some_iff.1 hs
        cases j with
        | zero => cases h; exact ⟨h0, .inr (.inr List.mem_cons_self)⟩
        | succ j =>
          obtain ⟨h3, h4⟩ := skRow_ok h2 j a h
          rw [show k + 1 + j = k + (j + 1) from by omega] at h3 h4
          exact ⟨h3, h4.imp id (fun h => h.imp id fun h => List.mem_cons_of_mem _ h)⟩
      | false =>
        rw [h1] at hs
        cases j with
        | zero =>
          cases h
          refine ⟨h0, ?_⟩
          simp only [Nat.add_zero]
          cases hb : b.anc.testBit k with
          | true => exact .inl rfl
          | false => rw [hb] at h1; exact .inr (.inl (by simpa using h1))
        | succ j =>
          obtain ⟨h3, h4⟩ := skRow_ok hs j a h
          rw [show k + 1 + j = k + (j + 1) from by omega] at h3 h4
          exact ⟨h3, h4⟩
theorem skAll_ok : ∀ {l pre : List Sk} {k : Nat} {ps : List (Nat × Nat)}, skAll l pre k = some ps → pre.length = k → ∀ (i j : Nat) a b, j < i → k ≤ i → (pre ++ l)[j]? = some a → (pre ++ l)[i]? = some b → skOk j a b = true ∧ (b.anc.testBit j = true ∨ (a.ef || b.ef) = false ∨ (j, i) ∈ ps)
  | [], pre, k, ps, _, hk, i, j, a, b, _, hki, _, hb => by
    rw [List.append_nil] at hb
    have := (List.getElem?_eq_some_iff.1 hb).1
    omega
  | b0 :: l, pre, k, ps, hs, hk, i, j, a, b, hji, hki, ha, hb => by
    change ((skRow b0 k pre 0).bind fun ps => (skAll l (pre ++ [b0]) (k + 1)).map fun qs => ps ++ qs) = some ps at hs
    obtain ⟨p1, h1, hs⟩ := Option.bind_eq_some_iff.1 hs
    obtain ⟨p2, h2, rfl⟩ := Option.map_eq_some_iff.1 hs
    by_cases hik : i = k
    · subst hik
      rw [List.getElem?_append_right (by omega), hk, Nat.sub_self] at hb
      cases hb
      rw [List.getElem?_append_left (by omega)] at ha
      have := skRow_ok h1 j a ha
      rw [Nat.zero_add] at this
      exact ⟨this.1, this.2.imp id fun h => h.imp id fun h => List.mem_append_left _ h⟩
    · have h3 := skAll_ok h2 (by simp [hk]) i j a b hji (by omega) (by simpa using ha) (by simpa using hb)
      exact ⟨h3.1, h3.2.imp id fun h => h.imp id fun h => List.mem_append_right _ h⟩

noncomputable def skOf (ops : Array Oper) (l : List Oper) : List Nat → List Sk := List.rec (fun _ => []) (fun o _ ih ms => match ms with
  | m :: ms => ⟨m, lm (opSlots ops o), dmk o.dst, efk o⟩ :: ih ms
  | [] => []) l
/-- which pairs are to be compared, if the region has no others that could see each other's deeds -/
noncomputable def plan (ops : Array Oper) : Option (List (Nat × Nat)) := skAll (skOf ops ops.toList (msks ops.toList [])) [] 0

theorem msks_len (l : List Oper) : ∀ acc : List Nat, (msks l acc).length = acc.length + l.length := by
  induction l with
  | nil => intro acc; rfl
  | cons o l ih => intro acc; show (msks l (acc ++ [_])).length = _; rw [ih]; simp; omega
theorem skOf_get (ops : Array Oper) : ∀ (l : List Oper) (ms : List Nat) (i : Nat) (o : Oper) (m : Nat), l[i]? = some o → ms[i]? = some m → (skOf ops l ms)[i]? = some ⟨m, lm (opSlots ops o), dmk o.dst, efk o⟩
  | [], _, _, _, _, h, _ => by cases h
  | o0 :: l, [], _, _, _, _, h => by cases h
  | o0 :: l, m0 :: ms, i, o, m, h1, h2 => by
    show (_ :: skOf ops l ms)[i]? = _
    cases i with
    | zero => cases h1; cases h2; rfl
    | succ i => exact skOf_get ops l ms i o m h1 h2

/-- records of the operations of a region, compared -/
def disR (xs : List Nat) (Lo : IRs) (ys : List Nat) : Bool := xs.all (fun i => !memB i ys) && Lo.all fun p => !memB p.1 ys
def cfD (c d : Rc) : Bool := (!c.ef || disR c.wr c.Lo d.rd) && (!d.ef || disR d.wr d.Lo c.rd)
def planOk (ps : List (Nat × Nat)) (cs : List Rc) : Bool := ps.all fun p => match cs[p.1]?, cs[p.2]? with
  | some c, some d => cfD c d
  | _, _ => false

theorem disR_ok {xs ys : List Nat} {Lo : IRs} (h : disR xs Lo ys = true) : (∀ i ∈ xs, i ∉ ys) ∧ ∀ p ∈ Lo, p.1 ∉ ys := by
  unfold disR at h
  simp only [Bool.and_eq_true, List.all_eq_true, Bool.not_eq_true'] at h
  exact ⟨fun i hi => memB_not.1 (h.1 i hi), fun p hp => memB_not.1 (h.2 p hp)⟩

/-- Two operations, of which neither waits for the other, leave each other alone. -/
theorem plan_cf {ops : Array Oper} {ps : List (Nat × Nat)} {cs : List Rc} (hp : plan ops = some ps) (ho : planOk ps cs = true) (hcs : ∀ (i : Nat) c, cs[i]? = some c → ∃ o, ops.toList[i]? = some o ∧ c.dst = o.dst ∧ c.sl = opSlots ops o ∧ (c.ef = true → efk o = true) ∧ ∀ i ∈ c.wr, i ∈ c.rd)
    {i j : Nat} {c d : Rc} (hji : j < i) (hc : cs[j]? = some c) (hd : cs[i]? = some d) :
    CF c d ∨ ∀ bs, Closed ops.toList bs → (∀ o, ops.toList[i]? = some o → Rdy bs o) → bs[j]? = some true := by
  obtain ⟨o1, h1, h2, h3, h4, h5⟩ := hcs j c hc
  obtain ⟨o2, g1, g2, g3, g4, g5⟩ := hcs i d hd
  have hl1 := (List.getElem?_eq_some_iff.1 h1).1
  have hl2 := (List.getElem?_eq_some_iff.1 g1).1
  have hml : (msks ops.toList []).length = ops.toList.length := by rw [msks_len]; simp
  obtain ⟨m1, hm1⟩ : ∃ m, (msks ops.toList [])[j]? = some m := ⟨_, List.getElem?_eq_getElem (by rw [hml]; exact hl1)⟩
  obtain ⟨m2, hm2⟩ : ∃ m, (msks ops.toList [])[i]? = some m := ⟨_, List.getElem?_eq_getElem (by rw [hml]; exact hl2)⟩
  have s1 := skOf_get ops ops.toList _ j o1 m1 h1 hm1
  have s2 := skOf_get ops ops.toList _ i o2 m2 g1 hm2
  obtain ⟨q1, q2⟩ := skAll_ok hp rfl i j _ _ hji (Nat.zero_le _) s1 s2
  have hmsk : MskOk ops.toList (msks ops.toList []) := msks_ok ops.toList ops.toList [] ⟨[], rfl, rfl⟩ fun i m o h => by cases h
  by_cases ha : m2.testBit j = true
  · exact .inr fun bs hcl hr => hmsk i m2 o2 hm2 g1 bs hcl (hr o2 g1) j ha
  · refine .inl ?_
    have ha' : m2.testBit j = false := by simpa using ha
    unfold skOk at q1
    simp only [ha', Bool.false_or, Bool.and_eq_true] at q1
    obtain ⟨⟨r1, r2⟩, r3⟩ := q1
    have r1 := beqT r1
    have r2 := beqT r2
    have r3 := beqT r3
    have hdyn : (c.ef || d.ef) = false ∨ cfD c d = true := by
      rcases q2 with q2 | q2 | q2
      · exact absurd q2 ha
      · simp only [Bool.or_eq_false_iff] at q2
        left
        have e1 : c.ef = false := by
          cases h : c.ef with
          | false => rfl
          | true => exact absurd q2.1 (by rw [h4 h]; simp)
        have e2 : d.ef = false := by
          cases h : d.ef with
          | false => rfl
          | true => exact absurd q2.2 (by rw [g4 h]; simp)
        rw [e1, e2]; rfl
      · right
        have := List.all_eq_true.1 ho _ q2
        simp only [hc, hd] at this
        exact this
    refine ⟨fun t ht => ⟨fun hm => ?_, fun e => ?_⟩, fun t ht hm => ?_, fun he => ?_, fun he => ?_⟩
    · rw [h2] at ht
      rw [g3] at hm
      exact and_zero r1 (dmk_bit ht) ((lm_bit _ _).2 hm)
    · rw [h2] at ht
      rw [g2] at e
      exact and_zero r2 (dmk_bit ht) (dmk_bit e)
    · rw [g2] at ht
      rw [h3] at hm
      exact and_zero r3 (dmk_bit ht) ((lm_bit _ _).2 hm)
    · rcases hdyn with h | h
      · rw [he] at h; simp at h
      · unfold cfD at h
        simp only [he, Bool.and_eq_true, Bool.or_eq_true, Bool.not_eq_true'] at h
        have q := disR_ok (h.1.resolve_left (by simp))
        exact ⟨q.1, q.2, fun p hp hx => q.2 p hp (g5 _ hx)⟩
    · rcases hdyn with h | h
      · rw [he] at h; simp at h
      · unfold cfD at h
        simp only [he, Bool.and_eq_true, Bool.or_eq_true, Bool.not_eq_true'] at h
        have q := disR_ok (h.2.resolve_left (by simp))
        exact ⟨q.1, q.2, fun p hp hx => q.2 p hp (h5 _ hx)⟩
end Go.Iv
