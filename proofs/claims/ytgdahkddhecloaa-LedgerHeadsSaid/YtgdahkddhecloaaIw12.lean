/- Regions that draw their order: in every order. Program-independent. -/
import Derived.Test.YtgdahkddhecloaaIw11
set_option linter.unusedSectionVars false
set_option linter.unusedVariables false
set_option linter.unusedSimpArgs false
namespace Go.Iv
variable [U : Uni] [L : UniL]
open Go Go.RowKit

/-! ### names that stand in what was made -/

noncomputable def idsC (p : Nat → Bool) (n : Nat) : AV → Bool := Nat.rec (fun d => match d with
  | .lit _ => true
  | .sl _ _ => true
  | .rp _ _ => true
  | .own i => p i
  | .ptr i _ => p i
  | .ra i _ _ _ => p i
  | _ => false) (fun _ ih d => match d with
  | .lit _ => true
  | .sl _ _ => true
  | .rp _ _ => true
  | .own i => p i
  | .ptr i _ => p i
  | .ra i _ _ _ => p i
  | .agg cs => cs.all ih
  | .tup cs => cs.all ih
  | .fn _ cs => cs.all ih
  | .fp cs => cs.all ih) n
theorem idsC_ok {p : Nat → Bool} : ∀ (n : Nat) {d : AV}, idsC p n d = true → Lts (fun i => p i = true) d
  | 0, d, h => by
    cases d <;> first | exact .lit _ | exact .sl _ _ | exact .rp _ _ | exact .own _ h | exact .ptr _ _ h | exact .ra _ _ _ _ h | (cases h; done)
  | n + 1, d, h => by
    have hL : ∀ {cs : List AV}, cs.all (idsC p n) = true → ∀ c ∈ cs, Lts (fun i => p i = true) c := fun h c hc => idsC_ok n (List.all_eq_true.1 h c hc)
    cases d <;> first | exact .lit _ | exact .sl _ _ | exact .rp _ _ | exact .own _ h | exact .ptr _ _ h | exact .ra _ _ _ _ h | exact .agg _ (hL h) | exact .tup _ (hL h) | exact .fn _ _ (hL h) | exact .fp _ (hL h)
theorem idsN_ok {p : Nat → Prop} : ∀ (n : Nat) {d : AV}, Lts p d → ∀ i ∈ idsN n d, p i
  | 0, d, h, i, hi => by
    cases h <;> simp only [idsN, List.mem_singleton, List.not_mem_nil] at hi <;> (subst hi; assumption)
  | n + 1, d, h, i, hi => by
    have hL : ∀ {cs : List AV}, (∀ c ∈ cs, Lts p c) → i ∈ cs.flatMap (idsN n) → p i := fun h hi => by
      obtain ⟨c, h1, h2⟩ := List.mem_flatMap.1 hi
      exact idsN_ok n (h c h1) i h2
    cases h with
    | agg cs h => exact hL h hi
    | tup cs h => exact hL h hi
    | fn f cs h => exact hL h hi
    | own id h => simp only [idsN, List.mem_singleton] at hi; rw [hi]; exact h
    | ptr id off h => simp only [idsN, List.mem_singleton] at hi; rw [hi]; exact h
    | ra id t m off h => simp only [idsN, List.mem_singleton] at hi; rw [hi]; exact h
    | _ => simp [idsN] at hi

noncomputable def valIds (sl : List Nat) (T : ET) : List Nat := sl.flatMap fun t => match eget T t with
  | some d => idsN 3 d
  | none => []
noncomputable def resIds (R : IRs) : List Nat := R.flatMap fun q => q.1 :: match q.2 with
  | .box _ cs => cs.flatMap (idsN 3)
  | .row _ _ => []
noncomputable def okId (al : List Nat) (nx nx' i : Nat) : Bool := memB i al || (Nat.ble nx i && Nat.blt i nx')
noncomputable def okR (al : List Nat) (nx nx' : Nat) (R : IRs) : Bool := R.all fun q => okId al nx nx' q.1 && match q.2 with
  | .box _ cs => cs.all (idsC (okId al nx nx') 3)
  | .row _ _ => true

theorem okId_ok {al : List Nat} {nx nx' i : Nat} (h : okId al nx nx' i = true) : i ∈ al ∨ (nx ≤ i ∧ i < nx') := by
  unfold okId at h
  simp only [Bool.or_eq_true, Bool.and_eq_true, Nat.ble_eq, Nat.blt_eq] at h
  exact h.imp memB_iff.1 id
theorem okR_ok {al : List Nat} {nx nx' : Nat} {R : IRs} (h : okR al nx nx' R = true) : IRs.Lts (fun i => i ∈ al ∨ (nx ≤ i ∧ i < nx')) R := fun q hq => by
  have := List.all_eq_true.1 h q hq
  simp only [Bool.and_eq_true] at this
  refine ⟨okId_ok this.1, ?_⟩
  obtain ⟨i, r⟩ := q
  cases r with
  | row t l => trivial
  | box T cs => exact fun c hc => (idsC_ok 3 (List.all_eq_true.1 this.2 c hc)).mono fun i hi => okId_ok hi

/-! ### a region, in the order of the text -/

/-- does the operation look at what is owned? -/
def needR (o : Op) : Bool := match o with
  | .move _ => false
  | .assign _ => false
  | .pick _ _ _ => false
  | .unOp _ _ _ => false
  | .nilCheck _ => false
  | .fieldAddr _ _ _ => false
  | .extract _ _ => false
  | .makeFunc _ _ _ => false
  | .alloc _ => false
  | _ => true
def isCal (o : Op) : Bool := match o with
  | .call { callee := .value _, .. } => true
  | _ => false
noncomputable def footO (ops : Array Oper) (o : Oper) (E : ET) (R : IRs) : List Nat := match needR o.op with
  | false => []
  | true => match isCal o.op with
    | false => valIds (opSlots ops o) E
    | true => reach R 3 (valIds (opSlots ops o) E)
noncomputable def inQ (rd : List Nat) (R : IRs) : IRs := match rd with
  | [] => []
  | rd => inR rd R
theorem inQ_eq (rd : List Nat) (R : IRs) : inQ rd R = inR rd R := by
  cases rd with
  | nil => exact (List.filter_eq_nil_iff.2 fun p _ => by simp [memB]).symm
  | cons a l => rfl

/-- what is to hold of the record of an operation -/
noncomputable def rcB (ops : Array Oper) (o : Oper) (E : ET) (Rl : IRs) (nx : Nat) (v : AV) (ef : Bool) (Lo : IRs) (nx' : Nat) : Bool := (fun al => Nat.ble nx nx' && (!ef || efk o) && idsC (okId al nx nx') 4 v && (!ef || okR al nx nx' Lo)) (valIds (opSlots ops o) E ++ resIds Rl)

/-! what an operation was lent, and did not change -/

noncomputable def eqAL (e : AV → AV → Bool) (l : List AV) : List AV → Bool := List.rec (fun m => match m with
  | [] => true
  | _ => false) (fun a _ ih m => match m with
  | b :: m => e a b && ih m
  | [] => false) l
noncomputable def eqA1 (ih : AV → AV → Bool) (a b : AV) : Bool := match a, b with
  | .own i, .own j => Nat.beq i j
  | .ptr i o, .ptr j p => Nat.beq i j && Nat.beq o p
  | .fn (.func f) cs, .fn (.func g) ds => Nat.beq f g && eqAL ih cs ds
  | _, _ => false
noncomputable def eqA (n : Nat) : AV → AV → Bool := Nat.rec (fun _ _ => false) (fun _ ih => eqA1 ih) n
noncomputable def eqIR (a b : IR) : Bool := match a, b with
  | .box T cs, .box T' ds => Nat.beq T T' && eqAL (eqA 2) cs ds
  | _, _ => false
noncomputable def eqIRs (l : IRs) : IRs → Bool := List.rec (fun m => match m with
  | [] => true
  | _ => false) (fun a _ ih m => match m with
  | b :: m => Nat.beq a.1 b.1 && eqIR a.2 b.2 && ih m
  | [] => false) l
theorem eqAL_ok {e : AV → AV → Bool} (he : ∀ a b, e a b = true → a = b) : ∀ {l m : List AV}, eqAL e l m = true → l = m
  | [], [], _ => rfl
  | [], _ :: _, h => by cases h
  | _ :: _, [], h => by cases h
  | a :: l, b :: m, h => by
    change (e a b && eqAL e l m) = true at h
    rw [Bool.and_eq_true] at h
    rw [he a b h.1, eqAL_ok he h.2]
theorem eqA_ok : ∀ (n : Nat) {a b : AV}, eqA n a b = true → a = b
  | 0, a, b, h => by cases h
  | n + 1, a, b, h => by
    change eqA1 (eqA n) a b = true at h
    unfold eqA1 at h
    split at h
    · rw [beqT h]
    · rw [Bool.and_eq_true] at h; rw [beqT h.1, beqT h.2]
    · rw [Bool.and_eq_true] at h; rw [beqT h.1, eqAL_ok (fun a b => eqA_ok n) h.2]
    · cases h
theorem eqIRs_ok : ∀ {l m : IRs}, eqIRs l m = true → l = m
  | [], [], _ => rfl
  | [], _ :: _, h => by cases h
  | _ :: _, [], h => by cases h
  | (i, a) :: l, (j, b) :: m, h => by
    change (Nat.beq i j && eqIR a b && eqIRs l m) = true at h
    simp only [Bool.and_eq_true] at h
    have h1 := beqT h.1.1
    subst h1
    have h2 := h.1.2
    unfold eqIR at h2
    split at h2
    · rw [Bool.and_eq_true] at h2
      rw [beqT h2.1, eqAL_ok (fun a b => eqA_ok 2) h2.2, eqIRs_ok h.2]
    · cases h2
noncomputable def trim (K rd : List Nat) (Rl Lo : IRs) : List Nat × IRs := match K.filter fun i => memB i rd with
  | [] => (rd, Lo)
  | k :: K => match eqIRs (inR (k :: K) Lo) (inR (k :: K) Rl) with
    | true => (rd.filter fun i => !memB i (k :: K), outR (k :: K) Lo)
    | false => (rd, Lo)
theorem trim_ok (K rd : List Nat) (R Lo : IRs) : (∀ i ∈ (trim K rd (inR rd R) Lo).1, i ∈ rd) ∧ (∀ q ∈ (trim K rd (inR rd R) Lo).2, q ∈ Lo) ∧ List.Perm Lo ((trim K rd (inR rd R) Lo).2 ++ outR (trim K rd (inR rd R) Lo).1 (inR rd R)) := by
  have h0 : outR rd (inR rd R) = [] := List.filter_eq_nil_iff.2 fun p hp => by
    have : memB p.1 rd = true := (List.mem_filter.1 hp).2
    rw [this]; simp
  have triv : (∀ i ∈ rd, i ∈ rd) ∧ (∀ q ∈ Lo, q ∈ Lo) ∧ List.Perm Lo (Lo ++ outR rd (inR rd R)) := ⟨fun _ h => h, fun _ h => h, by rw [h0, List.append_nil]⟩
  unfold trim
  split
  · exact triv
  · rename_i k K' hK
    split
    case h_2 => exact triv
    rename_i he
    have he := eqIRs_ok he
    refine ⟨fun i hi => (List.mem_filter.1 hi).1, fun q hq => (List.mem_filter.1 hq).1, ?_⟩
    have e1 : outR (rd.filter fun i => !memB i (k :: K')) (inR rd R) = inR (k :: K') (inR rd R) := by
      unfold outR inR
      refine List.filter_congr fun p hp => ?_
      have hp : memB p.1 rd = true := (List.mem_filter.1 hp).2
      cases hm : memB p.1 (k :: K') with
      | true =>
        rw [memB_not.2 fun hx => ?_]; rfl
        have := (List.mem_filter.1 hx).2
        rw [hm] at this; cases this
      | false =>
        rw [memB_iff.2 (List.mem_filter.2 ⟨memB_iff.1 hp, by rw [hm]; rfl⟩)]; rfl
    show List.Perm Lo (outR (k :: K') Lo ++ outR (rd.filter fun i => !memB i (k :: K')) (inR rd R))
    rw [e1, ← he]
    exact (List.perm_append_comm.trans (List.filter_append_perm _ _)).symm

/-- the slots of the operations whose deeds are compared with those of operation i -/
noncomputable def partner (ops : Array Oper) (ps : List (Nat × Nat)) (i : Nat) : List Nat := ps.flatMap fun p => match Nat.beq p.1 i with
  | true => match ops[p.2]? with
    | some o => match isCal o.op with
      | true => []
      | false => opSlots ops o
    | none => []
  | false => match Nat.beq p.2 i with
    | true => match ops[p.1]? with
      | some o => match isCal o.op with
        | true => []
        | false => opSlots ops o
      | none => []
    | false => []
noncomputable def lentK (ops : Array Oper) (ps : List (Nat × Nat)) (cs : List Rc) (E : ET) : List Nat := match ps with
  | [] => []
  | p :: ps => valIds (partner ops (p :: ps) cs.length) E

noncomputable def dK2 (o : Oper) (sl : List Nat) (cs : List Rc) (rd : List Nat) (E : ET) (R : IRs) {α : Type} (ih : List Rc → St → (List Rc → St → Option α) → Option α) (k : List Rc → St → Option α) (v : AV) (ef : Bool) (nx' : Nat) (t : List Nat × IRs) : Option α :=
  ih (cs ++ [⟨o.dst, v, sl, rd, t.1, ef, t.2⟩]) ⟨putO o.dst v E, match ef with
    | true => t.2 ++ outR t.1 R
    | false => R, nx'⟩ k
noncomputable def dK (ops : Array Oper) (ps : List (Nat × Nat)) (o : Oper) (cs : List Rc) (rd : List Nat) (E : ET) (R Rl : IRs) (nx : Nat) {α : Type} (ih : List Rc → St → (List Rc → St → Option α) → Option α) (k : List Rc → St → Option α) (x : AV × Bool × IRs × Nat) : Option α :=
  match rcB ops o E Rl nx x.1 x.2.1 x.2.2.1 x.2.2.2 with
  | true => dK2 o (opSlots ops o) cs rd E R ih k x.1 x.2.1 x.2.2.2 (trim (lentK ops ps cs E) rd Rl x.2.2.1)
  | false => none
noncomputable def dYes2 {α : Type} (P : Program) (F : Orc) (ops : Array Oper) (ps : List (Nat × Nat)) (o : Oper) (ih : List Rc → St → (List Rc → St → Option α) → Option α) (cs : List Rc) (k : List Rc → St → Option α) (E : ET) (R : IRs) (nx : Nat) (rd : List Nat) (Rl : IRs) : Option α :=
  lrunK P F o (opSlots ops o) E Rl nx (dK ops ps o cs rd E R Rl nx ih k)
noncomputable def dYes {α : Type} (P : Program) (F : Orc) (ops : Array Oper) (ps : List (Nat × Nat)) (o : Oper) (ih : List Rc → St → (List Rc → St → Option α) → Option α) (cs : List Rc) (k : List Rc → St → Option α) (s : St) : Option α :=
  St.rec (fun E R nx => (fun rd => dYes2 P F ops ps o ih cs k E R nx rd (inQ rd R)) (footO ops o E R)) s
noncomputable def dNo {α : Type} (ops : Array Oper) (o : Oper) (ih : List Rc → St → (List Rc → St → Option α) → Option α) (cs : List Rc) (k : List Rc → St → Option α) (s : St) : Option α :=
  ih (cs ++ [⟨o.dst, .lit undef, opSlots ops o, [], [], false, []⟩]) ⟨putO o.dst (.lit undef) s.E, s.R, s.nx⟩ k
noncomputable def dOne {α : Type} (P : Program) (F : Orc) (n : Nat) (ops : Array Oper) (ps : List (Nat × Nat)) (o : Oper) (ih : List Rc → St → (List Rc → St → Option α) → Option α) (cs : List Rc) (s : St) (k : List Rc → St → Option α) : Option α := match dstOk n o.dst with
  | true => gate ops o s (dYes P F ops ps o ih cs k) (dNo ops o ih cs k)
  | false => none
noncomputable def dgo {α : Type} (P : Program) (F : Orc) (n : Nat) (ops : Array Oper) (ps : List (Nat × Nat)) (l : List Oper) : List Rc → St → (List Rc → St → Option α) → Option α := List.rec (fun cs s k => k cs s) (fun o _ ih => dOne P F n ops ps o ih) l

noncomputable def backB (l : List Oper) : Nat → Bool := List.rec (fun _ => true) (fun o _ ih i => (o.after.toList.all fun e => !Region.binds .any e || Nat.blt e.on i) && ih (i + 1)) l
theorem backB_ok : ∀ {l : List Oper} {k : Nat}, backB l k = true → ∀ (i : Nat) o, l[i]? = some o → ∀ e ∈ o.after.toList, Region.binds .any e = true → e.on < k + i
  | [], k, _, i, o, h, _, _, _ => by cases h
  | o0 :: l, k, hb, i, o, h, e, he, hbe => by
    change ((o0.after.toList.all fun e => !Region.binds .any e || Nat.blt e.on k) && backB l (k + 1)) = true at hb
    simp only [Bool.and_eq_true] at hb
    cases i with
    | zero =>
      cases h
      have := List.all_eq_true.1 hb.1 e he
      rw [hbe] at this
      simpa [Nat.blt_eq] using this
    | succ i =>
      have := backB_ok hb.2 i o h e he hbe
      omega

noncomputable def dexec {α : Type} (P : Program) (F : Orc) (n : Nat) (ops : Array Oper) (s : St) (k : St → Option α) : Option α := match P.follows .mixedOrders && backB ops.toList 0 with
  | true => match plan ops with
    | some ps => dgo P F n ops ps ops.toList [] s fun cs s' => match planOk ps cs with
      | true => k s'
      | false => none
    | none => none
  | false => none

/-! ### what was done, operation after operation -/

/-- Is the operation wanted, by what f says? -/
def GateS (ops : Array Oper) (o : Oper) (f : Fr) (wn : Bool) : Prop := match o.guard with
  | none => wn = true
  | some (j, want) => ∃ t, (ops[j]?).bind (·.dst) = some t ∧ ((∃ b, f t = some (.lit (.bool b)) ∧ wn = (b == want)) ∨ (∃ vs, f t = some (.lit (.tuple vs)) ∧ wn = false))

structure OpFact (P : Program) (n : Nat) (ops : Array Oper) (o : Oper) (f : Fr) (R : IRs) (nx : Nat) (c : Rc) (nx' : Nat) : Prop where
  dst : c.dst = o.dst
  sl : c.sl = opSlots ops o
  ef : c.ef = true → efk o = true
  dn : dstOk n o.dst = true
  le : nx ≤ nx'
  run : (GateS ops o f false ∧ c.v = .lit undef ∧ c.ef = false) ∨ (GateS ops o f true ∧ ∀ ρ C, Ye P ((locE f c.sl).sub ρ) (IRs.res ρ (inR c.rd R)) o C (Nlc nx c.v (match c.ef with | true => c.Lo ++ outR c.wr (inR c.rd R) | false => inR c.rd R) ρ))
  wr : ∀ i ∈ c.wr, i ∈ c.rd
  lin : IRs.Ltd nx (inR c.rd R)
  lv : Ltd nx' c.v
  lo : c.ef = true → IRs.Ltd nx' c.Lo
  ids : ∀ p : Nat → Prop, (∀ t ∈ c.sl, ∀ d, f t = some d → Lts p d) → IRs.Lts p (inR c.rd R) → Lts (fun i => p i ∨ (nx ≤ i ∧ i < nx')) c.v ∧ (c.ef = true → IRs.Lts (fun i => p i ∨ (nx ≤ i ∧ i < nx')) c.Lo)

inductive Ch (P : Program) (n : Nat) (ops : Array Oper) : Fr → IRs → Nat → List Oper → List Rc → Fr → IRs → Nat → Prop
  | nil (f : Fr) (R : IRs) (nx : Nat) : Ch P n ops f R nx [] [] f R nx
  | cons {f f' : Fr} {R R' : IRs} {nx nx1 nx' : Nat} {o : Oper} {os : List Oper} {c : Rc} {cs : List Rc} (h : OpFact P n ops o f R nx c nx1) (hs : Ch P n ops (c.F f) (c.R R) nx1 os cs f' R' nx') : Ch P n ops f R nx (o :: os) (c :: cs) f' R' nx'

theorem gate_S {α : Type} {r : α} {ops : Array Oper} {o : Oper} {s : St} {yes no : St → Option α} (h : gate ops o s yes no = some r) {f : Fr} (hf : ∀ t d, eget s.E t = some d → f t = some d) : ∃ s' : St, s'.R = s.R ∧ s'.nx = s.nx ∧ (∀ t d, eget s'.E t = some d → f t = some d) ∧
    ((GateS ops o f true ∧ yes s' = some r) ∨ (GateS ops o f false ∧ no s' = some r)) := by
  unfold gate at h
  unfold GateS
  split at h
  · rename_i hg
    exact ⟨s, rfl, rfl, hf, .inl ⟨by rw [hg], h⟩⟩
  · rename_i j want hg
    split at h
    · cases h
    · rename_i t hj
      have hput : ∀ b, eget s.E t = some (.lit (.bool b)) → ∀ k d, eget (s.putB t b).E k = some d → f k = some d := fun b hb k d hk => by
        have hk' : eget (eput t (.b b) s.E) k = some d := hk
        rcases eput_get hk' with ⟨rfl, rfl⟩ | ⟨_, h2⟩
        · exact hf _ _ hb
        · exact hf k d h2
      split at h
      · rename_i b hb
        have hfb := hf _ _ hb
        split at h
        · split at h
          · exact ⟨s.putB t true, rfl, rfl, hput _ hb, .inl ⟨by rw [hg]; exact ⟨t, hj, .inl ⟨_, hfb, rfl⟩⟩, h⟩⟩
          · exact ⟨s.putB t true, rfl, rfl, hput _ hb, .inr ⟨by rw [hg]; exact ⟨t, hj, .inl ⟨_, hfb, rfl⟩⟩, h⟩⟩
        · split at h
          · exact ⟨s.putB t false, rfl, rfl, hput _ hb, .inr ⟨by rw [hg]; exact ⟨t, hj, .inl ⟨_, hfb, rfl⟩⟩, h⟩⟩
          · exact ⟨s.putB t false, rfl, rfl, hput _ hb, .inl ⟨by rw [hg]; exact ⟨t, hj, .inl ⟨_, hfb, rfl⟩⟩, h⟩⟩
      · rename_i vs hb
        exact ⟨s, rfl, rfl, hf, .inr ⟨by rw [hg]; exact ⟨t, hj, .inr ⟨_, hf _ _ hb, rfl⟩⟩, h⟩⟩
      · cases h

theorem putO_F {dst : Option Nat} {v : AV} {E : ET} {f : Fr} {c : Rc} (hc : c.dst = dst) (hv : c.v = v) (hf : ∀ t d, eget E t = some d → f t = some d) : ∀ t d, eget (putO dst v E) t = some d → c.F f t = some d := fun t d h => by
  unfold putO at h
  unfold Rc.F
  rw [hc, hv]
  cases dst with
  | none => simpa using hf t d h
  | some s =>
    rcases eput_get h with ⟨rfl, rfl⟩ | ⟨h1, h2⟩
    · rw [if_pos rfl]
    · rw [if_neg (fun e => h1 (Option.some.inj e))]
      exact hf t d h2

theorem Ye.mono {P : Program} {C : Cx} {E : Env} {σ : List Res} {o : Oper} {N N' : Option AV → List Res → Prop} (h : Ye P E σ o C N) (hN : ∀ a σ', N a σ' → N' a σ') : Ye P E σ o C N' := fun w ϱ hg hρ => by
  rcases h w ϱ hg hρ with ⟨v, w', av, σ', h1, h2, h3⟩ | ⟨w', σ', h1, h2, h3⟩ | ⟨f, args, h1, h2⟩
  · exact .inl ⟨v, w', av, σ', hN _ _ h1, h2, h3⟩
  · exact .inr (.inl ⟨w', σ', hN _ _ h1, h2, h3⟩)
  · exact .inr (.inr ⟨f, args, h1, Calls.mono h2 fun e w' ⟨v, av, σ', q1, q2, q3⟩ => ⟨v, av, σ', q1, hN _ _ q2, q3⟩⟩)

theorem dgo_ok {α : Type} {r : α} {P : Program} {F : Orc} {n : Nat} {ops : Array Oper} {ps : List (Nat × Nat)} (hF : OrcOk P F) (hN : OrcNat F) {k : List Rc → St → Option α} : ∀ (l : List Oper) {cs : List Rc} {s : St} {f : Fr}, dgo P F n ops ps l cs s k = some r → (∀ t d, eget s.E t = some d → f t = some d) → (∀ t d, f t = some d → Ltd s.nx d) → IRs.Ltd s.nx s.R →
    ∃ (cs' : List Rc) (s' : St) (f' : Fr), k (cs ++ cs') s' = some r ∧ Ch P n ops f s.R s.nx l cs' f' s'.R s'.nx ∧ (∀ t d, eget s'.E t = some d → f' t = some d)
  | [], cs, s, f, h, hf, _, _ => ⟨[], s, f, by rw [List.append_nil]; exact h, .nil f s.R s.nx, hf⟩
  | o :: l, cs, s, f, h, hf, hfl, hR => by
    change dOne P F n ops ps o (dgo P F n ops ps l) cs s k = some r at h
    unfold dOne at h
    split at h
    case h_2 => cases h
    rename_i hd
    obtain ⟨s1, e1, e2, hf1, ⟨hg, h1⟩ | ⟨hg, h1⟩⟩ := gate_S h hf
    · obtain ⟨E, R, nx⟩ := s1
      obtain ⟨E0, R0, nx0⟩ := s
      simp only at e1 e2 hf1
      subst e1 e2
      change lrunK P F o (opSlots ops o) E (inQ (footO ops o E R) R) nx (dK ops ps o cs (footO ops o E R) E R (inQ (footO ops o E R) R) nx (dgo P F n ops ps l) k) = some r at h1
      rw [← lrun_nat hN] at h1
      generalize hrd : footO ops o E R = rd at h1
      obtain ⟨⟨v, ef, Lo, nx'⟩, h2, h3⟩ := Option.bind_eq_some_iff.1 h1
      unfold dK at h3
      split at h3
      case h_2 => cases h3
      rename_i hb
      rw [inQ_eq] at h2 hb
      simp only at h3 hb
      unfold rcB at hb
      simp only [Bool.and_eq_true, Nat.ble_eq, Bool.or_eq_true, Bool.not_eq_true'] at hb
      obtain ⟨⟨⟨hb1, hb2⟩, hb3⟩, hb4⟩ := hb
      have hin : IRs.Ltd nx (inR rd R) := fun q hq => hR q (List.mem_filter.1 hq).1
      have hlE : (locE f (opSlots ops o)).Ltd nx := fun q hq => by
        obtain ⟨t, _, ht⟩ := List.mem_filterMap.1 hq
        obtain ⟨d, hd1, hd2⟩ := Option.map_eq_some_iff.1 ht
        rw [← hd2]
        exact hfl t d hd1
      obtain ⟨y1, y2⟩ := lrun_ok hF h2 (E := locE f (opSlots ops o)) (fun t ht d hdd => locE_of ht (hf1 t d hdd)) hlE hin
      have hal : ∀ p : Nat → Prop, (∀ t ∈ opSlots ops o, ∀ d, f t = some d → Lts p d) → IRs.Lts p (inR rd R) → ∀ i ∈ valIds (opSlots ops o) E ++ resIds (inR rd R), p i := fun p hp1 hp2 i hi => by
        rcases List.mem_append.1 hi with hi | hi
        · obtain ⟨t, ht, hi⟩ := List.mem_flatMap.1 hi
          split at hi
          · rename_i d hdd; exact idsN_ok 3 (hp1 t ht d (hf1 t d hdd)) i hi
          · cases hi
        · obtain ⟨q, hq, hi⟩ := List.mem_flatMap.1 hi
          obtain ⟨g1, g2⟩ := hp2 q hq
          rcases List.mem_cons.1 hi with rfl | hi
          · exact g1
          · obtain ⟨j, rr⟩ := q
            cases rr with
            | row t l => cases hi
            | box T cs =>
              obtain ⟨c, hc, hi⟩ := List.mem_flatMap.1 hi
              exact idsN_ok 3 (g2 c hc) i hi
      obtain ⟨t1, t2, t3⟩ := trim_ok (lentK ops ps cs E) rd R Lo
      rw [inQ_eq] at h3
      generalize trim (lentK ops ps cs E) rd (inR rd R) Lo = tr at h3 t1 t2 t3
      obtain ⟨wr, Lo'⟩ := tr
      simp only at t1 t2 t3
      have hids : ∀ p : Nat → Prop, (∀ t ∈ opSlots ops o, ∀ d, f t = some d → Lts p d) → IRs.Lts p (inR rd R) → Lts (fun i => p i ∨ (nx ≤ i ∧ i < nx')) v ∧ (ef = true → IRs.Lts (fun i => p i ∨ (nx ≤ i ∧ i < nx')) Lo') := fun p hp1 hp2 =>
        ⟨(idsC_ok 4 hb3).mono fun i hi => (okId_ok hi).imp (hal p hp1 hp2 i) id, fun he q hq => ((okR_ok (hb4.resolve_left (by rw [he]; simp))).mono fun i hi => hi.imp (hal p hp1 hp2 i) id) q (t2 q hq)⟩
      obtain ⟨g1, g2⟩ := hids (fun i => i < nx) (fun t _ d hdd => hfl t d hdd) hin.lts
      have hlt : ∀ i, (i < nx ∨ (nx ≤ i ∧ i < nx')) → i < nx' := fun i hi => by omega
      have hfact : OpFact P n ops o f R nx ⟨o.dst, v, opSlots ops o, rd, wr, ef, Lo'⟩ nx' := ⟨rfl, rfl, fun he => hb2.resolve_left (by simp only at he; rw [he]; simp), hd, hb1, .inr ⟨hg, fun ρ C => by
          cases ef with
          | true => exact Ye.mono (y1 ρ C) fun a σ' ⟨ρ', z1, z2, z3⟩ => ⟨ρ', z1, z2, z3.trans (res_perm t3)⟩
          | false => exact y2 rfl ρ C⟩, t1, hin, g1.mono hlt, fun he => (IRs.Lts.mono (g2 he) hlt).ltd, hids⟩
      have hR' : IRs.Ltd nx' (Rc.R ⟨o.dst, v, opSlots ops o, rd, wr, ef, Lo'⟩ R) := by
        unfold Rc.R
        cases ef with
        | false => exact hR.mono hb1
        | true => exact fun q hq => (List.mem_append.1 hq).elim (fun hq => ((IRs.Lts.mono (g2 rfl) hlt).ltd) q hq) fun hq => (hR.mono hb1) q (List.mem_filter.1 hq).1
      have h4 : dgo P F n ops ps l (cs ++ [⟨o.dst, v, opSlots ops o, rd, wr, ef, Lo'⟩]) ⟨putO o.dst v E, Rc.R ⟨o.dst, v, opSlots ops o, rd, wr, ef, Lo'⟩ R, nx'⟩ k = some r := h3
      obtain ⟨cs', s', f', q1, q2, q3⟩ := dgo_ok hF hN l (f := Rc.F ⟨o.dst, v, opSlots ops o, rd, wr, ef, Lo'⟩ f) h4 (putO_F rfl rfl hf1) (fun t d hdd => by
        unfold Rc.F at hdd
        split at hdd
        · cases hdd; exact g1.mono hlt
        · exact Ltd.mono (hfl t d hdd) hb1) hR'
      exact ⟨_ :: cs', s', f', by simpa using q1, .cons hfact q2, q3⟩
    · obtain ⟨E, R, nx⟩ := s1
      obtain ⟨E0, R0, nx0⟩ := s
      simp only at e1 e2 hf1
      subst e1 e2
      have hin : IRs.Ltd nx (inR [] R) := fun q hq => hR q (List.mem_filter.1 hq).1
      have hfact : OpFact P n ops o f R nx ⟨o.dst, .lit undef, opSlots ops o, [], [], false, []⟩ nx := ⟨rfl, rfl, fun h => (by cases h), hd, Nat.le_refl _, .inl ⟨hg, rfl, rfl⟩, fun _ h => (by cases h), hin, .lit _, fun h => (by cases h), fun p _ _ => ⟨.lit _, fun h => (by cases h)⟩⟩
      have h2 : dgo P F n ops ps l (cs ++ [⟨o.dst, .lit undef, opSlots ops o, [], [], false, []⟩]) ⟨putO o.dst (.lit undef) E, R, nx⟩ k = some r := h1
      obtain ⟨cs', s', f', q1, q2, q3⟩ := dgo_ok hF hN l (f := Rc.F ⟨o.dst, .lit undef, opSlots ops o, [], [], false, []⟩ f) h2 (putO_F rfl rfl hf1) (fun t d hdd => by
        unfold Rc.F at hdd
        split at hdd
        · cases hdd; exact .lit _
        · exact hfl t d hdd) hR
      exact ⟨_ :: cs', s', f', by simpa using q1, .cons hfact q2, q3⟩
end Go.Iv
