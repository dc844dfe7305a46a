/- Merged: Iw12, Iw13, Iw14, Iw15, Ixa, Ix1, Ix2, Iwb, Ua, Ix3, Ix4, Us. -/
import Derived.Test.YtfipaakafcjjhaaM2DiskWhole
import Derived.Test.YtfipaakafcjjhaaM1DiskWhole
import Derived.Test.YtfipaakafcjjhaaProg
section
set_option linter.unusedSectionVars false
set_option linter.unusedVariables false
set_option linter.unusedSimpArgs false
namespace Go.Iv
variable [U : Uni] [L : UniL]
open Go Go.RowKit

/-! ### names that stand in what was made -/

noncomputable def idsC (p : Nat → Bool) (n : Nat) : AV → Bool := Nat.rec (fun d => match d with
  | .lit _ => true
  | .sl _ _ => true
  | .rp _ _ => true
  | .own i => p i
  | .ptr i _ => p i
  | .ra i _ _ _ => p i
  | _ => false) (fun _ ih d => match d with
  | .lit _ => true
  | .sl _ _ => true
  | .rp _ _ => true
  | .own i => p i
  | .ptr i _ => p i
  | .ra i _ _ _ => p i
  | .agg cs => cs.all ih
  | .tup cs => cs.all ih
  | .fn _ cs => cs.all ih
  | .fp cs => cs.all ih) n
theorem idsC_ok {p : Nat → Bool} : ∀ (n : Nat) {d : AV}, idsC p n d = true → Lts (fun i => p i = true) d
  | 0, d, h => by
    cases d <;> first | exact .lit _ | exact .sl _ _ | exact .rp _ _ | exact .own _ h | exact .ptr _ _ h | exact .ra _ _ _ _ h | (cases h; done)
  | n + 1, d, h => by
    have hL : ∀ {cs : List AV}, cs.all (idsC p n) = true → ∀ c ∈ cs, Lts (fun i => p i = true) c := fun h c hc => idsC_ok n (List.all_eq_true.1 h c hc)
    cases d <;> first | exact .lit _ | exact .sl _ _ | exact .rp _ _ | exact .own _ h | exact .ptr _ _ h | exact .ra _ _ _ _ h | exact .agg _ (hL h) | exact .tup _ (hL h) | exact .fn _ _ (hL h) | exact .fp _ (hL h)
theorem idsN_ok {p : Nat → Prop} : ∀ (n : Nat) {d : AV}, Lts p d → ∀ i ∈ idsN n d, p i
  | 0, d, h, i, hi => by
    cases h <;> simp only [idsN, List.mem_singleton, List.not_mem_nil] at hi <;> (subst hi; assumption)
  | n + 1, d, h, i, hi => by
    have hL : ∀ {cs : List AV}, (∀ c ∈ cs, Lts p c) → i ∈ cs.flatMap (idsN n) → p i := fun h hi => by
      obtain ⟨c, h1, h2⟩ := List.mem_flatMap.1 hi
      exact idsN_ok n (h c h1) i h2
    cases h with
    | agg cs h => exact hL h hi
    | tup cs h => exact hL h hi
    | fn f cs h => exact hL h hi
    | own id h => simp only [idsN, List.mem_singleton] at hi; rw [hi]; exact h
    | ptr id off h => simp only [idsN, List.mem_singleton] at hi; rw [hi]; exact h
    | ra id t m off h => simp only [idsN, List.mem_singleton] at hi; rw [hi]; exact h
    | _ => simp [idsN] at hi

noncomputable def valIds (sl : List Nat) (T : ET) : List Nat := sl.flatMap fun t => match eget T t with
  | some d => idsN 3 d
  | none => []
noncomputable def resIds (R : IRs) : List Nat := R.flatMap fun q => q.1 :: match q.2 with
  | .box _ cs => cs.flatMap (idsN 3)
  | .row _ _ => []
noncomputable def okId (al : List Nat) (nx nx' i : Nat) : Bool := memB i al || (Nat.ble nx i && Nat.blt i nx')
noncomputable def okR (al : List Nat) (nx nx' : Nat) (R : IRs) : Bool := R.all fun q => okId al nx nx' q.1 && match q.2 with
  | .box _ cs => cs.all (idsC (okId al nx nx') 3)
  | .row _ _ => true

theorem okId_ok {al : List Nat} {nx nx' i : Nat} (h : okId al nx nx' i = true) : i ∈ al ∨ (nx ≤ i ∧ i < nx') := by
  unfold okId at h
  simp only [Bool.or_eq_true, Bool.and_eq_true, Nat.ble_eq, Nat.blt_eq] at h
  exact h.imp memB_iff.1 id
theorem okR_ok {al : List Nat} {nx nx' : Nat} {R : IRs} (h : okR al nx nx' R = true) : IRs.Lts (fun i => i ∈ al ∨ (nx ≤ i ∧ i < nx')) R := fun q hq => by
  have := List.all_eq_true.1 h q hq
  simp only [Bool.and_eq_true] at this
  refine ⟨okId_ok this.1, ?_⟩
  obtain ⟨i, r⟩ := q
  cases r with
  | row t l => trivial
  | box T cs => exact fun c hc => (idsC_ok 3 (List.all_eq_true.1 this.2 c hc)).mono fun i hi => okId_ok hi

/-! ### a region, in the order of the text -/

/-- does the operation look at what is owned? -/
def needR (o : Op) : Bool := match o with
  | .move _ => false
  | .assign _ => false
  | .pick _ _ _ => false
  | .unOp _ _ _ => false
  | .nilCheck _ => false
  | .fieldAddr _ _ _ => false
  | .extract _ _ => false
  | .makeFunc _ _ _ => false
  | .alloc _ => false
  | _ => true
def isCal (o : Op) : Bool := match o with
  | .call { callee := .value _, .. } => true
  | _ => false
noncomputable def footO (ops : Array Oper) (o : Oper) (E : ET) (R : IRs) : List Nat := match needR o.op with
  | false => []
  | true => match isCal o.op with
    | false => valIds (opSlots ops o) E
    | true => reach R 3 (valIds (opSlots ops o) E)
noncomputable def inQ (rd : List Nat) (R : IRs) : IRs := match rd with
  | [] => []
  | rd => inR rd R
theorem inQ_eq (rd : List Nat) (R : IRs) : inQ rd R = inR rd R := by
  cases rd with
  | nil => exact (List.filter_eq_nil_iff.2 fun p _ => by simp [memB]).symm
  | cons a l => rfl

/-- what is to hold of the record of an operation -/
noncomputable def rcB (ops : Array Oper) (o : Oper) (E : ET) (Rl : IRs) (nx : Nat) (v : AV) (ef : Bool) (Lo : IRs) (nx' : Nat) : Bool := (fun al => Nat.ble nx nx' && (!ef || efk o) && idsC (okId al nx nx') 4 v && (!ef || okR al nx nx' Lo)) (valIds (opSlots ops o) E ++ resIds Rl)

/-! what an operation was lent, and did not change -/

noncomputable def eqAL (e : AV → AV → Bool) (l : List AV) : List AV → Bool := List.rec (fun m => match m with
  | [] => true
  | _ => false) (fun a _ ih m => match m with
  | b :: m => e a b && ih m
  | [] => false) l
noncomputable def eqA1 (ih : AV → AV → Bool) (a b : AV) : Bool := match a, b with
  | .own i, .own j => Nat.beq i j
  | .ptr i o, .ptr j p => Nat.beq i j && Nat.beq o p
  | .fn (.func f) cs, .fn (.func g) ds => Nat.beq f g && eqAL ih cs ds
  | _, _ => false
noncomputable def eqA (n : Nat) : AV → AV → Bool := Nat.rec (fun _ _ => false) (fun _ ih => eqA1 ih) n
noncomputable def eqIR (a b : IR) : Bool := match a, b with
  | .box T cs, .box T' ds => Nat.beq T T' && eqAL (eqA 2) cs ds
  | _, _ => false
noncomputable def eqIRs (l : IRs) : IRs → Bool := List.rec (fun m => match m with
  | [] => true
  | _ => false) (fun a _ ih m => match m with
  | b :: m => Nat.beq a.1 b.1 && eqIR a.2 b.2 && ih m
  | [] => false) l
theorem eqAL_ok {e : AV → AV → Bool} (he : ∀ a b, e a b = true → a = b) : ∀ {l m : List AV}, eqAL e l m = true → l = m
  | [], [], _ => rfl
  | [], _ :: _, h => by cases h
  | _ :: _, [], h => by cases h
  | a :: l, b :: m, h => by
    change (e a b && eqAL e l m) = true at h
    rw [Bool.and_eq_true] at h
    rw [he a b h.1, eqAL_ok he h.2]
theorem eqA_ok : ∀ (n : Nat) {a b : AV}, eqA n a b = true → a = b
  | 0, a, b, h => by cases h
  | n + 1, a, b, h => by
    change eqA1 (eqA n) a b = true at h
    unfold eqA1 at h
    split at h
    · rw [beqT h]
    · rw [Bool.and_eq_true] at h; rw [beqT h.1, beqT h.2]
    · rw [Bool.and_eq_true] at h; rw [beqT h.1, eqAL_ok (fun a b => eqA_ok n) h.2]
    · cases h
theorem eqIRs_ok : ∀ {l m : IRs}, eqIRs l m = true → l = m
  | [], [], _ => rfl
  | [], _ :: _, h => by cases h
  | _ :: _, [], h => by cases h
  | (i, a) :: l, (j, b) :: m, h => by
    change (Nat.beq i j && eqIR a b && eqIRs l m) = true at h
    simp only [Bool.and_eq_true] at h
    have h1 := beqT h.1.1
    subst h1
    have h2 := h.1.2
    unfold eqIR at h2
    split at h2
    · rw [Bool.and_eq_true] at h2
      rw [beqT h2.1, eqAL_ok (fun a b => eqA_ok 2) h2.2, eqIRs_ok h.2]
    · cases h2
noncomputable def trim (K rd : List Nat) (Rl Lo : IRs) : List Nat × IRs := match K.filter fun i => memB i rd with
  | [] => (rd, Lo)
  | k :: K => match eqIRs (inR (k :: K) Lo) (inR (k :: K) Rl) with
    | true => (rd.filter fun i => !memB i (k :: K), outR (k :: K) Lo)
    | false => (rd, Lo)
theorem trim_ok (K rd : List Nat) (R Lo : IRs) : (∀ i ∈ (trim K rd (inR rd R) Lo).1, i ∈ rd) ∧ (∀ q ∈ (trim K rd (inR rd R) Lo).2, q ∈ Lo) ∧ List.Perm Lo ((trim K rd (inR rd R) Lo).2 ++ outR (trim K rd (inR rd R) Lo).1 (inR rd R)) := by
  have h0 : outR rd (inR rd R) = [] := List.filter_eq_nil_iff.2 fun p hp => by
    have : memB p.1 rd = true := (List.mem_filter.1 hp).2
    rw [this]; simp
  have triv : (∀ i ∈ rd, i ∈ rd) ∧ (∀ q ∈ Lo, q ∈ Lo) ∧ List.Perm Lo (Lo ++ outR rd (inR rd R)) := ⟨fun _ h => h, fun _ h => h, by rw [h0, List.append_nil]⟩
  unfold trim
  split
  · exact triv
  · rename_i k K' hK
    split
    case h_2 => exact triv
    rename_i he
    have he := eqIRs_ok he
    refine ⟨fun i hi => (List.mem_filter.1 hi).1, fun q hq => (List.mem_filter.1 hq).1, ?_⟩
    have e1 : outR (rd.filter fun i => !memB i (k :: K')) (inR rd R) = inR (k :: K') (inR rd R) := by
      unfold outR inR
      refine List.filter_congr fun p hp => ?_
      have hp : memB p.1 rd = true := (List.mem_filter.1 hp).2
      cases hm : memB p.1 (k :: K') with
      | true =>
        rw [memB_not.2 fun hx => ?_]; rfl
        have := (List.mem_filter.1 hx).2
        rw [hm] at this; cases this
      | false =>
        rw [memB_iff.2 (List.mem_filter.2 ⟨memB_iff.1 hp, by rw [hm]; rfl⟩)]; rfl
    show List.Perm Lo (outR (k :: K') Lo ++ outR (rd.filter fun i => !memB i (k :: K')) (inR rd R))
    rw [e1, ← he]
    exact (List.perm_append_comm.trans (List.filter_append_perm _ _)).symm

/-- the slots of the operations whose deeds are compared with those of operation i -/
noncomputable def partner (ops : Array Oper) (ps : List (Nat × Nat)) (i : Nat) : List Nat := ps.flatMap fun p => match Nat.beq p.1 i with
  | true => match ops[p.2]? with
    | some o => match isCal o.op with
      | true => []
      | false => opSlots ops o
    | none => []
  | false => match Nat.beq p.2 i with
    | true => match ops[p.1]? with
      | some o => match isCal o.op with
        | true => []
        | false => opSlots ops o
      | none => []
    | false => []
noncomputable def lentK (ops : Array Oper) (ps : List (Nat × Nat)) (cs : List Rc) (E : ET) : List Nat := match ps with
  | [] => []
  | p :: ps => valIds (partner ops (p :: ps) cs.length) E

noncomputable def dK2 (o : Oper) (sl : List Nat) (cs : List Rc) (rd : List Nat) (E : ET) (R : IRs) {α : Type} (ih : List Rc → St → (List Rc → St → Option α) → Option α) (k : List Rc → St → Option α) (v : AV) (ef : Bool) (nx' : Nat) (t : List Nat × IRs) : Option α :=
  ih (cs ++ [⟨o.dst, v, sl, rd, t.1, ef, t.2⟩]) ⟨putO o.dst v E, match ef with
    | true => t.2 ++ outR t.1 R
    | false => R, nx'⟩ k
noncomputable def dK (ops : Array Oper) (ps : List (Nat × Nat)) (o : Oper) (cs : List Rc) (rd : List Nat) (E : ET) (R Rl : IRs) (nx : Nat) {α : Type} (ih : List Rc → St → (List Rc → St → Option α) → Option α) (k : List Rc → St → Option α) (x : AV × Bool × IRs × Nat) : Option α :=
  match rcB ops o E Rl nx x.1 x.2.1 x.2.2.1 x.2.2.2 with
  | true => dK2 o (opSlots ops o) cs rd E R ih k x.1 x.2.1 x.2.2.2 (trim (lentK ops ps cs E) rd Rl x.2.2.1)
  | false => none
noncomputable def dYes2 {α : Type} (P : Program) (F : Orc) (ops : Array Oper) (ps : List (Nat × Nat)) (o : Oper) (ih : List Rc → St → (List Rc → St → Option α) → Option α) (cs : List Rc) (k : List Rc → St → Option α) (E : ET) (R : IRs) (nx : Nat) (rd : List Nat) (Rl : IRs) : Option α :=
  lrunK P F o (opSlots ops o) E Rl nx (dK ops ps o cs rd E R Rl nx ih k)
noncomputable def dYes {α : Type} (P : Program) (F : Orc) (ops : Array Oper) (ps : List (Nat × Nat)) (o : Oper) (ih : List Rc → St → (List Rc → St → Option α) → Option α) (cs : List Rc) (k : List Rc → St → Option α) (s : St) : Option α :=
  St.rec (fun E R nx => (fun rd => dYes2 P F ops ps o ih cs k E R nx rd (inQ rd R)) (footO ops o E R)) s
noncomputable def dNo {α : Type} (ops : Array Oper) (o : Oper) (ih : List Rc → St → (List Rc → St → Option α) → Option α) (cs : List Rc) (k : List Rc → St → Option α) (s : St) : Option α :=
  ih (cs ++ [⟨o.dst, .lit undef, opSlots ops o, [], [], false, []⟩]) ⟨putO o.dst (.lit undef) s.E, s.R, s.nx⟩ k
noncomputable def dOne {α : Type} (P : Program) (F : Orc) (n : Nat) (ops : Array Oper) (ps : List (Nat × Nat)) (o : Oper) (ih : List Rc → St → (List Rc → St → Option α) → Option α) (cs : List Rc) (s : St) (k : List Rc → St → Option α) : Option α := match dstOk n o.dst with
  | true => gate ops o s (dYes P F ops ps o ih cs k) (dNo ops o ih cs k)
  | false => none
noncomputable def dgo {α : Type} (P : Program) (F : Orc) (n : Nat) (ops : Array Oper) (ps : List (Nat × Nat)) (l : List Oper) : List Rc → St → (List Rc → St → Option α) → Option α := List.rec (fun cs s k => k cs s) (fun o _ ih => dOne P F n ops ps o ih) l

noncomputable def backB (l : List Oper) : Nat → Bool := List.rec (fun _ => true) (fun o _ ih i => (o.after.toList.all fun e => !Region.binds .any e || Nat.blt e.on i) && ih (i + 1)) l
theorem backB_ok : ∀ {l : List Oper} {k : Nat}, backB l k = true → ∀ (i : Nat) o, l[i]? = some o → ∀ e ∈ o.after.toList, Region.binds .any e = true → e.on < k + i
  | [], k, _, i, o, h, _, _, _ => by cases h
  | o0 :: l, k, hb, i, o, h, e, he, hbe => by
    change ((o0.after.toList.all fun e => !Region.binds .any e || Nat.blt e.on k) && backB l (k + 1)) = true at hb
    simp only [Bool.and_eq_true] at hb
    cases i with
    | zero =>
      cases h
      have := List.all_eq_true.1 hb.1 e he
      rw [hbe] at this
      simpa [Nat.blt_eq] using this
    | succ i =>
      have := backB_ok hb.2 i o h e he hbe
      omega

noncomputable def dexec {α : Type} (P : Program) (F : Orc) (n : Nat) (ops : Array Oper) (s : St) (k : St → Option α) : Option α := match P.follows .mixedOrders && backB ops.toList 0 with
  | true => match plan ops with
    | some ps => dgo P F n ops ps ops.toList [] s fun cs s' => match planOk ps cs with
      | true => k s'
      | false => none
    | none => none
  | false => none

/-! ### what was done, operation after operation -/

/-- Is the operation wanted, by what f says? -/
def GateS (ops : Array Oper) (o : Oper) (f : Fr) (wn : Bool) : Prop := match o.guard with
  | none => wn = true
  | some (j, want) => ∃ t, (ops[j]?).bind (·.dst) = some t ∧ ((∃ b, f t = some (.lit (.bool b)) ∧ wn = (b == want)) ∨ (∃ vs, f t = some (.lit (.tuple vs)) ∧ wn = false))

structure OpFact (P : Program) (n : Nat) (ops : Array Oper) (o : Oper) (f : Fr) (R : IRs) (nx : Nat) (c : Rc) (nx' : Nat) : Prop where
  dst : c.dst = o.dst
  sl : c.sl = opSlots ops o
  ef : c.ef = true → efk o = true
  dn : dstOk n o.dst = true
  le : nx ≤ nx'
  run : (GateS ops o f false ∧ c.v = .lit undef ∧ c.ef = false) ∨ (GateS ops o f true ∧ ∀ ρ C, Ye P ((locE f c.sl).sub ρ) (IRs.res ρ (inR c.rd R)) o C (Nlc nx c.v (match c.ef with | true => c.Lo ++ outR c.wr (inR c.rd R) | false => inR c.rd R) ρ))
  wr : ∀ i ∈ c.wr, i ∈ c.rd
  lin : IRs.Ltd nx (inR c.rd R)
  lv : Ltd nx' c.v
  lo : c.ef = true → IRs.Ltd nx' c.Lo
  ids : ∀ p : Nat → Prop, (∀ t ∈ c.sl, ∀ d, f t = some d → Lts p d) → IRs.Lts p (inR c.rd R) → Lts (fun i => p i ∨ (nx ≤ i ∧ i < nx')) c.v ∧ (c.ef = true → IRs.Lts (fun i => p i ∨ (nx ≤ i ∧ i < nx')) c.Lo)

inductive Ch (P : Program) (n : Nat) (ops : Array Oper) : Fr → IRs → Nat → List Oper → List Rc → Fr → IRs → Nat → Prop
  | nil (f : Fr) (R : IRs) (nx : Nat) : Ch P n ops f R nx [] [] f R nx
  | cons {f f' : Fr} {R R' : IRs} {nx nx1 nx' : Nat} {o : Oper} {os : List Oper} {c : Rc} {cs : List Rc} (h : OpFact P n ops o f R nx c nx1) (hs : Ch P n ops (c.F f) (c.R R) nx1 os cs f' R' nx') : Ch P n ops f R nx (o :: os) (c :: cs) f' R' nx'

theorem gate_S {α : Type} {r : α} {ops : Array Oper} {o : Oper} {s : St} {yes no : St → Option α} (h : gate ops o s yes no = some r) {f : Fr} (hf : ∀ t d, eget s.E t = some d → f t = some d) : ∃ s' : St, s'.R = s.R ∧ s'.nx = s.nx ∧ (∀ t d, eget s'.E t = some d → f t = some d) ∧
    ((GateS ops o f true ∧ yes s' = some r) ∨ (GateS ops o f false ∧ no s' = some r)) := by
  unfold gate at h
  unfold GateS
  split at h
  · rename_i hg
    exact ⟨s, rfl, rfl, hf, .inl ⟨by rw [hg], h⟩⟩
  · rename_i j want hg
    split at h
    · cases h
    · rename_i t hj
      have hput : ∀ b, eget s.E t = some (.lit (.bool b)) → ∀ k d, eget (s.putB t b).E k = some d → f k = some d := fun b hb k d hk => by
        have hk' : eget (eput t (.b b) s.E) k = some d := hk
        rcases eput_get hk' with ⟨rfl, rfl⟩ | ⟨_, h2⟩
        · exact hf _ _ hb
        · exact hf k d h2
      split at h
      · rename_i b hb
        have hfb := hf _ _ hb
        split at h
        · split at h
          · exact ⟨s.putB t true, rfl, rfl, hput _ hb, .inl ⟨by rw [hg]; exact ⟨t, hj, .inl ⟨_, hfb, rfl⟩⟩, h⟩⟩
          · exact ⟨s.putB t true, rfl, rfl, hput _ hb, .inr ⟨by rw [hg]; exact ⟨t, hj, .inl ⟨_, hfb, rfl⟩⟩, h⟩⟩
        · split at h
          · exact ⟨s.putB t false, rfl, rfl, hput _ hb, .inr ⟨by rw [hg]; exact ⟨t, hj, .inl ⟨_, hfb, rfl⟩⟩, h⟩⟩
          · exact ⟨s.putB t false, rfl, rfl, hput _ hb, .inl ⟨by rw [hg]; exact ⟨t, hj, .inl ⟨_, hfb, rfl⟩⟩, h⟩⟩
      · rename_i vs hb
        exact ⟨s, rfl, rfl, hf, .inr ⟨by rw [hg]; exact ⟨t, hj, .inr ⟨_, hf _ _ hb, rfl⟩⟩, h⟩⟩
      · cases h

theorem putO_F {dst : Option Nat} {v : AV} {E : ET} {f : Fr} {c : Rc} (hc : c.dst = dst) (hv : c.v = v) (hf : ∀ t d, eget E t = some d → f t = some d) : ∀ t d, eget (putO dst v E) t = some d → c.F f t = some d := fun t d h => by
  unfold putO at h
  unfold Rc.F
  rw [hc, hv]
  cases dst with
  | none => simpa using hf t d h
  | some s =>
    rcases eput_get h with ⟨rfl, rfl⟩ | ⟨h1, h2⟩
    · rw [if_pos rfl]
    · rw [if_neg (fun e => h1 (Option.some.inj e))]
      exact hf t d h2

theorem Ye.mono {P : Program} {C : Cx} {E : Env} {σ : List Res} {o : Oper} {N N' : Option AV → List Res → Prop} (h : Ye P E σ o C N) (hN : ∀ a σ', N a σ' → N' a σ') : Ye P E σ o C N' := fun w ϱ hg hρ => by
  rcases h w ϱ hg hρ with ⟨v, w', av, σ', h1, h2, h3⟩ | ⟨w', σ', h1, h2, h3⟩ | ⟨f, args, h1, h2⟩
  · exact .inl ⟨v, w', av, σ', hN _ _ h1, h2, h3⟩
  · exact .inr (.inl ⟨w', σ', hN _ _ h1, h2, h3⟩)
  · exact .inr (.inr ⟨f, args, h1, Calls.mono h2 fun e w' ⟨v, av, σ', q1, q2, q3⟩ => ⟨v, av, σ', q1, hN _ _ q2, q3⟩⟩)

theorem dgo_ok {α : Type} {r : α} {P : Program} {F : Orc} {n : Nat} {ops : Array Oper} {ps : List (Nat × Nat)} (hF : OrcOk P F) (hN : OrcNat F) {k : List Rc → St → Option α} : ∀ (l : List Oper) {cs : List Rc} {s : St} {f : Fr}, dgo P F n ops ps l cs s k = some r → (∀ t d, eget s.E t = some d → f t = some d) → (∀ t d, f t = some d → Ltd s.nx d) → IRs.Ltd s.nx s.R →
    ∃ (cs' : List Rc) (s' : St) (f' : Fr), k (cs ++ cs') s' = some r ∧ Ch P n ops f s.R s.nx l cs' f' s'.R s'.nx ∧ (∀ t d, eget s'.E t = some d → f' t = some d)
  | [], cs, s, f, h, hf, _, _ => ⟨[], s, f, by rw [List.append_nil]; exact h, .nil f s.R s.nx, hf⟩
  | o :: l, cs, s, f, h, hf, hfl, hR => by
    change dOne P F n ops ps o (dgo P F n ops ps l) cs s k = some r at h
    unfold dOne at h
    split at h
    case h_2 => cases h
    rename_i hd
    obtain ⟨s1, e1, e2, hf1, ⟨hg, h1⟩ | ⟨hg, h1⟩⟩ := gate_S h hf
    · obtain ⟨E, R, nx⟩ := s1
      obtain ⟨E0, R0, nx0⟩ := s
      simp only at e1 e2 hf1
      subst e1 e2
      change lrunK P F o (opSlots ops o) E (inQ (footO ops o E R) R) nx (dK ops ps o cs (footO ops o E R) E R (inQ (footO ops o E R) R) nx (dgo P F n ops ps l) k) = some r at h1
      rw [← lrun_nat hN] at h1
      generalize hrd : footO ops o E R = rd at h1
      obtain ⟨⟨v, ef, Lo, nx'⟩, h2, h3⟩ := Option.bind_eq_some_iff.1 h1
      unfold dK at h3
      split at h3
      case h_2 => cases h3
      rename_i hb
      rw [inQ_eq] at h2 hb
      simp only at h3 hb
      unfold rcB at hb
      simp only [Bool.and_eq_true, Nat.ble_eq, Bool.or_eq_true, Bool.not_eq_true'] at hb
      obtain ⟨⟨⟨hb1, hb2⟩, hb3⟩, hb4⟩ := hb
      have hin : IRs.Ltd nx (inR rd R) := fun q hq => hR q (List.mem_filter.1 hq).1
      have hlE : (locE f (opSlots ops o)).Ltd nx := fun q hq => by
        obtain ⟨t, _, ht⟩ := List.mem_filterMap.1 hq
        obtain ⟨d, hd1, hd2⟩ := Option.map_eq_some_iff.1 ht
        rw [← hd2]
        exact hfl t d hd1
      obtain ⟨y1, y2⟩ := lrun_ok hF h2 (E := locE f (opSlots ops o)) (fun t ht d hdd => locE_of ht (hf1 t d hdd)) hlE hin
      have hal : ∀ p : Nat → Prop, (∀ t ∈ opSlots ops o, ∀ d, f t = some d → Lts p d) → IRs.Lts p (inR rd R) → ∀ i ∈ valIds (opSlots ops o) E ++ resIds (inR rd R), p i := fun p hp1 hp2 i hi => by
        rcases List.mem_append.1 hi with hi | hi
        · obtain ⟨t, ht, hi⟩ := List.mem_flatMap.1 hi
          split at hi
          · rename_i d hdd; exact idsN_ok 3 (hp1 t ht d (hf1 t d hdd)) i hi
          · cases hi
        · obtain ⟨q, hq, hi⟩ := List.mem_flatMap.1 hi
          obtain ⟨g1, g2⟩ := hp2 q hq
          rcases List.mem_cons.1 hi with rfl | hi
          · exact g1
          · obtain ⟨j, rr⟩ := q
            cases rr with
            | row t l => cases hi
            | box T cs =>
              obtain ⟨c, hc, hi⟩ := List.mem_flatMap.1 hi
              exact idsN_ok 3 (g2 c hc) i hi
      obtain ⟨t1, t2, t3⟩ := trim_ok (lentK ops ps cs E) rd R Lo
      rw [inQ_eq] at h3
      generalize trim (lentK ops ps cs E) rd (inR rd R) Lo = tr at h3 t1 t2 t3
      obtain ⟨wr, Lo'⟩ := tr
      simp only at t1 t2 t3
      have hids : ∀ p : Nat → Prop, (∀ t ∈ opSlots ops o, ∀ d, f t = some d → Lts p d) → IRs.Lts p (inR rd R) → Lts (fun i => p i ∨ (nx ≤ i ∧ i < nx')) v ∧ (ef = true → IRs.Lts (fun i => p i ∨ (nx ≤ i ∧ i < nx')) Lo') := fun p hp1 hp2 =>
        ⟨(idsC_ok 4 hb3).mono fun i hi => (okId_ok hi).imp (hal p hp1 hp2 i) id, fun he q hq => ((okR_ok (hb4.resolve_left (by rw [he]; simp))).mono fun i hi => hi.imp (hal p hp1 hp2 i) id) q (t2 q hq)⟩
      obtain ⟨g1, g2⟩ := hids (fun i => i < nx) (fun t _ d hdd => hfl t d hdd) hin.lts
      have hlt : ∀ i, (i < nx ∨ (nx ≤ i ∧ i < nx')) → i < nx' := fun i hi => by omega
      have hfact : OpFact P n ops o f R nx ⟨o.dst, v, opSlots ops o, rd, wr, ef, Lo'⟩ nx' := ⟨rfl, rfl, fun he => hb2.resolve_left (by simp only at he; rw [he]; simp), hd, hb1, .inr ⟨hg, fun ρ C => by
          cases ef with
          | true => exact Ye.mono (y1 ρ C) fun a σ' ⟨ρ', z1, z2, z3⟩ => ⟨ρ', z1, z2, z3.trans (res_perm t3)⟩
          | false => exact y2 rfl ρ C⟩, t1, hin, g1.mono hlt, fun he => (IRs.Lts.mono (g2 he) hlt).ltd, hids⟩
      have hR' : IRs.Ltd nx' (Rc.R ⟨o.dst, v, opSlots ops o, rd, wr, ef, Lo'⟩ R) := by
        unfold Rc.R
        cases ef with
        | false => exact hR.mono hb1
        | true => exact fun q hq => (List.mem_append.1 hq).elim (fun hq => ((IRs.Lts.mono (g2 rfl) hlt).ltd) q hq) fun hq => (hR.mono hb1) q (List.mem_filter.1 hq).1
      have h4 : dgo P F n ops ps l (cs ++ [⟨o.dst, v, opSlots ops o, rd, wr, ef, Lo'⟩]) ⟨putO o.dst v E, Rc.R ⟨o.dst, v, opSlots ops o, rd, wr, ef, Lo'⟩ R, nx'⟩ k = some r := h3
      obtain ⟨cs', s', f', q1, q2, q3⟩ := dgo_ok hF hN l (f := Rc.F ⟨o.dst, v, opSlots ops o, rd, wr, ef, Lo'⟩ f) h4 (putO_F rfl rfl hf1) (fun t d hdd => by
        unfold Rc.F at hdd
        split at hdd
        · cases hdd; exact g1.mono hlt
        · exact Ltd.mono (hfl t d hdd) hb1) hR'
      exact ⟨_ :: cs', s', f', by simpa using q1, .cons hfact q2, q3⟩
    · obtain ⟨E, R, nx⟩ := s1
      obtain ⟨E0, R0, nx0⟩ := s
      simp only at e1 e2 hf1
      subst e1 e2
      have hin : IRs.Ltd nx (inR [] R) := fun q hq => hR q (List.mem_filter.1 hq).1
      have hfact : OpFact P n ops o f R nx ⟨o.dst, .lit undef, opSlots ops o, [], [], false, []⟩ nx := ⟨rfl, rfl, fun h => (by cases h), hd, Nat.le_refl _, .inl ⟨hg, rfl, rfl⟩, fun _ h => (by cases h), hin, .lit _, fun h => (by cases h), fun p _ _ => ⟨.lit _, fun h => (by cases h)⟩⟩
      have h2 : dgo P F n ops ps l (cs ++ [⟨o.dst, .lit undef, opSlots ops o, [], [], false, []⟩]) ⟨putO o.dst (.lit undef) E, R, nx⟩ k = some r := h1
      obtain ⟨cs', s', f', q1, q2, q3⟩ := dgo_ok hF hN l (f := Rc.F ⟨o.dst, .lit undef, opSlots ops o, [], [], false, []⟩ f) h2 (putO_F rfl rfl hf1) (fun t d hdd => by
        unfold Rc.F at hdd
        split at hdd
        · cases hdd; exact .lit _
        · exact hfl t d hdd) hR
      exact ⟨_ :: cs', s', f', by simpa using q1, .cons hfact q2, q3⟩
end Go.Iv
end
section
set_option linter.unusedSectionVars false
set_option linter.unusedVariables false
set_option linter.unusedSimpArgs false
namespace Go.Iv
variable [U : Uni] [L : UniL]
open Go Go.RowKit

section
variable {P : Program} {n : Nat} {ops : Array Oper}

/-- The chain, by number. -/
theorem Ch.idx {f f' : Fr} {R R' : IRs} {nx nx' : Nat} {os : List Oper} {cs : List Rc} (h : Ch P n ops f R nx os cs f' R' nx') : cs.length = os.length ∧ f' = runF cs (List.replicate cs.length true) f ∧ R' = runR cs (List.replicate cs.length true) R ∧
    ∃ g : Nat → Nat, g 0 = nx ∧ g os.length = nx' ∧ (∀ i, i < os.length → g i ≤ g (i + 1)) ∧ ∀ (i : Nat) o c, os[i]? = some o → cs[i]? = some c → OpFact P n ops o (runF (cs.take i) (List.replicate i true) f) (runR (cs.take i) (List.replicate i true) R) (g i) c (g (i + 1)) := by
  induction h with
  | nil f R nx => exact ⟨rfl, rfl, rfl, fun _ => nx, rfl, rfl, fun i hi => by simp at hi, fun i o c h => by cases h⟩
  | @cons f f' R R' nx nx1 nx' o os c cs h hs ih =>
    obtain ⟨h1, h2, h3, g, g0, g1, g2, g3⟩ := ih
    refine ⟨by simp [h1], by rw [h2]; rfl, by rw [h3]; rfl, fun i => match i with | 0 => nx | i + 1 => g i, rfl, g1, fun i hi => ?_, fun i o' c' q1 q2 => ?_⟩
    · cases i with
      | zero => show nx ≤ g 0; rw [g0]; exact h.le
      | succ i => exact g2 i (by simpa using hi)
    · cases i with
      | zero => cases q1; cases q2; show OpFact P n ops o f R nx c (g 0); rw [g0]; exact h
      | succ i => exact g3 i o' c' q1 q2

theorem mono_g {g : Nat → Nat} {N : Nat} (h : ∀ i, i < N → g i ≤ g (i + 1)) : ∀ i j, i ≤ j → j ≤ N → g i ≤ g j := fun i j hij hj => by
  induction j with
  | zero => have : i = 0 := by omega
            subst this; exact Nat.le_refl _
  | succ j ih =>
    by_cases hi : i = j + 1
    · subst hi; exact Nat.le_refl _
    · exact Nat.le_trans (ih (by omega) (by omega)) (h j (by omega))

/-- how many have not come up -/
def cntF : List Bool → Nat
  | [] => 0
  | b :: bs => (match b with | true => 0 | false => 1) + cntF bs
theorem cntF_set : ∀ {bs : List Bool} {i : Nat}, bs[i]? = some false → cntF bs = cntF (bs.set i true) + 1
  | [], _, h => by cases h
  | b :: bs, 0, h => by
    simp only [List.getElem?_cons_zero, Option.some.injEq] at h
    subst h
    show 1 + cntF bs = (0 + cntF bs) + 1
    omega
  | b :: bs, i + 1, h => by
    have := cntF_set (bs := bs) (i := i) (by simpa using h)
    cases b with
    | true =>
      show 0 + cntF bs = (0 + cntF (bs.set i true)) + 1
      omega
    | false =>
      show 1 + cntF bs = (1 + cntF (bs.set i true)) + 1
      omega
theorem cntF_rep : ∀ N : Nat, cntF (List.replicate N false) = N
  | 0 => rfl
  | N + 1 => by rw [List.replicate_succ]; show 1 + cntF (List.replicate N false) = N + 1; rw [cntF_rep N]; omega
theorem cntF_zero : ∀ {bs : List Bool}, cntF bs = 0 → bs = List.replicate bs.length true
  | [], _ => rfl
  | b :: bs, h => by
    cases b with
    | true => rw [List.length_cons, List.replicate_succ, ← cntF_zero (bs := bs) (by have : 0 + cntF bs = 0 := h; omega)]
    | false => have : 1 + cntF bs = 0 := h; omega
theorem cntF_pos : ∀ {bs : List Bool}, cntF bs ≠ 0 → ∃ i : Nat, bs[i]? = some false ∧ ∀ j, j < i → bs[j]? = some true
  | [], h => absurd rfl h
  | b :: bs, h => by
    cases b with
    | false => exact ⟨0, rfl, fun j hj => by omega⟩
    | true =>
      obtain ⟨i, h1, h2⟩ := cntF_pos (bs := bs) (fun e => h (by show 0 + cntF bs = 0; omega))
      refine ⟨i + 1, h1, fun j hj => ?_⟩
      cases j with
      | zero => rfl
      | succ j => exact h2 j (by omega)

theorem mem_ready {listed : Array Bool} {i : Nat} : i ∈ Region.ready .any ops listed ↔ i < ops.size ∧ listed.getD i true = false ∧ ∃ o, ops[i]? = some o ∧ ∀ e ∈ o.after.toList, Region.binds .any e = true → listed.getD e.on false = true := by
  unfold Region.ready
  simp only [List.mem_filter, List.mem_range, Bool.and_eq_true, Bool.not_eq_true']
  refine and_congr_right fun hi => and_congr_right fun _ => ?_
  rw [Array.getElem?_eq_getElem hi]
  simp only [Option.map_some, Option.getD_some, Option.some.injEq, exists_eq_left']
  rw [Array.all_eq_true']
  constructor
  · intro h e he hb
    have := h e (by simpa using he)
    rw [hb] at this
    simpa using this
  · intro h e he
    cases hb : Region.binds .any e with
    | false => rfl
    | true => simpa using h e (by simpa using he) hb

theorem getD_true {listed : Array Bool} {i : Nat} (hi : i < listed.size) : listed.getD i true = false ↔ listed.toList[i]? = some false := by
  rw [Array.getD_eq_getD_getElem?, Array.getElem?_eq_getElem hi, List.getElem?_eq_getElem (by simpa using hi)]
  simp
theorem getD_false {listed : Array Bool} {i : Nat} : listed.getD i false = true ↔ listed.toList[i]? = some true := by
  rw [Array.getD_eq_getD_getElem?]
  cases h : listed[i]? with
  | none => simp [h]
  | some b => simp [h]

theorem any_ok {C : Cg} {cs : List Rc} {f0 : Fr} {R0 : IRs} {nx0 : Nat} {g : Nat → Nat} {ds : List Deferred} {Q : Exit → Act → World → Prop}
    (hlen : cs.length = ops.size) (g0 : g 0 = nx0) (gn : C.n ≤ nx0) (g2 : ∀ i, i < ops.size → g i ≤ g (i + 1)) (hf : ∀ (i : Nat) o c, ops.toList[i]? = some o → cs[i]? = some c → OpFact P n ops o (runF (cs.take i) (List.replicate i true) f0) (runR (cs.take i) (List.replicate i true) R0) (g i) c (g (i + 1)))
    (hcf : ∀ (i j : Nat) (c d : Rc), j < i → cs[j]? = some c → cs[i]? = some d → CF c d ∨ ∀ bs, Closed ops.toList bs → (∀ o, ops.toList[i]? = some o → Rdy bs o) → bs[j]? = some true)
    (hback : ∀ (i : Nat) o, ops.toList[i]? = some o → ∀ e ∈ o.after.toList, Region.binds .any e = true → e.on < i)
    (hQ : ∀ a w, a.defers = ds → MtS C n (fun i => i < g ops.size) (runF cs (List.replicate cs.length true) f0) (runR cs (List.replicate cs.length true) R0) a w → Q .normal a w) :
    ∀ (fuel : Nat) (listed : Array Bool) (a : Act) (w : World), listed.size = ops.size → cntF listed.toList = fuel → Closed ops.toList listed.toList → a.defers = ds →
      MtS C n (fun x => x < nx0 ∨ ∃ j : Nat, listed.toList[j]? = some true ∧ g j ≤ x ∧ x < g (j + 1)) (runF cs listed.toList f0) (runR cs listed.toList R0) a w → wpAny P .any ops Q fuel listed a w := by
  have hmono := mono_g (N := ops.size) (g := g) g2
  intro fuel
  induction fuel with
  | zero =>
    intro listed a w hs hc hcl hda hm
    have hall := cntF_zero hc
    have hfin : Q .normal a w := by
      refine hQ a w hda ?_
      rw [hall, show listed.toList.length = cs.length from by rw [hlen, ← hs]; simp] at hm
      obtain ⟨E, ρ, q1, q2, q3, q5, q4⟩ := hm
      have hle : ∀ i, (i < nx0 ∨ ∃ j : Nat, (List.replicate cs.length true)[j]? = some true ∧ g j ≤ i ∧ i < g (j + 1)) → i < g ops.size := fun i hi => by
        rcases hi with hi | ⟨j, hj, _, hj3⟩
        · have := hmono 0 ops.size (Nat.zero_le _) (Nat.le_refl _); omega
        · have hj' : j < cs.length := by simpa using (List.getElem?_eq_some_iff.1 hj).1
          have := hmono (j + 1) ops.size (by omega) (Nat.le_refl _); omega
      exact ⟨E, ρ, q1, fun q hq => (q2 q hq).mono hle, q3.mono hle, q5, q4⟩
    refine ⟨?_, hfin⟩
    rw [List.eq_nil_iff_forall_not_mem]
    intro i hi
    obtain ⟨h1, h2, _⟩ := mem_ready.1 hi
    rw [getD_true (by omega), hall, List.getElem?_replicate] at h2
    split at h2 <;> cases h2
  | succ fuel ih =>
    intro listed a w hs hc hcl hda hm
    refine ⟨fun hr => ?_, fun i hi => ?_⟩
    · -- something is ready
      exfalso
      obtain ⟨i, h1, h2⟩ := cntF_pos (bs := listed.toList) (by omega)
      have hil : i < listed.size := by simpa using (List.getElem?_eq_some_iff.1 h1).1
      have hio : i < ops.size := by omega
      have : i ∈ Region.ready .any ops listed := mem_ready.2 ⟨hio, (getD_true hil).2 h1, ops[i], Array.getElem?_eq_getElem hio, fun e he hb => getD_false.2 (h2 _ (hback i ops[i] (by simp [hio]) e he hb))⟩
      rw [hr] at this
      cases this
    · obtain ⟨hio, h2, o, ho, hrd⟩ := mem_ready.1 hi
      have hil : i < listed.size := by omega
      have hbi := (getD_true hil).1 h2
      have hol : ops.toList[i]? = some o := by simpa using ho
      have hRdy : Rdy listed.toList o := fun e he hb => getD_false.1 (hrd e he hb)
      obtain ⟨c, hci⟩ : ∃ c, cs[i]? = some c := ⟨_, List.getElem?_eq_getElem (by omega)⟩
      have fact := hf i o c hol hci
      obtain ⟨s1, s2, s3, s4⟩ := step_sel (cs := cs) (bs := listed.toList) (i := i) (c := c) f0 R0 (by rw [hlen, ← hs]; simp) hci hbi
        (fun j d hji hd hbj => (hcf i j d c hji hd hci).resolve_right fun h => by
          have := h listed.toList hcl (fun o' ho' => by rw [hol] at ho'; cases ho'; exact hRdy)
          rw [hbj] at this; cases this)
        (fun j d hij hd hbj => ((hcf j i c d hij hci hd).resolve_right fun h => by
          have hjo : j < ops.size := by have := (List.getElem?_eq_some_iff.1 hd).1; omega
          have := h listed.toList hcl (fun o' ho' => hcl j o' ho' hbj)
          rw [hbi] at this; cases this).symm)
      have eset : (listed.setIfInBounds i true).toList = listed.toList.set i true := Array.toList_setIfInBounds ..
      have hcl' : Closed ops.toList (listed.toList.set i true) := fun j o' ho' hbj e he hb => by
        have hmono' : ∀ k, listed.toList[k]? = some true → (listed.toList.set i true)[k]? = some true := fun k hk => by
          rw [List.getElem?_set]
          split
          · rename_i hik; rw [if_pos (by simpa using hil)]
          · exact hk
        by_cases hij : i = j
        · subst hij
          rw [hol] at ho'
          cases ho'
          exact hmono' _ (hRdy e he hb)
        · rw [List.getElem?_set_ne hij] at hbj
          exact hmono' _ (hcl j o' ho' hbj e he hb)
      have hpn : ∀ x, (x < nx0 ∨ ∃ j : Nat, listed.toList[j]? = some true ∧ g j ≤ x ∧ x < g (j + 1)) → ¬ (g i ≤ x ∧ x < g (i + 1)) := fun x hx hr => by
        rcases hx with hx | ⟨j, hj, hj2, hj3⟩
        · have := hmono 0 i (Nat.zero_le _) (by omega); omega
        · have hne : j ≠ i := fun e => by rw [e, hbi] at hj; cases hj
          have hjl : j < ops.size := by
            have : j < listed.toList.length := (List.getElem?_eq_some_iff.1 hj).1
            have h3 : listed.toList.length = listed.size := by simp
            omega
          by_cases hlt : j < i
          · have := hmono (j + 1) i (by omega) (by omega); omega
          · have := hmono (i + 1) j (by omega) (by omega); omega
      have hweak : ∀ x, ((x < nx0 ∨ ∃ j : Nat, listed.toList[j]? = some true ∧ g j ≤ x ∧ x < g (j + 1)) ∨ (g i ≤ x ∧ x < g (i + 1))) → (x < nx0 ∨ ∃ j : Nat, (listed.toList.set i true)[j]? = some true ∧ g j ≤ x ∧ x < g (j + 1)) := fun x hx => by
        rcases hx with (hx | ⟨j, hj, hj2⟩) | hx
        · exact .inl hx
        · refine .inr ⟨j, ?_, hj2⟩
          rw [List.getElem?_set]
          split
          · rw [if_pos (by simpa using hil)]
          · exact hj
        · refine .inr ⟨i, ?_, hx⟩
          rw [List.getElem?_set_self (by simpa using hil)]
      have cont : ∀ a' w', a'.defers = ds → MtS C n (fun x => (x < nx0 ∨ ∃ j : Nat, listed.toList[j]? = some true ∧ g j ≤ x ∧ x < g (j + 1)) ∨ (g i ≤ x ∧ x < g (i + 1))) (c.F (runF cs listed.toList f0)) (c.R (runR cs listed.toList R0)) a' w' → wpAny P .any ops Q fuel (listed.setIfInBounds i true) a' w' := fun a' w' hda' hm' => by
        refine ih (listed.setIfInBounds i true) a' w' (by simp [hs]) ?_ (by rw [eset]; exact hcl') hda' ?_
        · rw [eset]
          have := cntF_set hbi
          omega
        · rw [eset, ← s3]
          obtain ⟨E, ρ, q1, q2, q3, q5, q4⟩ := hm'.perm s4
          exact ⟨E, ρ, q1, fun q hq => (q2 q hq).mono hweak, q3.mono hweak, q5, q4⟩
      have hgate : ∀ wn, GateS ops o (runF (cs.take i) (List.replicate i true) f0) wn → Region.wanted o (yielded ops a.tmps) = wn := fun wn hg => by
        unfold GateS at hg
        cases hgd : o.guard with
        | none =>
          rw [hgd] at hg
          simp only at hg
          rw [hg]
          unfold Region.wanted
          rw [hgd]
        | some jw =>
          obtain ⟨j, want⟩ := jw
          rw [hgd] at hg
          obtain ⟨t, hj, hg⟩ := hg
          have hts : t ∈ c.sl := by
            rw [fact.sl]
            unfold opSlots gslot
            rw [hgd]
            simp only [hj]
            exact List.mem_append_right _ (List.mem_singleton.2 rfl)
          obtain ⟨E, ρ, q1, _, _, _, q4⟩ := hm
          obtain ⟨w1, w2⟩ := wants_sub (ρ := ρ) hgd hj (E := E)
          rcases hg with ⟨b, hb, hw⟩ | ⟨vs, hb, hw⟩
          · rw [hw]
            exact Wants.spec q4.slots (w1 b (q1 _ _ (by rw [s1 t hts]; exact hb)))
          · rw [hw]
            exact Wants.spec q4.slots (w2 vs (q1 _ _ (by rw [s1 t hts]; exact hb)))
      unfold wpOp
      simp only [ho]
      rcases fact.run with ⟨hg, hv, hef⟩ | ⟨hg, hy⟩
      · rw [if_neg (by rw [hgate _ hg]; exact Bool.false_ne_true)]
        obtain ⟨E, ρ, q1, q2, q3, q5, q4⟩ := hm
        have hR : c.R (runR cs listed.toList R0) = runR cs listed.toList R0 := by unfold Rc.R; rw [hef]
        refine cont _ _ (by rw [← hda]; cases o.dst <;> rfl) ?_
        rw [hR]
        cases hdo : o.dst with
        | none => exact ⟨E, ρ, fun t d ht => q1 t d (by unfold Rc.F at ht; rw [fact.dst, hdo] at ht; simpa using ht), fun q hq => (q2 q hq).mono fun _ h => .inl h, q3.mono fun _ h => .inl h, q5, q4⟩
        | some t =>
          refine ⟨(t, .lit undef) :: E, ρ, fun s d hsd => ?_, fun q hq => ?_, q3.mono fun _ h => .inl h, q5, ?_⟩
          · unfold Rc.F at hsd
            rw [fact.dst, hdo, hv] at hsd
            by_cases hts : t = s
            · subst hts
              rw [if_pos rfl] at hsd
              cases hsd
              exact Env.get_hit _ _ _
            · rw [if_neg (fun e => hts (Option.some.inj e))] at hsd
              rw [Env.get_miss _ _ hts]
              exact q1 s d hsd
          · rcases List.mem_cons.1 hq with rfl | hq
            · exact .lit _
            · exact (q2 q hq).mono fun _ h => .inl h
          · have hdn := fact.dn
            rw [hdo] at hdn
            have := q4.put (av := .lit undef) (v := undef) hdn (.lit _)
            show Sim C.C n ((t, AVq.sub ρ (.lit undef)) :: E.sub ρ) _ _ _
            rw [sub_lit]
            exact this
      · rw [if_pos (hgate _ hg)]
        refine .inl ?_
        have hle : locE (runF cs listed.toList f0) c.sl = locE (runF (cs.take i) (List.replicate i true) f0) c.sl := locE_congr s1
        obtain ⟨E, ρ, q1, q2, q3, q5, q4⟩ := hm
        have hids := fact.ids (fun x => x < nx0 ∨ ∃ j : Nat, listed.toList[j]? = some true ∧ g j ≤ x ∧ x < g (j + 1)) (fun t ht d hd => by
          rw [← s1 t ht] at hd
          exact q2 _ (Env.get_mem (q1 t d hd))) (by rw [← s2]; exact fun q hq => q3 q (List.mem_filter.1 hq).1)
        exact loc_wp (nx := g i) (nx' := g (i + 1)) (by have := hmono 0 i (Nat.zero_le _) (by omega); omega) ⟨E, ρ, q1, q2, q3, q5, q4⟩ fact.dst fact.dn fact.wr (by rw [hle, s2]; exact hy) hpn fact.lv (by rw [s2]; exact fact.lin) fact.lo hids.1 hids.2 fun a' w' hd' hm' => cont a' w' (hd'.trans hda) hm'

theorem dexec_ok {α : Type} {r : α} {F : Orc} {C : Cg} {s : St} {a : Act} {w : World} {id : Nat} {k : St → Option α} (hF : OrcOk P F) (hN : OrcNat F) (h : dexec P F n ops s k = some r) (hm : Mt C n s a w) :
    (Code.region id ops true).wp P (fun e a' w' => e = .normal ∧ a'.defers = a.defers ∧ ∃ s', k s' = some r ∧ Mt C n s' a' w') a w := by
  unfold dexec at h
  split at h
  case h_2 => cases h
  rename_i hb
  simp only [Bool.and_eq_true] at hb
  split at h
  case h_2 => cases h
  rename_i ps hps
  obtain ⟨E, hh, hE, hR, ρ, hag, hsim⟩ := hm
  obtain ⟨cs, s', f', q1, q2, q3⟩ := dgo_ok hF hN ops.toList (f := eget s.E) h (fun t d h => h) (fun t d hd => Env.ev_ltd (x := .tmp t) hE (hh t d hd)) hR
  rw [List.nil_append] at q1
  split at q1
  case h_2 => cases q1
  rename_i hpo
  obtain ⟨l1, l2, l3, g, g0, g1, g2, g3⟩ := q2.idx
  have hN : ops.toList.length = ops.size := by simp
  refine wp_region_any hb.1 ?_
  refine any_ok (C := C) (cs := cs) (f0 := eget s.E) (R0 := s.R) (nx0 := s.nx) (g := g) (ds := a.defers) (by rw [l1, hN]) g0 hag.2 (by rw [← hN]; exact g2) g3 (fun i j c d hji hc hd => plan_cf hps hpo (fun i c hc => by
      obtain ⟨o, ho⟩ : ∃ o, ops.toList[i]? = some o := ⟨_, List.getElem?_eq_getElem (by rw [← l1]; exact (List.getElem?_eq_some_iff.1 hc).1)⟩
      have := g3 i o c ho hc
      exact ⟨o, ho, this.dst, this.sl, this.ef, this.wr⟩) hji hc hd) (fun i o ho e he hbe => by have := backB_ok hb.2 i o ho e he hbe; omega) (fun a' w' hd' hm' => ?_) ops.size (Array.replicate ops.size false) a _ (by simp) (by rw [Array.toList_replicate, cntF_rep]) (fun i o _ hbi => ?_) rfl ?_
  · refine ⟨rfl, hd', s', q1, ?_⟩
    rw [← l2, ← l3] at hm'
    obtain ⟨E', ρ', p1, p2, p3, p5, p4⟩ := hm'
    rw [hN] at g1
    rw [g1] at p2 p3
    exact ⟨E', fun t d hd => p1 t d (q3 t d hd), p2, p3.ltd, ρ', ⟨p5, by have := mono_g (N := ops.toList.length) g2 0 ops.toList.length (Nat.zero_le _) (Nat.le_refl _); rw [g0, hN, g1] at this; have h7 := hag.2; omega⟩, p4⟩
  · rw [Array.toList_replicate, List.getElem?_replicate] at hbi
    split at hbi <;> cases hbi
  · have nF : ∀ (cs : List Rc) (n : Nat) (f : Fr), runF cs (List.replicate n false) f = f := fun cs => by
      induction cs with
      | nil => intro n f; rfl
      | cons d cs ih =>
        intro n f
        cases n with
        | zero => rfl
        | succ n => rw [List.replicate_succ]; exact ih n f
    have nR : ∀ (cs : List Rc) (n : Nat) (R : IRs), runR cs (List.replicate n false) R = R := fun cs => by
      induction cs with
      | nil => intro n f; rfl
      | cons d cs ih =>
        intro n f
        cases n with
        | zero => rfl
        | succ n => rw [List.replicate_succ]; exact ih n f
    rw [Array.toList_replicate, nF, nR]
    exact ⟨E, ρ, hh, fun q hq => Lts.mono (hE q hq) fun i hi => .inl hi, (IRs.Lts.mono hR.lts fun i hi => .inl hi), hag.1, hsim.drew⟩
end
end Go.Iv
end
section
set_option linter.unusedSectionVars false
set_option linter.unusedVariables false
set_option linter.unusedSimpArgs false
namespace Go.Iv
variable [U : Uni] [L : UniL]
open Go Go.RowKit

section
variable {α : Type} {r : α} {P : Program} {F : Orc} {C : Cg} {n : Nat}

noncomputable def exReg (P : Program) (F : Orc) (n : Nat) (_ : Nat) (ops : Array Oper) (draw : Bool) (s : St) (k : Kont α) : Option α := match draw with
  | false => rexec P F n ops ops.toList s (k .normal)
  | true => dexec P F n ops s (k .normal)
noncomputable def exec (P : Program) (F : Orc) (n : Nat) (fuel : Nat) (c : Code) : St → Kont α → Option α :=
  Code.rec exSkip (exReg P F n) (fun _ _ => exSeq) (fun c _ _ => exCond c) (fun id _ => exBlock id) (fun _ => exLoop fuel) (fun _ _ _ _ _ _ => exNo) exExit (fun _ _ => exNo) (fun _ => exNo) (fun _ => exNo) exRet (fun _ => exNo) c

noncomputable def callF (P : Program) (F : Orc) (fuel : Nat) (f : FuncId) (args : List AV) (R : IRs) (nx : Nat) (k : AV → IRs → Nat → Option α) : Option α := match P.funcs[f]? with
  | some fn => match fn.body with
    | some c => match Nat.ble args.length fn.ntmps && !(fn.name == "runtime.NumGoroutine") with
      | true => exec (α := α) P F fn.ntmps fuel c ⟨argsT 0 args .e, R, nx⟩ fun e s => match e with
        | .normal => (resL P s fn.results.toList).bind fun ds => k (resA ds) (keepR s.R nx (resA ds)) s.nx
        | .ret => (resL P s fn.results.toList).bind fun ds => k (resA ds) (keepR s.R nx (resA ds)) s.nx
        | _ => none
      | false => none
    | none => none
  | none => none

noncomputable def callN (P : Program) (F0 : Orc) (has : FuncId → Bool) (fuel : Nat) : Nat → Orc
  | 0 => F0
  | m + 1 => fun α f args R nx k => match has f with
    | true => F0 α f args R nx k
    | false => callF P (callN P F0 has fuel m) fuel f args R nx k

/-! ### what it says is so -/

/-- Every run of code c from here ends in a state that k answers with r. -/
def Ends (P : Program) (C : Cg) (n : Nat) (c : Code) (k : Kont α) (r : α) (a : Act) (w : World) : Prop := c.wp P (fun e a' w' => ∃ s', k e s' = some r ∧ Mt C n s' a' w') a w
/-- What x says of code c is so. -/
def Says (P : Program) (C : Cg) (n : Nat) (c : Code) (x : St → Kont α → Option α) : Prop := ∀ (r : α) (s : St) (k : Kont α) (a : Act) (w : World), x s k = some r → Mt C n s a w → Ends P C n c k r a w

theorem condO_ok {c : Operand} {s : St} {x y : St → Option α} (h : condO c s x y = some r) {a : Act} {w : World} (hm : Mt C n s a w) : ∃ (b : Bool) (s' : St), a.eval c = .bool b ∧ Mt C n s' a w ∧ (match b with | true => x s' | false => y s') = some r := by
  unfold condO at h
  split at h
  · rename_i t
    split at h
    case h_2 => cases h
    rename_i b hb
    have hev : a.eval (.tmp t) = .bool b := by
      obtain ⟨E, hh, _, _, ρ, _, hs⟩ := hm
      refine ev_bool hs ?_
      have h1 := hh t _ hb
      show Env.get (E.sub ρ) t = _
      rw [Env.sub_get, h1, Option.map_some, sub_lit]
    refine ⟨b, s.putB t b, hev, hm.putB hb, ?_⟩
    unfold condB at h
    cases b <;> exact h
  · exact ⟨true, s, rfl, hm, h⟩
  · exact ⟨false, s, rfl, hm, h⟩
  · cases h

theorem says_reg (hF : OrcOk P F) (hN : OrcNat F) (id : Nat) (ops : Array Oper) (draw : Bool) : Says (α := α) P C n (.region id ops draw) (exReg P F n id ops draw) := fun r s k a w h hm => by
  unfold exReg at h
  cases draw with
  | false =>
    refine wp_mono (wp_region_lit (rexec_ok hF _ h hm)) fun e a' w' ⟨he, _, s', h1, h2⟩ => ?_
    subst he
    exact ⟨s', h1, h2⟩
  | true =>
    refine wp_mono (dexec_ok hF hN h hm) fun e a' w' ⟨he, _, s', h1, h2⟩ => ?_
    subst he
    exact ⟨s', h1, h2⟩

theorem says_loop {c : Code} {x : St → Kont α → Option α} (hx : Says P C n c x) (fuel : Nat) : Says P C n (.loop c) (exLoop fuel x) := fun r s k a w h hm => by
  have key : ∀ (m : Nat) (s : St) (a : Act) (w : World), loopN x k m s = some r → Mt C n s a w → c.wp P (Exit.then (InL P c fun e a' w' => ∃ s', k e s' = some r ∧ Mt C n s' a' w') fun e a' w' => ∃ s', k e s' = some r ∧ Mt C n s' a' w') a w := by
    intro m
    induction m with
    | zero => intro s a w h; cases h
    | succ m ih =>
      intro s a w h hm
      refine wp_mono (hx r s _ a w h hm) fun e a' w' ⟨s', h1, h2⟩ => ?_
      cases e with
      | normal => exact inL_step (ih s' a' w' h1 h2)
      | _ => exact ⟨s', h1, h2⟩
  exact wp_unroll (key fuel s a w h hm)

theorem exec_ok (hF : OrcOk P F) (hN : OrcNat F) (fuel : Nat) (c : Code) : Says (α := α) P C n c (exec P F n fuel c) := by
  induction c with
  | skip => exact fun r s k a w h hm => wp_skip ⟨s, h, hm⟩
  | region id ops draw => exact says_reg hF hN id ops draw
  | seq x y hx hy =>
    intro r s k a w h hm
    refine wp_seq (wp_mono (hx r s _ a w h hm) fun e a' w' ⟨s', h1, h2⟩ => ?_)
    cases e with
    | normal => exact hy r s' k a' w' h1 h2
    | _ => exact ⟨s', h1, h2⟩
  | cond c x y hx hy =>
    intro r s k a w h hm
    obtain ⟨b, s', he, hm', h'⟩ := condO_ok (show condO c s _ _ = some r from h) hm
    cases b with
    | true => exact wp_cond_true he (hx r s' k a w h' hm')
    | false => exact wp_cond_false he (hy r s' k a w h' hm')
  | block id x hx =>
    intro r s k a w h hm
    refine wp_block (wp_mono (hx r s _ a w h hm) fun e a' w' ⟨s', h1, h2⟩ => ?_)
    cases e with
    | exit id' =>
      simp only [blockK] at h1
      simp only [Exit.inBlock]
      split
      · rename_i he
        subst he
        have hb : Nat.beq id' id' = true := Nat.beq_refl _
        simp only [hb] at h1
        exact ⟨s', h1, h2⟩
      · rename_i he
        have hb : Nat.beq id' id = false := by
          cases hb : Nat.beq id' id with
          | false => rfl
          | true => exact absurd (Nat.eq_of_beq_eq_true hb) he
        simp only [hb] at h1
        exact ⟨s', h1, h2⟩
    | _ => exact ⟨s', h1, h2⟩
  | loop c hc => exact says_loop hc fuel
  | exit i => exact fun r s k a w h hm => wp_exit ⟨s, h, hm⟩
  | ret => exact fun r s k a w h hm => wp_ret ⟨s, h, hm⟩
  | _ => exact fun r s k a w h hm => by cases h

/-! ### functions -/

theorem keepL_sub (nx : Nat) (ids : List Nat) : ∀ R : IRs, List.Sublist (keepL nx ids R) R
  | [] => .slnil
  | p :: R => by
    have ih := keepL_sub nx ids R
    show List.Sublist (Bool.rec (Bool.rec (keepL nx ids R) (p :: keepL nx ids R) (memB p.1 ids)) (p :: R) (Nat.blt p.1 nx)) (p :: R)
    cases Nat.blt p.1 nx with
    | true => exact List.Sublist.refl _
    | false =>
      cases memB p.1 ids with
      | true => exact ih.cons_cons p
      | false => exact ih.cons p

theorem resV_ok {s : St} {E : Env} {ρ : Gh} {rv : ResultVar} {d : AV} (h : resV P s rv = some d) (hh : Hold s.E E) : ResIs P (E.sub ρ) (IRs.res ρ s.R) rv (d.sub ρ) := by
  unfold resV at h
  split at h
  · rename_i t
    refine .tmp ?_
    rw [Env.sub_get, hh t d h]; rfl
  · rename_i t ty
    split at h
    case h_2 => cases h
    rename_i id hp
    have hp' : Env.get (E.sub ρ) t = some (.lit (.pointer (some ⟨ρ.b id, 0, none⟩))) := by
      rw [Env.sub_get, hh t _ hp, Option.map_some, AVq.sub]
    split at h
    case h_2 => cases h
    rename_i T cs hr
    obtain ⟨i, hi, _⟩ := rget_idx hr
    have hres := res_get (ρ := ρ) hi
    split at h
    · rename_i h1
      refine .cell1 i hp' hres (oneB_ok h1) ?_
      rw [List.getElem?_map, h]; rfl
    · split at h
      case h_2 => cases h
      rename_i m hm
      split at h
      case h_2 => cases h
      rename_i hl
      cases h
      rw [sub_agg]
      refine .cellN i hp' hres (manyB_ok hm) ?_
      rw [List.length_map]; exact beqT hl

theorem resV_ltd {s : St} {nx : Nat} {rv : ResultVar} {d : AV} (h : resV P s rv = some d) {E : Env} (hh : Hold s.E E) (hE : E.Ltd nx) (hR : IRs.Ltd nx s.R) : Ltd nx d := by
  unfold resV at h
  split at h
  · rename_i t
    exact hE _ (Env.get_mem (hh t d h))
  · split at h
    case h_2 => cases h
    split at h
    case h_2 => cases h
    rename_i id _ T cs hr
    have hL := rget_ltd hr hR
    split at h
    · exact hL.2 _ (List.mem_of_getElem? h)
    · split at h
      case h_2 => cases h
      split at h
      case h_2 => cases h
      cases h
      exact .agg _ hL.2

theorem resL_ok {s : St} {E : Env} {ρ : Gh} (hh : Hold s.E E) {A : Nat → Prop} {w : World} {tmps : Array Value} (hd : Hd A (IRs.res ρ s.R) w) (hs : Slots A w (E.sub ρ) tmps) : ∀ {l : List ResultVar} {ds : List AV}, resL P s l = some ds →
    ∃ us, (l.mapM (resOne tmps)).run P w = .ok us w ∧ RelL A w (ds.map (AVq.sub ρ)) us
  | [], ds, h => by cases h; exact ⟨[], rfl, RelL.nil⟩
  | x :: l, ds, h => by
    unfold resL at h
    split at h
    case h_2 => cases h
    rename_i d hx
    obtain ⟨ds', h1, h2⟩ := Option.map_eq_some_iff.1 h
    subst h2
    obtain ⟨v, q1, q2⟩ := resV_ok (ρ := ρ) hx hh A w tmps hd hs
    obtain ⟨us, q3, q4⟩ := resL_ok hh hd hs h1
    refine ⟨v :: us, ?_, RelL.cons q2 q4⟩
    rw [List.mapM_cons]
    simp [q1, q3]
theorem resL_ltd {s : St} {nx : Nat} {E : Env} (hh : Hold s.E E) (hE : E.Ltd nx) (hR : IRs.Ltd nx s.R) : ∀ {l : List ResultVar} {ds : List AV}, resL P s l = some ds → ∀ d ∈ ds, Ltd nx d
  | [], ds, h => by cases h; simp
  | x :: l, ds, h => by
    unfold resL at h
    split at h
    case h_2 => cases h
    rename_i d hx
    obtain ⟨ds', h1, h2⟩ := Option.map_eq_some_iff.1 h
    subst h2
    intro d' hd'
    rcases List.mem_cons.1 hd' with rfl | hd'
    · exact resV_ltd hx hh hE hR
    · exact resL_ltd hh hE hR h1 d' hd'
theorem resA_ltd {nx : Nat} {ds : List AV} (h : ∀ d ∈ ds, Ltd nx d) : Ltd nx (resA ds) := by
  unfold resA
  split
  · exact h _ (by simp)
  · exact .tup _ h
theorem resA_rel {ρ : Gh} {A : Nat → Prop} {w : World} {ds : List AV} {us : List Value} (h : RelL A w (ds.map (AVq.sub ρ)) us) : Rel A w ((resA ds).sub ρ) (if h : us.toArray.size = 1 then us.toArray[0] else .tuple us.toArray) := by
  unfold resA
  split
  · rename_i d
    obtain ⟨h1, h2⟩ := h
    match us, h1, h2 with
    | [u], _, h2 => exact h2 0 _ _ rfl rfl
  · rename_i hn
    have hl : us.length = ds.length := by have := h.1; simpa using this
    rw [dif_neg (by
      intro e
      match ds, hn with
      | [], _ => rw [List.size_toArray, hl] at e; cases e
      | [d], hn => exact hn d rfl
      | _ :: _ :: _, _ => rw [List.size_toArray, hl] at e; simp at e), sub_tup]
    exact Rel.tupL h

theorem hold_args : ∀ (l : List AV) (i : Nat) (T : ET) (E : Env), Hold T E → (∀ t d, eget T t = some d → t < i) → Hold (argsT i l T) (argsEnv i l ++ E)
  | [], _, _, _, h, _ => h
  | d :: l, i, T, E, h, hT => by
    have h2 : ∀ t d', eget (eput i d T) t = some d' → t < i + 1 := fun t d' ht => by
      rcases eput_get ht with ⟨rfl, _⟩ | ⟨_, q⟩
      · omega
      · have := hT t d' q; omega
    have := hold_args l (i + 1) (eput i d T) ((i, d) :: E) (h.put i d) h2
    intro t v ht
    have h1 : Env.get (argsEnv (i + 1) l ++ (i, d) :: E) t = some v := this t v ht
    show Env.get ((i, d) :: (argsEnv (i + 1) l ++ E)) t = some v
    have key : ∀ (l : List AV) (j : Nat), i < j → Env.get (argsEnv j l ++ (i, d) :: E) t = Env.get ((i, d) :: (argsEnv j l ++ E)) t := fun l => by
      induction l with
      | nil => intro j _; rfl
      | cons u l ih =>
        intro j hj
        show Env.get ((j, u) :: (argsEnv (j + 1) l ++ (i, d) :: E)) t = Env.get ((i, d) :: (j, u) :: (argsEnv (j + 1) l ++ E)) t
        by_cases h1 : j = t
        · subst h1
          rw [Env.get_hit, Env.get_miss _ _ (by omega), Env.get_hit]
        · rw [Env.get_miss _ _ h1, ih (j + 1) (by omega)]
          by_cases h2 : i = t
          · subst h2; rw [Env.get_hit, Env.get_hit]
          · rw [Env.get_miss _ _ h2, Env.get_miss _ _ h2, Env.get_miss _ _ h1]
    rw [← key l (i + 1) (Nat.lt_succ_self i)]
    exact h1
theorem argsEnv_sub (ρ : Gh) : ∀ (l : List AV) (i : Nat), (argsEnv i l).sub ρ = argsEnv i (l.map (AVq.sub ρ))
  | [], _ => rfl
  | d :: l, i => by show (i, d.sub ρ) :: (argsEnv (i + 1) l).sub ρ = _; rw [argsEnv_sub ρ l]; rfl
theorem argsEnv_mem : ∀ {l : List AV} {i : Nat} {q : Nat × AV}, q ∈ argsEnv i l → q.2 ∈ l
  | d :: l, i, q, h => by
    rcases List.mem_cons.1 h with rfl | h
    · exact List.mem_cons_self
    · exact List.mem_cons_of_mem _ (argsEnv_mem h)

/-- The end of a function. -/
theorem fin_ok {fn : Func} {C : Cx} {ρ : Gh} {nx : Nat} {s : St} {a : Act} {w : World} {k : AV → IRs → Nat → Option α} {e : Exit} (he : e = .normal ∨ e = .ret) (h : ((resL P s fn.results.toList).bind fun ds => k (resA ds) (keepR s.R nx (resA ds)) s.nx) = some r) (hm : Mt ⟨C, ρ, nx⟩ n s a w) :
    ∃ E' σ', Sim C n E' σ' a w ∧ FinQ P C n fn (fun a s => ∃ d R' nx', k d R' nx' = some r ∧ nx ≤ nx' ∧ Ltd nx' d ∧ IRs.Ltd nx' R' ∧ ∃ ρ', Agr nx ρ ρ' ∧ a = d.sub ρ' ∧ List.Perm s (IRs.res ρ' R')) e E' σ' := by
  obtain ⟨E, hh, hE, hR, ρ', ⟨hag, hnx⟩, hsim⟩ := hm
  obtain ⟨ds, h1, h2⟩ := Option.bind_eq_some_iff.1 h
  have hsub : List.Sublist (keepR s.R nx (resA ds)) s.R := keepL_sub _ _ _
  refine ⟨_, _, hsim, fin_of (σ' := IRs.res ρ' (keepR s.R nx (resA ds))) (av := (resA ds).sub ρ') he (hsub.map _) ⟨_, _, _, h2, hnx, resA_ltd (resL_ltd hh hE hR h1), fun q hq => hR q (hsub.subset hq), ρ', hag, rfl, List.Perm.refl _⟩ fun A w' tmps hd hs => ?_⟩
  obtain ⟨us, q1, q2⟩ := resL_ok hh hd hs h1
  refine ⟨_, ?_, resA_rel q2⟩
  show (do let vs ← fn.results.mapM (resOne tmps); pure (if h : vs.size = 1 then vs[0] else .tuple vs) : Sem Value).run P w' = _
  have e1 : fn.results = fn.results.toList.toArray := by simp
  rw [e1, List.mapM_toArray]
  simp [q1]

/-! ### what is done with an answer may be put into what is asked -/

section
variable {β : Type}
theorem gate_nat {ops : Array Oper} {o : Oper} {s : St} {y n : St → Option α} (D : α → Option β) : (gate ops o s y n).bind D = gate ops o s (fun s => (y s).bind D) (fun s => (n s).bind D) := by
  unfold gate
  repeat' split
  all_goals first | rfl | simp_all
theorem pickS_nat {o : Op} {s : St} {f : St → Option α} (D : α → Option β) : (pickS o s f).bind D = pickS o s (fun s => (f s).bind D) := by
  unfold pickS
  repeat' split
  all_goals first | rfl | simp_all
theorem rDo_nat (hN : OrcNat F) {o : Oper} {ih : St → (St → Option α) → Option α} {ih' : St → (St → Option β) → Option β} {k : St → Option α} {D : α → Option β} (hi : ∀ s k, (ih s k).bind D = ih' s (fun s => (k s).bind D)) (s : St) : (rDo P F o ih k s).bind D = rDo P F o ih' (fun s => (k s).bind D) s := by
  unfold rDo
  generalize s.frzL (frzOf s.E o.op) = s1
  obtain ⟨E, R, nx⟩ := s1
  show (stepF o.op P F (evF E) (rget R) R nx (appK o.dst E R nx ih k)).bind D = stepF o.op P F (evF E) (rget R) R nx (appK o.dst E R nx ih' fun s => (k s).bind D)
  rw [stepF_nat D hN]
  congr 1
  funext e
  cases e <;> exact hi ..
theorem rexec_nat (hN : OrcNat F) {ops : Array Oper} (D : α → Option β) : ∀ (l : List Oper) (s : St) (k : St → Option α), (rexec P F n ops l s k).bind D = rexec P F n ops l s (fun s => (k s).bind D)
  | [], s, k => rfl
  | o :: l, s, k => by
    show (rOne P F n ops o (rexec P F n ops l) s k).bind D = rOne P F n ops o (rexec P F n ops l) s (fun s => (k s).bind D)
    unfold rOne
    split
    · rw [gate_nat]
      congr 1
      · funext s1
        obtain ⟨E, R, nx⟩ := s1
        show (opF o.op P F o.dst E R nx (rexec P F n ops l) k).bind D = opF o.op P F o.dst E R nx (rexec P F n ops l) (fun s => (k s).bind D)
        have e1 := opF_eq P F o ⟨E, R, nx⟩ (rexec (α := α) P F n ops l) k
        have e2 := opF_eq P F o ⟨E, R, nx⟩ (rexec (α := β) P F n ops l) (fun s => (k s).bind D)
        dsimp only at e1 e2
        rw [e1, e2, pickS_nat]
        congr 1
        funext s2
        exact rDo_nat hN (fun s k => rexec_nat hN D l s k) s2
      · funext s1
        unfold rNo
        split <;> exact rexec_nat hN D l _ _
    · rfl
theorem dgo_nat (hN : OrcNat F) {ops : Array Oper} {ps : List (Nat × Nat)} (D : α → Option β) : ∀ (l : List Oper) (cs : List Rc) (s : St) (k : List Rc → St → Option α), (dgo P F n ops ps l cs s k).bind D = dgo P F n ops ps l cs s (fun cs s => (k cs s).bind D)
  | [], cs, s, k => rfl
  | o :: l, cs, s, k => by
    show (dOne P F n ops ps o (dgo P F n ops ps l) cs s k).bind D = dOne P F n ops ps o (dgo P F n ops ps l) cs s (fun cs s => (k cs s).bind D)
    unfold dOne
    split
    · rw [gate_nat]
      congr 1
      · funext s1
        obtain ⟨E, R, nx⟩ := s1
        show (lrunK P F o (opSlots ops o) E (inQ (footO ops o E R) R) nx (dK ops ps o cs (footO ops o E R) E R (inQ (footO ops o E R) R) nx (dgo P F n ops ps l) k)).bind D = lrunK P F o (opSlots ops o) E (inQ (footO ops o E R) R) nx (dK ops ps o cs (footO ops o E R) E R (inQ (footO ops o E R) R) nx (dgo P F n ops ps l) (fun cs s => (k cs s).bind D))
        rw [← lrun_nat hN, ← lrun_nat hN, Option.bind_assoc]
        congr 1
        funext x
        unfold dK
        split
        · exact dgo_nat hN D l _ _ _
        · rfl
      · funext s1
        exact dgo_nat hN D l _ _ _
    · rfl
theorem exReg_nat (hN : OrcNat F) (id : Nat) (ops : Array Oper) (draw : Bool) (D : α → Option β) (s : St) (k : Kont α) : (exReg P F n id ops draw s k).bind D = exReg P F n id ops draw s (fun e s => (k e s).bind D) := by
  unfold exReg
  cases draw with
  | false => exact rexec_nat hN D _ _ _
  | true =>
    show (dexec P F n ops s (k .normal)).bind D = dexec P F n ops s (fun s => (k .normal s).bind D)
    unfold dexec
    split
    · split
      · rw [dgo_nat hN D]
        congr 1
        funext cs s'
        split <;> rfl
      · rfl
    · rfl
theorem condO_nat {c : Operand} {s : St} {x y : St → Option α} (D : α → Option β) : (condO c s x y).bind D = condO c s (fun s => (x s).bind D) (fun s => (y s).bind D) := by
  unfold condO
  repeat' split
  all_goals first | rfl | (unfold condB; split <;> rfl) | simp_all
theorem loop_nat {x : St → Kont α → Option α} {x' : St → Kont β → Option β} {D : α → Option β} (hx : ∀ s k, (x s k).bind D = x' s (fun e s => (k e s).bind D)) (k : Kont α) : ∀ (m : Nat) (s : St), (loopN x k m s).bind D = loopN x' (fun e s => (k e s).bind D) m s
  | 0, s => rfl
  | m + 1, s => by
    show (x s (loopK k (loopN x k m))).bind D = x' s (loopK (fun e s => (k e s).bind D) (loopN x' (fun e s => (k e s).bind D) m))
    rw [hx]
    congr 1
    funext e s'
    cases e <;> first | exact loop_nat hx k m s' | rfl
theorem exec_nat (hN : OrcNat F) (fuel : Nat) (D : α → Option β) (c : Code) : ∀ (s : St) (k : Kont α), (exec P F n fuel c s k).bind D = exec P F n fuel c s (fun e s => (k e s).bind D) := by
  induction c with
  | region id ops draw => exact exReg_nat hN id ops draw D
  | seq x y hx hy =>
    intro s k
    show (exec P F n fuel x s (seqK (exec P F n fuel y) k)).bind D = exec P F n fuel x s (seqK (exec P F n fuel y) (fun e s => (k e s).bind D))
    rw [hx]
    congr 1
    funext e s'
    cases e <;> first | exact hy s' k | rfl
  | cond c x y hx hy =>
    intro s k
    show (condO c s (fun s => exec P F n fuel x s k) (fun s => exec P F n fuel y s k)).bind D = condO c s (fun s => exec P F n fuel x s _) (fun s => exec P F n fuel y s _)
    rw [condO_nat]
    congr 1
    · funext s; exact hx s k
    · funext s; exact hy s k
  | block id x hx =>
    intro s k
    show (exec P F n fuel x s (blockK id k)).bind D = exec P F n fuel x s (blockK id (fun e s => (k e s).bind D))
    rw [hx]
    congr 1
    funext e s'
    cases e <;> first | rfl | (simp only [blockK]; split <;> rfl)
  | loop c hc => exact fun s k => loop_nat hc k fuel s
  | _ => exact fun s k => rfl
theorem callF_nat (hN : OrcNat F) (fuel : Nat) : OrcNat (fun α => callF (α := α) P F fuel) := fun α β f args R nx k D => by
  show (callF P F fuel f args R nx k).bind D = callF P F fuel f args R nx _
  unfold callF
  split
  · split
    · split
      · rw [exec_nat hN]
        congr 1
        funext e s
        cases e <;> first | rfl | exact Option.bind_assoc ..
      · rfl
    · rfl
  · rfl
theorem callN_nat {F0 : Orc} {has : FuncId → Bool} (hN : OrcNat F0) (fuel : Nat) : ∀ m : Nat, OrcNat (callN P F0 has fuel m)
  | 0 => hN
  | m + 1 => fun α β f args R nx k D => by
    show (match has f with | true => F0 α f args R nx k | false => callF P (callN P F0 has fuel m) fuel f args R nx k).bind D = _
    show _ = (match has f with | true => F0 β f args R nx _ | false => callF P (callN P F0 has fuel m) fuel f args R nx _)
    cases has f with
    | true => exact hN ..
    | false => exact callF_nat (callN_nat hN fuel m) fuel α β f args R nx k D
end

theorem callF_ok (hF : OrcOk P F) (hN : OrcNat F) (fuel : Nat) : OrcOk P (fun α => callF (α := α) P F fuel) := fun α f args R nx k r h hargs hR => by
  have h : callF P F fuel f args R nx k = some r := h
  unfold callF at h
  split at h
  case h_2 => cases h
  rename_i fn hf
  split at h
  case h_2 => cases h
  rename_i c hb
  split at h
  case h_2 => cases h
  rename_i hc
  rw [Bool.and_eq_true] at hc
  obtain ⟨hl, hnm⟩ := hc
  refine ⟨⟨fn, hf, by simpa using hnm, by rw [hb]; rfl⟩, fun ρ => Fn.of hf hb rfl (by rw [List.length_map]; exact hl) fun C a w ha => ?_⟩
  have hm : Mt ⟨C, ρ, nx⟩ fn.ntmps ⟨argsT 0 args .e, R, nx⟩ a w := by
    refine ⟨argsEnv 0 args, ?_, fun q hq => hargs _ (argsEnv_mem hq), hR, ρ, ⟨.refl _ _, Nat.le_refl _⟩, ?_⟩
    · have := hold_args args 0 .e [] (fun t d ht => by cases t <;> cases ht) (fun t d ht => by cases t <;> cases ht)
      rwa [List.append_nil] at this
    · rw [argsEnv_sub]; exact ha
  refine wp_mono (exec_ok hF hN fuel c r _ _ a w h hm) fun e a' w' ⟨s', h1, h2⟩ => ?_
  cases e with
  | normal => exact fin_ok (.inl rfl) h1 h2
  | ret => exact fin_ok (.inr rfl) h1 h2
  | _ => cases h1

theorem callN_ok {F0 : Orc} {has : FuncId → Bool} (hF : OrcOk P F0) (hN : OrcNat F0) (fuel : Nat) : ∀ m : Nat, OrcOk P (callN P F0 has fuel m)
  | 0 => hF
  | m + 1 => fun α f args R nx k r h hargs hR => by
    change (match has f with | true => F0 α f args R nx k | false => callF P (callN P F0 has fuel m) fuel f args R nx k) = some r at h
    split at h
    · exact hF α f args R nx k r h hargs hR
    · exact callF_ok (callN_ok hF hN fuel m) (callN_nat hN fuel m) fuel α f args R nx k r h hargs hR
end
end Go.Iv
end
section
set_option linter.unusedSectionVars false
set_option linter.unusedVariables false
set_option linter.unusedSimpArgs false
namespace Go.Iv
variable [U : Uni] [L : UniL]
open Go Go.RowKit

/-! ### what a function does not own lies beside -/

theorem Fn.frame {P : Program} {f : FuncId} {args args' : List AV} {Φ : AV → List Res → Prop} (h : Fn P f args' [] Φ) (σ : List Res)
    (ha : ∀ (A : Nat → Prop) (w : World) (vs : List Value), Hd A σ w → RelL A w args vs → RelL (fun b => A b ∨ b ∈ blks σ) w args' vs)
    (hΦ : ∀ a s, Φ a s → s = [] ∧ ∀ (A A' : Nat → Prop) (w : World) v, Rel A w a v → Rel A' w a v) : Fn P f args σ (fun a s => Φ a [] ∧ s = σ) := fun w A vs hr hd hnd => by
  refine (h w (fun b => A b ∨ b ∈ blks σ) vs (ha A w vs hd hr) ⟨fun r hr => (by cases hr), fun b hb => (by cases hb)⟩ (by simp [blks])).mono fun e w' ⟨v, av, σ', h1, h2, h3, h4⟩ => ?_
  obtain ⟨hs, hrel⟩ := hΦ _ _ h2
  subst hs
  have hlt : ∀ b ∈ blks σ, b < w.heap.size := fun b hb => by
    obtain ⟨r, q1, q2⟩ := mem_blks.1 hb
    exact (hd.1 r q1).lt q2
  have hblk : ∀ b, b < w.heap.size → w'.heap[b]? = w.heap[b]? := fun b hb => h3.kp.block b hb (by simp [blks])
  have hal : ∀ b, A b → al ⟨w, A, blks σ⟩ σ b := fun b hA => ⟨.inl hA, fun hx => hd.2 b hx hA⟩
  refine ⟨v, av, σ, h1, ⟨h2, rfl⟩, ⟨⟨⟨h3.kp.os, h3.kp.tape, h3.kp.output, h3.kp.size, fun k hk _ => hblk k hk⟩, fun r hr => (hd.1 r hr).mono (fun b hb hA => ⟨hal b hA, hblk b hb⟩) (fun b hb => hblk b (hlt b (mem_blks.2 ⟨r, hr, hb⟩))), hnd, fun b hb => .inl hb⟩, ⟨h3.kp.os, h3.kp.tape, h3.kp.output, h3.kp.size, fun k hk _ => hblk k hk⟩, fun b hb hA => ⟨hA, hA.2⟩⟩, hrel _ _ _ _ h4⟩

/-! ### scalars, and what is lent -/

def scB : Nat → AV → Bool
  | _, .lit _ => true
  | n + 1, .agg cs => cs.all (scB n)
  | n + 1, .tup cs => cs.all (scB n)
  | _, _ => false
theorem scB_rel : ∀ (n : Nat) {d : AV} {A A' : Nat → Prop} {w : World} {v : Value}, scB n d = true → Rel A w d v → Rel A' w d v
  | n, d, A, A', w, v, h, hr => by
    have hL : ∀ {m : Nat} {cs : List AV} {us : List Value}, m < n → cs.all (scB m) = true → RelL A w cs us → RelL A' w cs us := fun {m cs us} hm h hr => ⟨hr.1, fun j a v q1 q2 => scB_rel m (List.all_eq_true.1 h _ (List.mem_of_getElem? q1)) (hr.2 j a v q1 q2)⟩
    cases n with
    | zero =>
      cases d <;> first | (cases h; done) | skip
      rw [hr.litEq]; exact .lit _
    | succ n =>
      cases d <;> first | (cases h; done) | skip
      · rw [hr.litEq]; exact .lit _
      · obtain ⟨us, rfl, h2⟩ := hr.aggInv
        exact Rel.aggL (hL (Nat.lt_succ_self n) h h2)
      · obtain ⟨us, rfl, h2⟩ := hr.tupInv
        exact Rel.tupL (hL (Nat.lt_succ_self n) h h2)
theorem scB_ltd : ∀ (n : Nat) {d : AV} {m : Nat}, scB n d = true → Ltd m d
  | 0, d, m, h => by cases d <;> first | (cases h; done) | exact .lit _
  | n + 1, d, m, h => by
    cases d <;> first | (cases h; done) | exact .lit _ | skip
    · exact .agg _ fun c hc => scB_ltd n (List.all_eq_true.1 h c hc)
    · exact .tup _ fun c hc => scB_ltd n (List.all_eq_true.1 h c hc)
theorem scB_sub : ∀ (n : Nat) {d : AV} {ρ : Gh}, scB n d = true → d.sub ρ = d
  | n, d, ρ, h => by
    have hL : ∀ {m : Nat} {cs : List AV}, m < n → cs.all (scB m) = true → cs.map (AVq.sub ρ) = cs := fun {m cs} hm h => by
      have : cs.map (AVq.sub ρ) = cs.map id := List.map_congr_left fun c hc => scB_sub m (List.all_eq_true.1 h c hc)
      rw [this, List.map_id]
    cases n with
    | zero => cases d <;> first | (cases h; done) | exact sub_lit ..
    | succ n =>
      cases d <;> first | (cases h; done) | exact sub_lit .. | skip
      · rw [sub_agg, hL (Nat.lt_succ_self n) h]
      · rw [sub_tup, hL (Nat.lt_succ_self n) h]

/-- no names stand in it -/
def cloB : Nat → AV → Bool
  | _, .lit _ => true
  | _, .sl _ _ => true
  | _, .rp _ _ => true
  | n + 1, .agg cs => cs.all (cloB n)
  | n + 1, .tup cs => cs.all (cloB n)
  | _, _ => false
theorem cloB_sub : ∀ (n : Nat) {d : AV} {ρ : Gh}, cloB n d = true → d.sub ρ = d
  | n, d, ρ, h => by
    have hL : ∀ {m : Nat} {cs : List AV}, m < n → cs.all (cloB m) = true → cs.map (AVq.sub ρ) = cs := fun {m cs} hm h => by
      have : cs.map (AVq.sub ρ) = cs.map id := List.map_congr_left fun c hc => cloB_sub m (List.all_eq_true.1 h c hc)
      rw [this, List.map_id]
    cases n with
    | zero => cases d <;> first | (cases h; done) | simp only [AVq.sub]
    | succ n =>
      cases d <;> first | (cases h; done) | (simp only [AVq.sub]; done) | skip
      · rw [sub_agg, hL (Nat.lt_succ_self n) h]
      · rw [sub_tup, hL (Nat.lt_succ_self n) h]

/-- rows owned by the caller are data to the called -/
noncomputable def lendA (rd : Nat → Option IR) (n : Nat) : AV → AV := Nat.rec (fun d => match d with
  | .own id => match rd id with
    | some (.row t l) => .sl t l
    | _ => .own id
  | d => d) (fun _ ih d => match d with
  | .own id => match rd id with
    | some (.row t l) => .sl t l
    | _ => .own id
  | .agg cs => .agg (cs.map ih)
  | d => d) n
theorem lend_own {R : IRs} {ρ : Gh} {A : Nat → Prop} {w : World} {v : Value} {id : Nat} (hd : Hd A (IRs.res ρ R) w) (hr : Rel A w ((AVq.own (Dat := U.Dat) id).sub ρ) v) : Rel (fun b => A b ∨ b ∈ blks (IRs.res ρ R)) w ((match rget R id with
    | some (.row t l) => AVq.sl t l
    | _ => .own id).sub ρ) v := by
  have base : Rel (fun b => A b ∨ b ∈ blks (IRs.res ρ R)) w ((AVq.own (Dat := U.Dat) id).sub ρ) v := hr.mono fun b _ hA => ⟨.inl hA, rfl⟩
  split
  · rename_i t l hg
    obtain ⟨i, hi, _⟩ := rget_idx hg
    have hres := res_get (ρ := ρ) hi
    have hm := List.mem_of_getElem? hres
    rw [sub_own] at hr
    rw [sub_sl]
    have hd1 : Hd A [.row (ρ.v id) t l] w := ⟨fun r hr => by
      rw [List.mem_singleton] at hr
      rw [hr]
      exact hd.1 _ hm, fun b hb => hd.2 b (by
        obtain ⟨r, h1, h2⟩ := mem_blks.1 hb
        rw [List.mem_singleton] at h1
        rw [h1] at h2
        exact mem_blks.2 ⟨_, hm, h2⟩)⟩
    refine (Vw.row 0 rfl A w v hd1 hr).mono fun b _ hA => ⟨hA.imp (fun h => h) fun hx => ?_, rfl⟩
    obtain ⟨r, h1, h2⟩ := mem_blks.1 hx
    rw [List.mem_singleton] at h1
    rw [h1] at h2
    exact mem_blks.2 ⟨_, hm, h2⟩
  · exact base
theorem lendA_rel {R : IRs} {ρ : Gh} {A : Nat → Prop} {w : World} (hd : Hd A (IRs.res ρ R) w) : ∀ (n : Nat) {d : AV} {v : Value}, Rel A w (d.sub ρ) v → Rel (fun b => A b ∨ b ∈ blks (IRs.res ρ R)) w ((lendA (rget R) n d).sub ρ) v
  | 0, d, v, h => by
    cases d <;> first | exact h.mono fun b _ hA => ⟨.inl hA, rfl⟩ | exact lend_own hd h
  | n + 1, d, v, h => by
    cases d <;> first | exact h.mono fun b _ hA => ⟨.inl hA, rfl⟩ | exact lend_own hd h | skip
    rename_i cs
    show Rel _ w ((AVq.agg (cs.map (lendA (rget R) n))).sub ρ) v
    rw [sub_agg] at h ⊢
    obtain ⟨us, rfl, h2⟩ := h.aggInv
    refine Rel.aggL ⟨by simpa using h2.1, fun j a u q1 q2 => ?_⟩
    rw [List.map_map, List.getElem?_map] at q1
    obtain ⟨c, hc, rfl⟩ := Option.map_eq_some_iff.1 q1
    exact lendA_rel hd n (h2.2 j _ u (by rw [List.getElem?_map, hc]; rfl) q2)

/-! ### entries -/

def asG (t : Nat) : AV → Option (U.Dat t)
  | .agg cs => L.parse t cs
  | _ => none
theorem P1.g (t : Nat) : P1 (asG t) (fun x => .agg (U.cells t x)) := fun a b h A w v hr => by
  unfold asG at h
  split at h
  · obtain ⟨us, rfl, h2⟩ := hr.aggInv
    exact Rel.aggL (L.parse_ok _ _ _ h A w us h2)
  · cases h

noncomputable def entK {γ : Type} (q : List AV → Option γ) (m : γ → AV) {α : Type} (R : IRs) (nx : Nat) (k : AV → IRs → Nat → Option α) (l : List AV) : Option α := match l.all (cloB 2) with
  | true => match q l with
    | some g => k (m g) R nx
    | none => none
  | false => none
/-- What is known of a function: from arguments that q reads, it comes to m of what was read. -/
noncomputable def ent {γ : Type} (q : List AV → Option γ) (m : γ → AV) {α : Type} (args : List AV) (R : IRs) (nx : Nat) (k : AV → IRs → Nat → Option α) : Option α := entK q m R nx k (args.map (lendA (rget R) 2))
noncomputable def orC {γ : Type} (f0 : Nat) (q : List AV → Option γ) (m : γ → AV) (F : Orc) : Orc := fun _ f args R nx k => match Nat.beq f f0 with
  | true => ent q m args R nx k
  | false => F _ f args R nx k

theorem orC_ok {P : Program} {F : Orc} {γ : Type} {f0 : Nat} {q : List AV → Option γ} {c : γ → List AV} {m : γ → AV} (hF : OrcOk P F) (hf : fnOk P f0) (hq : Pk q c) (hm : ∀ g, scB 2 (m g) = true)
    (h : ∀ g, Fn P f0 (c g) [] (fun a s => a = m g ∧ s = [])) : OrcOk P (orC f0 q m F) := fun α f args R nx k r hr hargs hR => by
  unfold orC at hr
  split at hr
  case h_2 => exact hF α f args R nx k r hr hargs hR
  rename_i hb
  have hb := beqT hb
  subst hb
  unfold ent entK at hr
  split at hr
  case h_2 => cases hr
  rename_i hcl
  split at hr
  case h_2 => cases hr
  rename_i g hg
  refine ⟨hf, fun ρ => Fn.mono (Fn.frame (h g) (IRs.res ρ R) (args := args.map (AVq.sub ρ)) (fun A w vs hd hrel => ?_) fun a s ⟨h1, h2⟩ => ⟨h2, fun A A' w v hrel => by subst h1; exact scB_rel 2 (hm g) hrel⟩) fun a s ⟨⟨h1, _⟩, h2⟩ => ⟨m g, R, nx, hr, Nat.le_refl _, scB_ltd 2 (hm g), hR, ρ, .refl _ _, by rw [h1, scB_sub 2 (hm g)], by rw [h2]⟩⟩
  refine hq _ g hg _ w vs ⟨by simpa using hrel.1, fun j a v q1 q2 => ?_⟩
  rw [List.getElem?_map] at q1
  obtain ⟨d, hd1, rfl⟩ := Option.map_eq_some_iff.1 q1
  have hcd : cloB 2 (lendA (rget R) 2 d) = true := List.all_eq_true.1 hcl _ (List.mem_map.2 ⟨d, List.mem_of_getElem? hd1, rfl⟩)
  have := lendA_rel hd 2 (hrel.2 j _ v (by rw [List.getElem?_map, hd1]; rfl) q2)
  rwa [cloB_sub 2 hcd] at this

/-- no function is known -/
def or0 : Orc := fun _ _ _ _ _ _ => none
theorem or0_ok {P : Program} : OrcOk P or0 := fun _ _ _ _ _ _ _ h => by cases h

/-- the end of a function whose result reads as0 x -/
def kRes {β : Type} (e : AV → Option β) (d : AV) (R : IRs) (_ : Nat) : Option β := match R with
  | [] => e d
  | _ => none
/-- e reads the result, and m is the result of what it reads -/
def P0 {β : Type} (e : AV → Option β) (m : β → AV) : Prop := ∀ d x, e d = some x → d = m x ∧ cloB 2 d = true
theorem P0.b : P0 asB AVq.b := fun d x h => by
  unfold asB at h
  split at h
  · cases h; exact ⟨rfl, rfl⟩
  · cases h
theorem P0.i (k : IntKind) : P0 (asI k) (AVq.n k) := fun d x h => by
  unfold asI at h
  split at h
  · split at h
    · rename_i hk; subst hk; cases h; exact ⟨rfl, rfl⟩
    · cases h
  · cases h

theorem fn_run {P : Program} {F : Orc} (hF : OrcOk P F) {f : FuncId} {args : List AV} {β : Type} {e : AV → Option β} {m : β → AV} {x : β} (he : P0 e m) (hc : args.all (cloB 2) = true) (hl : ∀ d ∈ args, Ltd 0 d) (h : F β f args [] 0 (kRes e) = some x) : fnOk P f ∧ Fn P f args [] (fun a s => a = m x ∧ s = []) := by
  obtain ⟨h1, h2⟩ := hF β f args [] 0 (kRes e) x h hl (fun q hq => by cases hq)
  refine ⟨h1, ?_⟩
  have := h2 ⟨fun _ => undef, fun _ => 0⟩
  have ea : args.map (AVq.sub ⟨fun _ => undef, fun _ => 0⟩) = args := by
    have : args.map (AVq.sub ⟨fun _ => undef, fun _ => 0⟩) = args.map id := List.map_congr_left fun c hcm => cloB_sub 2 (List.all_eq_true.1 hc c hcm)
    rw [this, List.map_id]
  rw [ea] at this
  refine Fn.mono this fun a s ⟨d, R', nx', q1, _, _, _, ρ', _, q2, q3⟩ => ?_
  unfold kRes at q1
  split at q1
  · obtain ⟨q4, q5⟩ := he _ _ q1
    rw [q2, cloB_sub 2 q5, q4]
    exact ⟨rfl, by simpa [IRs.res] using q3⟩
  · cases q1
end Go.Iv
end
section
set_option linter.unusedSectionVars false
set_option linter.unusedVariables false
set_option linter.unusedSimpArgs false
namespace Go.Iv
variable [U : Uni] [L : UniL]
open Go Go.RowKit

theorem eputN_get2 (d : AV) : ∀ (m : Nat) (T : ET) (k s : Nat), k < 2 ^ m - 1 → eget (eputN d m T k) s = if k = s then some d else eget T s
  | 0, T, k, s, h => by simp at h
  | m + 1, T, k, s, h => by
    have hp : 2 ^ (m + 1) = 2 * 2 ^ m := by rw [Nat.pow_succ]; omega
    rw [eputN_s, eget_vlr T s]
    by_cases hk : k = 0
    · rw [if_pos hk, eget_n]
      subst hk
      by_cases hs : s = 0
      · rw [if_pos hs, if_pos hs.symm]
      · have h0 : ¬ (0 = s) := fun e => hs e.symm
        rw [if_neg h0, if_neg hs]
        split <;> simp_all
    · rw [if_neg hk]
      by_cases hk2 : (k - 1) % 2 = 0
      · rw [if_pos hk2, eget_n]
        by_cases hs : s = 0
        · rw [if_pos hs, if_pos hs, if_neg (by omega)]
        · rw [if_neg hs, if_neg hs]
          by_cases hs2 : (s - 1) % 2 = 0
          · rw [if_pos hs2, if_pos hs2, eputN_get2 d m T.l _ _ (by omega)]
            by_cases hks : k = s
            · rw [if_pos hks, if_pos (by omega)]
            · rw [if_neg hks, if_neg (by omega)]
          · rw [if_neg hs2, if_neg hs2, if_neg (fun e => hs2 (by rw [← e]; exact hk2))]
      · rw [if_neg hk2, eget_n]
        by_cases hs : s = 0
        · rw [if_pos hs, if_pos hs, if_neg (by omega)]
        · rw [if_neg hs, if_neg hs]
          by_cases hs2 : (s - 1) % 2 = 0
          · rw [if_pos hs2, if_pos hs2, if_neg (fun e => hk2 (by rw [e]; exact hs2))]
          · rw [if_neg hs2, if_neg hs2, eputN_get2 d m T.r _ _ (by omega)]
            by_cases hks : k = s
            · rw [if_pos hks, if_pos (by omega)]
            · rw [if_neg hks, if_neg (by omega)]
theorem eput_get2 {t s : Nat} {d : AV} {T : ET} (h : t < 4095) : eget (eput t d T) s = if t = s then some d else eget T s := eputN_get2 d 12 T t s h

/-- Function f leaves what is owned as0 it is. -/
def PureF (F : Orc) (f : FuncId) : Prop := ∀ args R nx d R' nx', F (AV × IRs × Nat) f args R nx (fun d R nx => some (d, R, nx)) = some (d, R', nx') → R' = R
/-- operations that make nothing and write nothing; they call fs at most -/
noncomputable def okOp (fs : List Nat) : Op → Bool
  | .move _ => true
  | .assign _ => true
  | .pick c _ _ => match c with
    | .tmp t => Nat.blt t 4095
    | _ => true
  | .binOp _ _ _ _ _ => true
  | .unOp _ _ _ => true
  | .fieldAddr _ _ _ => true
  | .indexAddr _ _ _ => true
  | .index _ _ _ => true
  | .load _ _ => true
  | .nilCheck _ => true
  | .convert _ _ _ => true
  | .extract _ _ => true
  | .call c => match c.callee with
    | .value (.func f) => memB f fs && !L.fz f
    | .builtin .len => true
    | .builtin .max => true
    | .builtin .min => true
    | _ => false
  | _ => false
noncomputable def okDst : Option Nat → Bool
  | some t => Nat.blt t 4095
  | none => true

section
variable {P : Program} {F : Orc} {n : Nat} {fs : List Nat}
theorem okOp_frz {E : ET} {o : Op} (h : okOp fs o = true) : frzOf E o = [] := by
  cases o <;> first | rfl | (cases h; done) | skip
  case call c =>
    unfold okOp at h
    unfold frzOf
    dsimp only at h ⊢
    split at h
    · rename_i f hf
      rw [Bool.and_eq_true, Bool.not_eq_true'] at h
      rw [hf]
      dsimp only
      rw [h.2]
    · rename_i hc; rw [hc]
    · rename_i hc; rw [hc]
    · rename_i hc; rw [hc]
    · cases h
theorem pureV {g : (K : AV → Option Eff) → Option Eff} {g0 : Option AV} {e : Eff} (hg : g (fun d => some (.val d)) = g0.bind fun d => some (.val d)) (h : g (pureK some) = some e) : ∃ d, e = .val d := by
  have h : g (fun d => some (.val d)) = some e := h
  rw [hg] at h
  obtain ⟨d, _, h2⟩ := Option.bind_eq_some_iff.1 h
  cases h2
  exact ⟨d, rfl⟩
theorem okOp_step (hN : OrcNat F) (hp : ∀ f ∈ fs, PureF F f) {o : Op} {E : ET} {rd : Nat → Option IR} {R : IRs} {nx : Nat} {e : Eff} (ho : okOp fs o = true) (h : stepF o P F (evF E) rd R nx some = some e) : ∃ d nx', e = .all d R nx' ∨ e = .val d := by
  have fin : (∃ d, e = .val d) → ∃ d nx', e = Eff.all d R nx' ∨ e = .val d := fun ⟨d, h⟩ => ⟨d, 0, .inr h⟩
  have fb : ∀ {x : Option AV}, x.bind (pureK some) = some e → ∃ d, e = .val d := fun {x} h => by
    obtain ⟨d, _, h2⟩ := Option.bind_eq_some_iff.1 h
    cases h2
    exact ⟨d, rfl⟩
  cases o <;> first | (cases ho; done) | exact fin (fb h) | skip
  case pick c a b =>
    have h : stPic c a b P F (evF E) rd R nx some = some e := h
    unfold stPic at h
    split at h
    · exact fin (fb h)
    · exact fin (fb h)
    · cases h
  case binOp b T x y t => exact fin (pureV (binV_nat (K := some) (fun d => some (Eff.val d))).symm h)
  case unOp b T x => exact fin (pureV (unV_nat (K := some) (fun d => some (Eff.val d))).symm h)
  case fieldAddr T x i => exact fin (pureV (fldV_nat (K := some) (fun d => some (Eff.val d))).symm h)
  case indexAddr T x y => exact fin (pureV (idxV_nat (K := some) (fun d => some (Eff.val d))).symm h)
  case index T x y => exact fin (pureV (ixaV_nat (K := some) (fun d => some (Eff.val d))).symm h)
  case load T x => exact fin (pureV (ldV_nat (K := some) (fun d => some (Eff.val d))).symm h)
  case nilCheck x => exact fin (pureV (nilV_nat (K := some) (fun d => some (Eff.val d))).symm h)
  case convert T T' x => exact fin (pureV (cnvV_nat (K := some) (fun d => some (Eff.val d))).symm h)
  case extract x i => exact fin (pureV (extV_nat (K := some) (fun d => some (Eff.val d))).symm h)
  case call c =>
    have h : stCal c P F (evF E) rd R nx some = some e := h
    unfold stCal at h
    unfold okOp at ho
    dsimp only at ho
    split at ho
    · rename_i f hf
      rw [hf] at h
      rw [Bool.and_eq_true] at ho
      have h : calE F (evF E) R nx (some (.fn (.func f) [])) c.args.toList some = some e := h
      unfold calE at h
      dsimp only at h
      obtain ⟨xs, _, h2⟩ := Option.bind_eq_some_iff.1 h
      have h3 := hN (AV × IRs × Nat) Eff f (xs ++ []) R nx (fun d R nx => some (d, R, nx)) (fun x => some (.all x.1 x.2.1 x.2.2))
      have h3' : (F (AV × IRs × Nat) f (xs ++ []) R nx (fun d R nx => some (d, R, nx))).bind (fun x => some (.all x.1 x.2.1 x.2.2)) = some e := h3.trans h2
      obtain ⟨⟨d, R', nx'⟩, h4, h5⟩ := Option.bind_eq_some_iff.1 h3'
      have h6 := hp f (memB_iff.1 ho.1) _ _ _ _ _ _ h4
      subst h6
      cases h5
      exact ⟨d, nx', .inl rfl⟩
    · rename_i hc
      rw [hc] at h
      have h : stBui .len c.args c.argTypes P (evF E) rd R nx some = some e := h
      unfold stBui at h
      dsimp only at h
      split at h
      · exact fin (pureV (lenV_nat (K := some) (fun d => some (Eff.val d))).symm h)
      · cases h
    · rename_i hc
      rw [hc] at h
      have h : stBui .max c.args c.argTypes P (evF E) rd R nx some = some e := h
      unfold stBui at h
      dsimp only at h
      split at h
      · exact fin (pureV (mnV_nat (K := some) (fun d => some (Eff.val d))).symm h)
      · cases h
    · rename_i hc
      rw [hc] at h
      have h : stBui .min c.args c.argTypes P (evF E) rd R nx some = some e := h
      unfold stBui at h
      dsimp only at h
      split at h
      · exact fin (pureV (mnV_nat (K := some) (fun d => some (Eff.val d))).symm h)
      · cases h
    · cases ho

/-- what stays -/
def Stay (l : List Oper) (s s0 : St) : Prop := s0.R = s.R ∧ ∀ u d, (∀ o ∈ l, o.dst ≠ some u) → eget s.E u = some d → eget s0.E u = some d
theorem putB_get {s : St} {t : Nat} {b : Bool} (ht : t < 4095) (h : eget s.E t = some (.lit (.bool b))) {u : Nat} {d : AV} (hu : eget s.E u = some d) : eget (s.putB t b).E u = some d := by
  show eget (eput t (.b b) s.E) u = _
  rw [eput_get2 ht]
  split
  · rename_i e; subst e; rw [h] at hu; exact hu
  · exact hu
theorem rexec_stay (hN : OrcNat F) (hp : ∀ f ∈ fs, PureF F f) {ops : Array Oper} (hops : ∀ o ∈ ops.toList, okDst o.dst = true) : ∀ (l : List Oper) {s s0 : St}, (∀ o ∈ l, okOp fs o.op = true ∧ okDst o.dst = true) → rexec P F n ops l s some = some s0 → Stay l s s0
  | [], s, s0, _, h => by cases h; exact ⟨rfl, fun u d _ hu => hu⟩
  | o :: l, s, s0, hl, h => by
    have ho := hl o List.mem_cons_self
    have hl' := fun o' h' => hl o' (List.mem_cons_of_mem _ h')
    change rOne P F n ops o (rexec P F n ops l) s some = some s0 at h
    unfold rOne at h
    split at h
    case h_2 => cases h
    have putG : ∀ {s2 : St} {d : AV} {nx' : Nat}, rexec P F n ops l ⟨putO o.dst d s2.E, s2.R, nx'⟩ some = some s0 → s2.R = s.R → (∀ u d, eget s.E u = some d → eget s2.E u = some d) → Stay (o :: l) s s0 := fun {s2 d nx'} h1 h2 h3 => by
      obtain ⟨q1, q2⟩ := rexec_stay hN hp hops l hl' h1
      refine ⟨q1.trans h2, fun u d' hu hd => q2 u d' (fun o' h' => hu o' (List.mem_cons_of_mem _ h')) ?_⟩
      show eget (putO o.dst d s2.E) u = some d'
      have hne := hu o List.mem_cons_self
      have hod := ho.2
      unfold putO
      split
      · exact h3 u d' hd
      · rename_i t ht
        rw [ht] at hod hne
        rw [eput_get2 (by simpa [okDst] using hod), if_neg (fun e => hne (by rw [e]))]
        exact h3 u d' hd
    have yes : ∀ s1 : St, rYes P F o (rexec P F n ops l) some s1 = some s0 → s1.R = s.R → (∀ u d, eget s.E u = some d → eget s1.E u = some d) → Stay (o :: l) s s0 := fun s1 h1 h2 h3 => by
      obtain ⟨E1, R1, nx1⟩ := s1
      have h1 : opF o.op P F o.dst E1 R1 nx1 (rexec P F n ops l) some = some s0 := h1
      have e1 := opF_eq P F o ⟨E1, R1, nx1⟩ (rexec (α := St) P F n ops l) some
      dsimp only at e1
      rw [e1] at h1
      have go : ∀ s2 : St, rDo P F o (rexec P F n ops l) some s2 = some s0 → s2.R = s.R → (∀ u d, eget s.E u = some d → eget s2.E u = some d) → Stay (o :: l) s s0 := fun s2 g1 g2 g3 => by
        unfold rDo at g1
        rw [okOp_frz ho.1] at g1
        obtain ⟨E2, R2, nx2⟩ := s2
        have g1 : stepF o.op P F (evF E2) (rget R2) R2 nx2 (appK o.dst E2 R2 nx2 (rexec P F n ops l) some) = some s0 := g1
        have g4 : (stepF o.op P F (evF E2) (rget R2) R2 nx2 some).bind (appK o.dst E2 R2 nx2 (rexec P F n ops l) some) = some s0 := (stepF_nat _ hN ..).trans g1
        obtain ⟨e, g5, g6⟩ := Option.bind_eq_some_iff.1 g4
        obtain ⟨d, nx', he⟩ := okOp_step hN hp ho.1 g5
        rcases he with he | he
        · subst he; exact putG (s2 := ⟨E2, R2, nx2⟩) g6 g2 g3
        · subst he; exact putG (s2 := ⟨E2, R2, nx2⟩) g6 g2 g3
      unfold pickS at h1
      split at h1
      · rename_i t a b hop
        have ht : t < 4095 := by
          have := ho.1
          rw [hop] at this
          simpa [okOp, Nat.blt_eq] using this
        split at h1
        · rename_i b hb
          split at h1
          · exact go _ h1 h2 fun u d hu => putB_get (s := ⟨E1, R1, nx1⟩) ht hb (h3 u d hu)
          · exact go _ h1 h2 fun u d hu => putB_get (s := ⟨E1, R1, nx1⟩) ht hb (h3 u d hu)
        · cases h1
      · exact go _ h1 h2 h3
    have no : ∀ s1 : St, rNo o.dst (rexec P F n ops l) some s1 = some s0 → s1.R = s.R → (∀ u d, eget s.E u = some d → eget s1.E u = some d) → Stay (o :: l) s s0 := fun s1 h1 h2 h3 => by
      have : rNo o.dst (rexec P F n ops l) some s1 = rexec P F n ops l ⟨putO o.dst (.lit undef) s1.E, s1.R, s1.nx⟩ some := by
        unfold rNo putO
        cases o.dst <;> rfl
      rw [this] at h1
      exact putG (s2 := s1) h1 h2 h3
    unfold gate at h
    split at h
    · exact yes s h rfl fun _ _ h => h
    · rename_i j want hg
      split at h
      · cases h
      · rename_i t hj
        have ht : t < 4095 := by
          obtain ⟨o', ho', hd'⟩ := Option.bind_eq_some_iff.1 hj
          have hm : o' ∈ ops.toList := Array.mem_toList_iff.2 (Array.mem_of_getElem? ho')
          have := hops o' hm
          rw [hd'] at this
          simpa [okDst, Nat.blt_eq] using this
        split at h
        · rename_i b hb
          split at h
          · split at h
            · exact yes _ h rfl fun u d hu => putB_get ht hb hu
            · exact no _ h rfl fun u d hu => putB_get ht hb hu
          · split at h
            · exact no _ h rfl fun u d hu => putB_get ht hb hu
            · exact yes _ h rfl fun u d hu => putB_get ht hb hu
        · exact no _ h rfl fun _ _ h => h
        · cases h

/-- the region writes nothing that is known, but t -/
noncomputable def regB (fs : List Nat) (t : Nat) (E : ET) (ops : List Oper) : Bool := Nat.blt t 4095 && ops.all fun o => okOp fs o.op && okDst o.dst && match o.dst with
  | some u => Nat.beq u t || match eget E u with
    | none => true
    | some _ => false
  | none => true
noncomputable def rbK (t : Nat) (s : St) : Option Bool := match eget s.E t with
  | some (.lit (.bool b)) => some b
  | _ => none
/-- A region of pure operations that comes to a Bool in slot t. -/
noncomputable def exRegB {α : Type} (P : Program) (F : Orc) (n : Nat) (fs : List Nat) (t : Nat) (ops : Array Oper) (s : St) (k : Kont α) : Option α := match regB fs t s.E ops.toList with
  | true => match rexec (α := Bool) P F n ops ops.toList s (rbK t) with
    | some b => k .normal ⟨eput t (.b b) s.E, s.R, s.nx⟩
    | none => none
  | false => none
theorem Env.filter_get {T : ET} : ∀ (E : Env) (u : Nat) (d : AV), Env.get (E.filter fun p => @decide (eget T p.1 = some p.2) (Classical.propDecidable _)) u = some d → eget T u = some d
  | [], _, _, h => by cases h
  | (k, v) :: E, u, d, h => by
    by_cases hk : eget T k = some v
    · rw [List.filter_cons, if_pos (by simp [hk])] at h
      by_cases hku : k = u
      · subst hku
        rw [Env.get_hit] at h
        cases h
        exact hk
      · rw [Env.get_miss _ _ hku] at h
        exact Env.filter_get E u d h
    · rw [List.filter_cons, if_neg (by simp [hk])] at h
      exact Env.filter_get E u d h
theorem Env.filter_hold {T : ET} : ∀ (E : Env) (u : Nat) (d : AV), eget T u = some d → E.get u = some d → Env.get (E.filter fun p => @decide (eget T p.1 = some p.2) (Classical.propDecidable _)) u = some d
  | [], _, _, _, h => by cases h
  | (k, v) :: E, u, d, ht, h => by
    by_cases hku : k = u
    · subst hku
      rw [Env.get_hit] at h
      cases h
      rw [List.filter_cons, if_pos (by simp [ht])]
      exact Env.get_hit _ _ _
    · rw [Env.get_miss _ _ hku] at h
      rw [List.filter_cons]
      split
      · rw [Env.get_miss _ _ hku]; exact Env.filter_hold E u d ht h
      · exact Env.filter_hold E u d ht h
theorem says_regB {α : Type} {C : Cg} (hF : OrcOk P F) (hN : OrcNat F) (hp : ∀ f ∈ fs, PureF F f) (id t : Nat) (ops : Array Oper) : Says (α := α) P C n (.region id ops false) (exRegB P F n fs t ops) := fun r s k a w h hm => by
  unfold exRegB at h
  split at h
  case h_2 => cases h
  rename_i hrb
  split at h
  case h_2 => cases h
  rename_i b hb
  unfold regB at hrb
  rw [Bool.and_eq_true, Nat.blt_eq] at hrb
  obtain ⟨ht, hall⟩ := hrb
  have hall : ∀ o ∈ ops.toList, (okOp fs o.op = true ∧ okDst o.dst = true) ∧ ∀ u, o.dst = some u → u = t ∨ eget s.E u = none := fun o ho => by
    have h1 := List.all_eq_true.1 hall o ho
    rw [Bool.and_eq_true, Bool.and_eq_true] at h1
    refine ⟨h1.1, fun u hu => ?_⟩
    have h2 := h1.2
    rw [hu] at h2
    dsimp only at h2
    rw [Bool.or_eq_true] at h2
    rcases h2 with h2 | h2
    · exact .inl (beqT h2)
    · right
      split at h2
      · assumption
      · cases h2
  have hnat := rexec_nat hN (P := P) (n := n) (ops := ops) (rbK t) ops.toList s some
  have hb' : (rexec P F n ops ops.toList s some).bind (rbK t) = some b := hnat.trans hb
  obtain ⟨s0, h1, h2⟩ := Option.bind_eq_some_iff.1 hb'
  obtain ⟨q1, q2⟩ := rexec_stay hN hp (fun o ho => (hall o ho).1.2) ops.toList (fun o ho => (hall o ho).1) h1
  have hend : Ends P C n (.region id ops false) (fun e s' => match e with
    | .normal => some s'
    | _ => none) s0 a w := by
    refine wp_mono (wp_region_lit (rexec_ok hF _ h1 hm)) fun e a' w' ⟨he, _, s', h3, h4⟩ => ?_
    subst he
    exact ⟨s', h3, h4⟩
  refine wp_mono hend fun e a' w' ⟨s', h3, h4⟩ => ?_
  cases e <;> first | (cases h3; done) | skip
  have h3 : some s' = some s0 := h3
  cases h3
  refine ⟨_, h, ?_⟩
  have hbt : eget s0.E t = some (.b b) := by
    unfold rbK at h2
    split at h2
    · rename_i b' hb'; cases h2; exact hb'
    · cases h2
  obtain ⟨E, hh, hE, hR, ρ, hag, hsim⟩ := hm
  obtain ⟨E0, hh0, hE0, hR0, ρ0, hag0, hsim0⟩ := h4
  let E1 : Env := (t, .b b) :: E.filter fun p => @decide (eget s.E p.1 = some p.2) (Classical.propDecidable _)
  have hkey : ∀ u d, E1.get u = some d → eget s0.E u = some d := fun u d hu => by
    by_cases htu : t = u
    · subst htu
      rw [Env.get_hit] at hu
      cases hu
      exact hbt
    · rw [Env.get_miss _ _ htu] at hu
      have h5 := Env.filter_get E u d hu
      refine q2 u d (fun o ho hd => ?_) h5
      rcases (hall o ho).2 u hd with h6 | h6
      · exact htu h6.symm
      · rw [h5] at h6; cases h6
  refine ⟨E1, fun u d hu => ?_, Env.cons_ltd (fun p hp => hE p (List.mem_filter.1 hp).1) (.lit _), hR, ρ0, ⟨hag0.1, hag.2⟩, ?_⟩
  · have hu : eget (eput t (.b b) s.E) u = some d := hu
    rw [eput_get2 ht] at hu
    split at hu
    · rename_i e; rw [← e, ← Option.some.inj hu]; exact Env.get_hit _ _ _
    · rename_i e
      show Env.get ((t, _) :: _) u = _
      rw [Env.get_miss _ _ e]
      exact Env.filter_hold E u d hu (hh u d hu)
  · rw [q1] at hsim0
    refine ⟨hsim0.defers, hsim0.size, fun u av hu => ?_, hsim0.good⟩
    rw [Env.sub_get] at hu
    obtain ⟨d, hd, rfl⟩ := Option.map_eq_some_iff.1 hu
    exact hsim0.slots u _ (by rw [Env.sub_get, hh0 u d (hkey u d hd)]; rfl)
end
end Go.Iv
end
section
set_option linter.unusedSectionVars false
set_option linter.unusedVariables false
set_option linter.unusedSimpArgs false
namespace Go.Iv
variable [U : Uni] [L : UniL]
open Go Go.RowKit

/-- Notes on code: lp: at the head of the loop stand what rd reads and pat shows; adv p is what stands there before the last round. jn: both ways of a choice end in what rd reads. -/
inductive An : Type 1
  | no
  | two (l r : An)
  | lp (γ : Type) (rd : St → Option γ) (pat : γ → St) (adv : γ → Option γ) (body : An)
  | jn (γ : Type) (rd : St → Option γ) (pat : γ → St) (l r : An)
  | rb (fs : List Nat) (t : Nat)
def An.l : An → An
  | .two l _ => l
  | .jn _ _ _ l _ => l
  | _ => .no
def An.r : An → An
  | .two _ r => r
  | .jn _ _ _ _ r => r
  | _ => .no

abbrev XT := An → (α : Type) → St → Kont α → Option α

def mixB {γ : Type} (b : Bool) (p q : γ) : γ := match b with
  | true => p
  | false => q
/-- a round that goes on -/
def kOn {γ : Type} (rd : St → Option γ) : Kont (Option γ) := fun e s => match e with
  | .normal => (rd s).map some
  | _ => some none
def kEnd {γ : Type} (rd : St → Option γ) : Kont γ := fun e s => match e with
  | .normal => rd s
  | _ => none
noncomputable def joinO {γ α : Type} (rd : St → Option γ) (pat : γ → St) (c : Operand) (s : St) (x y : (α : Type) → St → Kont α → Option α) (k : Kont α) : Option α := match c with
  | .tmp t => match eget s.E t with
    | some (.lit (.bool b)) => match x γ (s.putB t true) (kEnd rd) with
      | some p => match y γ (s.putB t false) (kEnd rd) with
        | some q => k .normal (pat (mixB b p q))
        | none => none
      | none => none
    | _ => none
  | _ => none
noncomputable def axReg (P : Program) (F : Orc) (n : Nat) (id : Nat) (ops : Array Oper) (draw : Bool) : XT := fun an _ s k => match an with
  | .rb fs t => match draw with
    | false => exRegB P F n fs t ops s k
    | true => exReg P F n id ops true s k
  | _ => exReg P F n id ops draw s k
noncomputable def axSeq (x y : XT) : XT := fun an α s k => x an.l α s (seqK (y an.r α) k)
noncomputable def axCond (c : Operand) (x y : XT) : XT := fun an α s k => match an with
  | .jn _ rd pat l r => joinO rd pat c s (x l) (y r) k
  | an => condO c s (fun s => x an.l α s k) (fun s => y an.r α s k)
noncomputable def axBlock (id : Nat) (x : XT) : XT := fun an α s k => x an α s (blockK id k)
noncomputable def axLoop (fuel : Nat) (x : XT) : XT := fun an α s k => match an with
  | .lp _ rd pat adv b => match rd s with
    | some p => match adv p with
      | some q => x b α (pat q) (loopK k fun _ => none)
      | none => none
    | none => none
  | an => loopN (x an α) k fuel s
noncomputable def execA (P : Program) (F : Orc) (n : Nat) (fuel : Nat) (c : Code) : XT :=
  Code.rec (fun _ _ s k => exSkip s k) (axReg P F n) (fun _ _ => axSeq) (fun c _ _ => axCond c) (fun id _ => axBlock id) (fun _ => axLoop fuel) (fun _ _ _ _ _ _ _ _ s k => exNo s k) (fun i _ _ s k => exExit i s k) (fun _ _ _ _ s k => exNo s k) (fun _ _ _ s k => exNo s k) (fun _ _ _ s k => exNo s k) (fun _ _ s k => exRet s k) (fun _ _ _ s k => exNo s k) c

def RdOk {γ : Type} (n0 n : Nat) (rd : St → Option γ) (pat : γ → St) : Prop := ∀ (C : Cg) s p a w, C.n = n0 → rd s = some p → Mt C n s a w → Mt C n (pat p) a w
/-- From p the rounds go on n times, up to q. -/
def GoesX {γ : Type} (x : XT) (rd : St → Option γ) (pat : γ → St) (b : An) : Nat → γ → γ → Prop
  | 0, p, q => p = q
  | n + 1, p, q => ∃ p', x b (Option γ) (pat p) (kOn rd) = some (some p') ∧ GoesX x rd pat b n p' q
def AdvOk {γ : Type} (x : XT) (rd : St → Option γ) (pat : γ → St) (adv : γ → Option γ) (b : An) : Prop :=
  ∀ p q, adv p = some q → ∃ n, GoesX x rd pat b n p q
noncomputable def AnOk (P : Program) (F : Orc) (n0 n : Nat) (fuel : Nat) (c : Code) : An → Prop :=
  Code.rec (fun _ => True) (fun _ _ _ an => match an with
    | .rb fs _ => ∀ f ∈ fs, PureF F f
    | _ => True) (fun _ _ x y an => x an.l ∧ y an.r) (fun _ _ _ x y an => (∀ γ rd pat l r, an = .jn γ rd pat l r → RdOk n0 n rd pat) ∧ x an.l ∧ y an.r) (fun _ _ x => x)
    (fun c x an => match an with
      | .lp _ rd pat adv b => RdOk n0 n rd pat ∧ AdvOk (execA P F n fuel c) rd pat adv b ∧ x b
      | an => x an) (fun _ _ _ _ _ _ _ => True) (fun _ _ => True) (fun _ _ _ => True) (fun _ _ => True) (fun _ _ => True) (fun _ => True) (fun _ _ => True) c

section
variable {P : Program} {F : Orc} {C : Cg} {n0 n : Nat}

theorem execA_ok (hF : OrcOk P F) (hN : OrcNat F) (hC : C.n = n0) (fuel : Nat) (c : Code) : ∀ an, AnOk P F n0 n fuel c an → ∀ (α : Type), Says (α := α) P C n c (execA P F n fuel c an α) := by
  induction c with
  | skip => exact fun an _ α r s k a w h hm => wp_skip ⟨s, h, hm⟩
  | region id ops draw =>
    intro an ho α
    cases an with
    | rb fs t =>
      cases draw with
      | false => exact says_regB hF hN ho id t ops
      | true => exact says_reg hF hN id ops true
    | _ => exact says_reg hF hN id ops draw
  | seq x y hx hy =>
    intro an ho α r s k a w h hm
    obtain ⟨h1, h2⟩ : AnOk P F n0 n fuel x an.l ∧ AnOk P F n0 n fuel y an.r := ho
    refine wp_seq (wp_mono (hx an.l h1 α r s _ a w h hm) fun e a' w' ⟨s', g1, g2⟩ => ?_)
    cases e with
    | normal => exact hy an.r h2 α r s' k a' w' g1 g2
    | _ => exact ⟨s', g1, g2⟩
  | cond c x y hx hy =>
    intro an ho α r s k a w h hm
    obtain ⟨h0, h1, h2⟩ : (∀ γ rd pat l r, an = .jn γ rd pat l r → RdOk n0 n rd pat) ∧ AnOk P F n0 n fuel x an.l ∧ AnOk P F n0 n fuel y an.r := ho
    have plain : condO c s (fun s => execA P F n fuel x an.l α s k) (fun s => execA P F n fuel y an.r α s k) = some r → Ends P C n (.cond c x y) k r a w := fun h => by
      obtain ⟨b, s', he, hm', h'⟩ := condO_ok h hm
      cases b with
      | true => exact wp_cond_true he (hx an.l h1 α r s' k a w h' hm')
      | false => exact wp_cond_false he (hy an.r h2 α r s' k a w h' hm')
    cases an with
    | jn γ rd pat l r' =>
      have hrd := h0 γ rd pat l r' rfl
      change joinO rd pat c s (execA P F n fuel x l) (execA P F n fuel y r') k = some r at h
      unfold joinO at h
      split at h
      case h_2 => cases h
      rename_i t
      split at h
      case h_2 => cases h
      rename_i b hb
      split at h
      case h_2 => cases h
      rename_i p hp
      split at h
      case h_2 => cases h
      rename_i q hq
      have hev : a.eval (.tmp t) = .bool b := by
        obtain ⟨E, hh, _, _, ρ, _, hs⟩ := hm
        refine ev_bool hs ?_
        have g1 := hh t _ hb
        show Env.get (E.sub ρ) t = _
        rw [Env.sub_get, g1, Option.map_some, sub_lit]
      have fin : ∀ (p : γ), k .normal (pat p) = some r → ∀ e a' w', (∃ s', kEnd rd e s' = some p ∧ Mt C n s' a' w') → ∃ s', k e s' = some r ∧ Mt C n s' a' w' := fun p hk e a' w' ⟨s', g1, g2⟩ => by
        cases e with
        | normal => exact ⟨_, hk, hrd C s' p a' w' hC g1 g2⟩
        | _ => cases g1
      cases b with
      | true => exact wp_cond_true hev (wp_mono (hx l h1 γ p _ _ a w hp (hm.putB hb)) (fin p h))
      | false => exact wp_cond_false hev (wp_mono (hy r' h2 γ q _ _ a w hq (hm.putB hb)) (fin q h))
    | _ => exact plain h
  | block id x hx =>
    intro an ho α r s k a w h hm
    refine wp_block (wp_mono (hx an ho α r s _ a w h hm) fun e a' w' ⟨s', h1, h2⟩ => ?_)
    cases e with
    | exit id' =>
      simp only [blockK] at h1
      simp only [Exit.inBlock]
      split
      · rename_i he
        subst he
        have hb : Nat.beq id' id' = true := Nat.beq_refl _
        simp only [hb] at h1
        exact ⟨s', h1, h2⟩
      · rename_i he
        have hb : Nat.beq id' id = false := by
          cases hb : Nat.beq id' id with
          | false => rfl
          | true => exact absurd (Nat.eq_of_beq_eq_true hb) he
        simp only [hb] at h1
        exact ⟨s', h1, h2⟩
    | _ => exact ⟨s', h1, h2⟩
  | loop c hc =>
    intro an ho α r s k a w h hm
    cases an with
    | lp γ rd pat adv b =>
      obtain ⟨hrd, hadv, hb⟩ : RdOk n0 n rd pat ∧ AdvOk (execA P F n fuel c) rd pat adv b ∧ AnOk P F n0 n fuel c b := ho
      change (match rd s with
        | some p => match adv p with
          | some q => execA P F n fuel c b α (pat q) (loopK k fun _ => none)
          | none => none
        | none => none) = some r at h
      split at h
      case h_2 => cases h
      rename_i p hp
      split at h
      case h_2 => cases h
      rename_i q hq
      obtain ⟨m, hgo⟩ := hadv p q hq
      have key : ∀ (m : Nat) (p : γ), GoesX (execA P F n fuel c) rd pat b m p q → ∀ (a : Act) (w : World), Mt C n (pat p) a w →
          c.wp P (Exit.then (InL P c fun e a' w' => ∃ s', k e s' = some r ∧ Mt C n s' a' w') fun e a' w' => ∃ s', k e s' = some r ∧ Mt C n s' a' w') a w := by
        intro m
        induction m with
        | zero =>
          intro p hg a w hm
          have hg : p = q := hg
          subst hg
          refine wp_mono (hc b hb α r _ _ a w h hm) fun e a' w' ⟨s', q1, q2⟩ => ?_
          cases e with
          | normal => cases q1
          | _ => exact ⟨s', q1, q2⟩
        | succ m ih =>
          intro p hg a w hm
          obtain ⟨p', g1, g3⟩ := hg
          refine wp_mono (hc b hb (Option γ) (some p') _ _ a w g1 hm) fun e a' w' ⟨s', q1, q2⟩ => ?_
          cases e with
          | normal =>
            obtain ⟨p'', q3, q4⟩ := Option.map_eq_some_iff.1 (show (rd s').map some = some (some p') from q1)
            cases q4
            exact inL_step (ih p' g3 a' w' (hrd C s' p' a' w' hC q3 q2))
          | _ => cases q1
      exact wp_unroll (key m p hgo a w (hrd C s p a w hC hp hm))
    | _ => exact says_loop (hc _ ho α) fuel r s k a w h hm
  | exit i => exact fun an _ α r s k a w h hm => wp_exit ⟨s, h, hm⟩
  | ret => exact fun an _ α r s k a w h hm => wp_ret ⟨s, h, hm⟩
  | _ => exact fun an _ α r s k a w h hm => by cases h

/-! ### functions -/

/-- The call of f, up to its end. -/
noncomputable def callR (P : Program) (F : Orc) (fuel : Nat) (an : An) {α : Type} (f : FuncId) (args : List AV) (R : IRs) (nx : Nat) (k : St → Option α) : Option α := match P.funcs[f]? with
  | some fn => match fn.body with
    | some c => match Nat.ble args.length fn.ntmps && !(fn.name == "runtime.NumGoroutine") with
      | true => execA P F fn.ntmps fuel c an α ⟨argsT 0 args .e, R, nx⟩ fun e s => match e with
        | .normal => k s
        | .ret => k s
        | _ => none
      | false => none
    | none => none
  | none => none
/-- The notes on the code of function f are so. -/
def FnAn (P : Program) (F : Orc) (n0 : Nat) (fuel : Nat) (f : FuncId) (an : An) : Prop := ∀ fn c, P.funcs[f]? = some fn → fn.body = some c → AnOk P F n0 fn.ntmps fuel c an

/-- What the results of f are at its end. -/
noncomputable def outOf (P : Program) (f : FuncId) (s : St) : Option (List AV) := match P.funcs[f]? with
  | some fn => resL P s fn.results.toList
  | none => none

/-- Function f, called with args while it is handed what R0 names (the names below n0), comes to answer d and owns R then (the names below n0 stand for what they stood for). -/
structure Out where
  d : AV
  R : IRs
  c : Nat
def FnY (P : Program) (f : FuncId) (args : List AV) (R0 : IRs) (n0 : Nat) (x : Out) : Prop := ∀ ρ : Gh, Fn P f (args.map (AVq.sub ρ)) (IRs.res ρ R0) (fun a s => ∃ ρ' : Gh, Agr n0 ρ ρ' ∧ a = x.d.sub ρ' ∧ List.Perm s (IRs.res ρ' x.R))

theorem fnY_of (hF : OrcG P F) {n0 fuel : Nat} {f : FuncId} {an : An} (han : FnAn P F n0 fuel f an) {args : List AV} {R0 : IRs} {γ : Type} {rd : St → Option γ} {pat : γ → St} {out : γ → Out} {p : γ}
    (hrd : ∀ n, RdOk n0 n rd pat) (ho : ∀ p, (match outOf P f (pat p) with
      | some ds => some (Out.mk (resA ds) (keepR (pat p).R n0 (resA ds)) (pat p).nx)
      | none => none) = some (out p))
    (hargs : ∀ d ∈ args, Ltd n0 d) (hR : IRs.Ltd n0 R0) (h : callR P F fuel an f args R0 n0 rd = some p) : fnOk P f ∧ FnY P f args R0 n0 (out p) := by
  unfold callR at h
  split at h
  case h_2 => cases h
  rename_i fn hf
  split at h
  case h_2 => cases h
  rename_i c hb
  split at h
  case h_2 => cases h
  rename_i hc
  rw [Bool.and_eq_true] at hc
  obtain ⟨hl, hnm⟩ := hc
  have hop := ho p
  split at hop
  case h_2 => cases hop
  rename_i ds hds
  have hds : resL P (pat p) fn.results.toList = some ds := by
    unfold outOf at hds
    rw [hf] at hds
    exact hds
  have hop := Option.some.inj hop
  refine ⟨⟨fn, hf, by simpa using hnm, by rw [hb]; rfl⟩, fun ρ => Fn.of hf hb rfl (by rw [List.length_map]; exact hl) fun C a w ha => ?_⟩
  have hm : Mt ⟨C, ρ, n0⟩ fn.ntmps ⟨argsT 0 args .e, R0, n0⟩ a w := by
    refine ⟨argsEnv 0 args, ?_, fun q hq => hargs _ (argsEnv_mem hq), hR, ρ, ⟨.refl _ _, Nat.le_refl _⟩, ?_⟩
    · have := hold_args args 0 .e [] (fun t d ht => by cases t <;> cases ht) (fun t d ht => by cases t <;> cases ht)
      rwa [List.append_nil] at this
    · rw [argsEnv_sub]; exact ha
  refine wp_mono (execA_ok (C := ⟨C, ρ, n0⟩) hF.ok hF.nat rfl fuel c an (han fn c hf hb) γ p _ _ a w h hm) fun e a' w' ⟨s', h1, h2⟩ => ?_
  have fin : ∀ e : Exit, (e = .normal ∨ e = .ret) → rd s' = some p → ∃ E' σ', Sim C fn.ntmps E' σ' a' w' ∧ FinQ P C fn.ntmps fn (fun a s => ∃ ρ' : Gh, Agr n0 ρ ρ' ∧ a = (out p).d.sub ρ' ∧ List.Perm s (IRs.res ρ' (out p).R)) e E' σ' := fun e he hp => by
    have hm' := hrd fn.ntmps ⟨C, ρ, n0⟩ s' p a' w' rfl hp h2
    obtain ⟨E, hh, hE, hR, ρ', ⟨hag, hnx⟩, hsim⟩ := hm'
    have hsub : List.Sublist (keepR (pat p).R n0 (resA ds)) (pat p).R := keepL_sub _ _ _
    refine ⟨_, _, hsim, fin_of (σ' := IRs.res ρ' (keepR (pat p).R n0 (resA ds))) (av := (resA ds).sub ρ') he (hsub.map _) ⟨ρ', hag, by rw [← hop], by rw [← hop]⟩ fun A w' tmps hd hs => ?_⟩
    obtain ⟨us, q1, q2⟩ := resL_ok hh hd hs hds
    refine ⟨_, ?_, resA_rel q2⟩
    show (do let vs ← fn.results.mapM (resOne tmps); pure (if h : vs.size = 1 then vs[0] else .tuple vs) : Sem Value).run P w' = _
    have e1 : fn.results = fn.results.toList.toArray := by simp
    rw [e1, List.mapM_toArray]
    simp [q1]
  cases e with
  | normal => exact fin _ (.inl rfl) h1
  | ret => exact fin _ (.inr rfl) h1
  | _ => cases h1
end

/-! ### loops, summed up whatever they do -/

section
variable {γ : Type} (rnd : γ → Option (Option γ))
/-- From p the rounds go on n times, up to q, whose round does not go on. -/
def Goes : Nat → γ → γ → Prop
  | 0, p, q => p = q ∧ ∀ r, rnd p ≠ some (some r)
  | n + 1, p, q => ∃ p', rnd p = some (some p') ∧ Goes n p' q
open Classical in
/-- the state before the last round -/
noncomputable def advG (p : γ) : Option γ := if h : ∃ q n, Goes rnd n p q then some (Classical.choose h) else none
variable {rnd}
theorem Goes.det : ∀ {n m : Nat} {p q q' : γ}, Goes rnd n p q → Goes rnd m p q' → n = m ∧ q = q'
  | 0, 0, p, q, q', ⟨h1, _⟩, ⟨h2, _⟩ => ⟨rfl, h1 ▸ h2⟩
  | 0, m + 1, p, q, q', ⟨h1, h3⟩, ⟨p', h2, _⟩ => absurd h2 (h3 p')
  | n + 1, 0, p, q, q', ⟨p', h2, _⟩, ⟨h1, h3⟩ => absurd h2 (h3 p')
  | n + 1, m + 1, p, q, q', ⟨p', h1, h2⟩, ⟨p'', h3, h4⟩ => by
    rw [h1] at h3
    cases h3
    obtain ⟨e1, e2⟩ := Goes.det h2 h4
    exact ⟨by rw [e1], e2⟩
theorem Goes.adv {n : Nat} {p q : γ} (h : Goes rnd n p q) : advG rnd p = some q := by
  have hx : ∃ q n, Goes rnd n p q := ⟨q, n, h⟩
  unfold advG
  rw [dif_pos hx]
  obtain ⟨m, hm⟩ := Classical.choose_spec hx
  rw [(Goes.det hm h).2]
theorem Goes.last {n : Nat} {p q : γ} (h : Goes rnd n p q) : ∀ r, rnd q ≠ some (some r) := by
  induction n generalizing p with
  | zero => obtain ⟨h1, h2⟩ := h; rw [← h1]; exact h2
  | succ n ih => obtain ⟨p', _, h2⟩ := h; exact ih h2
/-- A loop that ends: by an invariant and a number that falls. -/
theorem Goes.ex (I : γ → Prop) (m : γ → Nat) (h : ∀ p q, I p → rnd p = some (some q) → I q ∧ m q < m p) : ∀ (k : Nat) (p : γ), m p ≤ k → I p → ∃ n q, Goes rnd n p q ∧ I q
  | k, p, hk, hp => by
    by_cases hq : ∃ q, rnd p = some (some q)
    · obtain ⟨q, hq⟩ := hq
      obtain ⟨h1, h2⟩ := h p q hp hq
      match k with
      | 0 => omega
      | k + 1 =>
        obtain ⟨n, r, h3, h4⟩ := Goes.ex I m h k q (by omega) h1
        exact ⟨n + 1, r, ⟨q, hq, h3⟩, h4⟩
    · exact ⟨0, p, ⟨rfl, fun r hr => hq ⟨r, hr⟩⟩, hp⟩
theorem advG_goes {p q : γ} (h : advG rnd p = some q) : ∃ n, Goes rnd n p q := by
  unfold advG at h
  split at h
  · rename_i hx
    cases h
    exact Classical.choose_spec hx
  · cases h
theorem advG_ind (I : γ → Prop) (m : γ → Nat) (h : ∀ p q, I p → rnd p = some (some q) → I q ∧ m q < m p) {p : γ} (hp : I p) : ∃ q, advG rnd p = some q ∧ I q ∧ ∀ r, rnd q ≠ some (some r) := by
  obtain ⟨n, q, h1, h2⟩ := Goes.ex I m h (m p) p (Nat.le_refl _) hp
  exact ⟨q, h1.adv, h2, h1.last⟩
theorem advG_step {p p' : γ} (h : rnd p = some (some p')) : advG rnd p = advG rnd p' := by
  cases h2 : advG rnd p' with
  | some q =>
    obtain ⟨n, hn⟩ := advG_goes h2
    exact (show Goes rnd (n + 1) p q from ⟨p', h, hn⟩).adv
  | none =>
    cases h1 : advG rnd p with
    | none => rfl
    | some q =>
      obtain ⟨n, hn⟩ := advG_goes h1
      cases n with
      | zero => exact absurd h (hn.2 p')
      | succ n =>
        obtain ⟨p'', h3, h4⟩ := hn
        rw [h] at h3
        cases h3
        rw [h4.adv] at h2
        cases h2
theorem advG_stop {p : γ} (h : ∀ r, rnd p ≠ some (some r)) : advG rnd p = some p := (show Goes rnd 0 p p from ⟨rfl, h⟩).adv
/-- A loop whose end a function foretells. -/
theorem advG_eq (f : γ → γ) (I : γ → Prop) (m : γ → Nat) (h : ∀ p, I p → (∃ q, rnd p = some (some q) ∧ I q ∧ m q < m p ∧ f q = f p) ∨ (f p = p ∧ ∀ r, rnd p ≠ some (some r))) {p : γ} (hp : I p) : advG rnd p = some (f p) := by
  have key : ∀ (k : Nat) (p : γ), m p ≤ k → I p → advG rnd p = some (f p) := by
    intro k
    induction k with
    | zero =>
      intro p hk hp
      rcases h p hp with ⟨q, _, _, h3, _⟩ | ⟨h1, h2⟩
      · omega
      · rw [advG_stop h2, h1]
    | succ k ih =>
      intro p hk hp
      rcases h p hp with ⟨q, h1, h2, h3, h4⟩ | ⟨h1, h2⟩
      · rw [advG_step h1, ih q (by omega) h2, h4]
      · rw [advG_stop h2, h1]
  exact key (m p) p (Nat.le_refl _) hp
theorem Goes.x {x : XT} {rd : St → Option γ} {pat : γ → St} {b : An} (hx : ∀ p, x b (Option γ) (pat p) (kOn rd) = rnd p) : ∀ {n : Nat} {p q : γ}, Goes rnd n p q → GoesX x rd pat b n p q
  | 0, _, _, h => h.1
  | _ + 1, _, _, ⟨p', h1, h2⟩ => ⟨p', by rw [hx]; exact h1, Goes.x hx h2⟩
theorem advG_ok {x : XT} {rd : St → Option γ} {pat : γ → St} {b : An} (hx : ∀ p, x b (Option γ) (pat p) (kOn rd) = rnd p) : AdvOk x rd pat (advG rnd) b := fun p q h => by
  obtain ⟨n, hn⟩ := advG_goes h
  exact ⟨n, hn.x hx⟩
/-- The same of another function that says as0 much. -/
theorem AdvOk.of {x : XT} {rd : St → Option γ} {pat : γ → St} {adv adv' : γ → Option γ} {b : An} (h : AdvOk x rd pat adv b) (he : ∀ p q, adv' p = some q → adv p = some q) : AdvOk x rd pat adv' b := fun p q hq => h p q (he p q hq)
end
end Go.Iv
end
section
set_option linter.unusedSectionVars false
set_option linter.unusedVariables false
set_option linter.unusedSimpArgs false
namespace Go.Iv
variable [U : Uni] [L : UniL]
open Go Go.RowKit

section
variable {β γ δ : Type}

/-- f reads what may name what is owned, and c is the same -/
def PN (f : AV → Option β) (c : β → AV) : Prop := ∀ a b, f a = some b → (∀ (ρ : Gh) A w v, Rel A w (a.sub ρ) v → Rel A w ((c b).sub ρ) v) ∧ ∀ n, Ltd n a → Ltd n (c b)
theorem PN.of {f : AV → Option β} {c : β → AV} (h : P1 f c) (hc : ∀ a b, f a = some b → cloB 2 a = true) (hl : ∀ b, (∀ ρ, (c b).sub ρ = c b) ∧ ∀ n, Ltd n (c b)) : PN f c := fun a b hb =>
  ⟨fun ρ A w v hr => by rw [cloB_sub 2 (hc a b hb)] at hr; rw [(hl b).1]; exact h a b hb A w v hr, fun n _ => (hl b).2 n⟩
theorem PN.i (k : IntKind) : PN (asI k) (AVq.n k) := .of (.i k) (fun a b h => by
  unfold asI at h
  split at h
  · rfl
  · cases h) fun b => ⟨fun ρ => sub_lit ρ _, fun n => .lit _⟩
theorem PN.b : PN asB AVq.b := .of .b (fun a b h => by
  unfold asB at h
  split at h
  · rfl
  · cases h) fun b => ⟨fun ρ => sub_lit ρ _, fun n => .lit _⟩
theorem PN.s : PN asS AVq.s := .of .s (fun a b h => by
  unfold asS at h
  split at h
  · rfl
  · cases h) fun b => ⟨fun ρ => sub_lit ρ _, fun n => .lit _⟩
theorem PN.l (t : Nat) : PN (asL t) (AVq.sl t) := .of (.l t) (fun a b h => by
  unfold asL at h
  split at h
  · rfl
  · rfl
  · cases h) fun b => ⟨fun ρ => sub_sl ρ _ _, fun n => .sl _ _⟩
/-- a struct's cells -/
def asGc (t : Nat) : AV → Option (U.Dat t)
  | .agg cs => match cs.all (cloB 1) with
    | true => L.parse t cs
    | false => none
  | _ => none
theorem PN.g (t : Nat) : PN (asGc t) (fun x => .agg (U.cells t x)) := .of (fun a b h A w v hr => by
  unfold asGc at h
  split at h
  · split at h
    · obtain ⟨us, rfl, h2⟩ := hr.aggInv
      exact Rel.aggL (L.parse_ok _ _ _ h A w us h2)
    · cases h
  · cases h) (fun a b h => by
  unfold asGc at h
  split at h
  · split at h
    · rename_i hc; exact hc
    · cases h
  · cases h) fun b => ⟨fun ρ => by rw [sub_agg, L.clo], fun n => .agg _ (L.ltd t b n)⟩
/-- a pointer to box id -/
def asP (id off : Nat) : AV → Option Unit
  | .ptr i o => match Nat.beq i id && Nat.beq o off with
    | true => some ()
    | false => none
  | _ => none
theorem PN.p (id off : Nat) : PN (asP id off) (fun _ => .ptr id off) := fun a b h => by
  unfold asP at h
  split at h
  · split at h
    · rename_i hc
      rw [Bool.and_eq_true] at hc
      rw [beqT hc.1, beqT hc.2]
      exact ⟨fun _ _ _ _ h => h, fun _ h => h⟩
    · cases h
  · cases h
/-- row id -/
def asO (id : Nat) : AV → Option Unit
  | .own i => match Nat.beq i id with
    | true => some ()
    | false => none
  | _ => none
theorem PN.o (id : Nat) : PN (asO id) (fun _ => .own id) := fun a b h => by
  unfold asO at h
  split at h
  · split at h
    · rename_i hc
      rw [beqT hc]
      exact ⟨fun _ _ _ _ h => h, fun _ h => h⟩
    · cases h
  · cases h

/-- q reads cells that may name what is owned, and c are the same -/
def PkN (q : List AV → Option γ) (c : γ → List AV) : Prop := ∀ cs g, q cs = some g → (∀ (ρ : Gh) A w us, RelL A w (cs.map (AVq.sub ρ)) us → RelL A w ((c g).map (AVq.sub ρ)) us) ∧ ∀ n, (∀ a ∈ cs, Ltd n a) → ∀ a ∈ c g, Ltd n a
theorem PkN.nil : PkN pkN (fun _ => []) := fun cs g h => by
  unfold pkN at h
  split at h
  · exact ⟨fun ρ A w us hr => hr, fun n h => h⟩
  · cases h
theorem PkN.cons {f : AV → Option β} {c : β → AV} {q : List AV → Option γ} {d : γ → List AV} (h : PN f c) (hq : PkN q d) : PkN (pkC f q) (fun x => c x.1 :: d x.2) := fun cs g hg => by
  unfold pkC at hg
  split at hg
  · obtain ⟨b, h1, hg⟩ := Option.bind_eq_some_iff.1 hg
    obtain ⟨g', h2, rfl⟩ := Option.map_eq_some_iff.1 hg
    obtain ⟨h3, h4⟩ := h _ _ h1
    obtain ⟨h5, h6⟩ := hq _ _ h2
    refine ⟨fun ρ A w us hr => ?_, fun n hn a ha => ?_⟩
    · rw [List.map_cons] at hr ⊢
      obtain ⟨v, us', rfl, h7, h8⟩ := hr.head
      exact RelL.cons (h3 ρ A w v h7) (h5 ρ A w us' h8)
    · rcases List.mem_cons.1 ha with rfl | ha
      · exact h4 n (hn _ List.mem_cons_self)
      · exact h6 n (fun a ha => hn a (List.mem_cons_of_mem _ ha)) a ha
  · cases hg
/-- an aggregate, cell by cell -/
def asAg (q : List AV → Option γ) : AV → Option γ
  | .agg cs => q cs
  | _ => none
theorem PN.ag {q : List AV → Option γ} {c : γ → List AV} (h : PkN q c) : PN (asAg q) (fun x => .agg (c x)) := fun a b hb => by
  unfold asAg at hb
  split at hb
  · rename_i cs
    obtain ⟨h1, h2⟩ := h _ _ hb
    refine ⟨fun ρ A w v hr => ?_, fun n hn => .agg _ (h2 n hn.aggL)⟩
    rw [sub_agg] at hr ⊢
    obtain ⟨us, rfl, h3⟩ := hr.aggInv
    exact Rel.aggL (h1 ρ A w us h3)
  · cases hb
/-- a tuple, part by part -/
def asTu (q : List AV → Option γ) : AV → Option γ
  | .tup cs => q cs
  | _ => none
theorem PN.tu {q : List AV → Option γ} {c : γ → List AV} (h : PkN q c) : PN (asTu q) (fun x => .tup (c x)) := fun a b hb => by
  unfold asTu at hb
  split at hb
  · rename_i cs
    obtain ⟨h1, h2⟩ := h _ _ hb
    refine ⟨fun ρ A w v hr => ?_, fun n hn => .tup _ (h2 n hn.tupL)⟩
    rw [sub_tup] at hr ⊢
    obtain ⟨us, rfl, h3⟩ := hr.tupInv
    exact Rel.tupL (h1 ρ A w us h3)
  · cases hb
/-- the function k with what it captured -/
def asFf (k : Nat) (q : List AV → Option γ) : AV → Option γ
  | .fn (.func i) cs => match Nat.beq i k with
    | true => q cs
    | false => none
  | _ => none
theorem PN.ff (k : Nat) {q : List AV → Option γ} {c : γ → List AV} (h : PkN q c) : PN (asFf k q) (fun x => .fn (.func k) (c x)) := fun a b hb => by
  unfold asFf at hb
  split at hb
  · rename_i i cs
    split at hb
    · rename_i hi
      have hi := beqT hi
      subst hi
      obtain ⟨h1, h2⟩ := h _ _ hb
      refine ⟨fun ρ A w v hr => ?_, fun n hn => .fn _ _ (h2 n hn.fnL)⟩
      rw [sub_fn] at hr ⊢
      generalize ha : AVq.fn (Fn.func i) (cs.map (AVq.sub ρ)) = a at hr
      cases hr with
      | fn f cs' us hl hr =>
        cases ha
        obtain ⟨h3, h4⟩ := h1 ρ A w us ⟨hl, hr⟩
        exact .fn _ _ us h3 h4
      | _ => cases ha
    · cases hb
  · cases hb
/-- the address of data -/
def asFp (q : List AV → Option γ) : AV → Option γ
  | .fp cs => q cs
  | _ => none
theorem PN.fp {q : List AV → Option γ} {c : γ → List AV} (h : PkN q c) : PN (asFp q) (fun x => .fp (c x)) := fun a b hb => by
  unfold asFp at hb
  split at hb
  · rename_i cs
    obtain ⟨h1, h2⟩ := h _ _ hb
    refine ⟨fun ρ A w v hr => ?_, fun n hn => ?_⟩
    · rw [sub_fp] at hr ⊢
      generalize ha : AVq.fp (cs.map (AVq.sub ρ)) = a at hr
      cases hr with
      | fp cs' b o us hb hA hl hc hr =>
        cases ha
        obtain ⟨h3, h4⟩ := h1 ρ A w us ⟨hl, hr⟩
        exact .fp _ b o us hb hA h3 hc h4
      | _ => cases ha
    · generalize ha : AVq.fp cs = a at hn
      cases hn with
      | fp cs' h5 => cases ha; exact .fp _ (h2 n h5)
      | _ => cases ha
  · cases hb
/-- the nil slice -/
def asNs : AV → Option Unit
  | .lit (.slice none 0 0) => some ()
  | _ => none
theorem PN.ns : PN asNs (fun _ => .lit (.slice none 0 0)) := fun a b hb => by
  unfold asNs at hb
  split at hb
  · exact ⟨fun _ _ _ _ h => h, fun _ h => h⟩
  · cases hb
/-- cells of a value of type t, whatever is owned -/
def asCs (t : Nat) (cs : List AV) : Option (U.Dat t) := match cs.all (cloB 1) with
    | true => L.parse t cs
    | false => none
theorem PkN.parse (t : Nat) : PkN (asCs t) (fun x => U.cells t x) := fun cs g h => by
  unfold asCs at h
  split at h
  · rename_i hc
    have e : ∀ ρ, cs.map (AVq.sub ρ) = cs := fun ρ => by
      have : cs.map (AVq.sub ρ) = cs.map id := List.map_congr_left fun a ha => cloB_sub 1 (List.all_eq_true.1 hc a ha)
      rw [this, List.map_id]
    exact ⟨fun ρ A w us hr => by rw [e] at hr; rw [L.clo]; exact L.parse_ok _ _ _ h A w us hr, fun n _ => L.ltd t g n⟩
  · cases h

/-! ### slots -/

def slN (_ : ET) : Option Unit := some ()
noncomputable def slC (t : Nat) (f : AV → Option β) (q : ET → Option γ) (T : ET) : Option (β × γ) := match eget T t with
  | some a => (f a).bind fun b => (q T).map fun g => (b, g)
  | none => none
/-- the slots of what q reads are d of it -/
def SlOk (q : ET → Option γ) (d : γ → Env) : Prop := ∀ T g, q T = some g → ∀ (E : Env), Hold T E → (∀ (ρ : Gh) A w tmps, Slots A w (E.sub ρ) tmps → Slots A w ((d g).sub ρ) tmps) ∧ ∀ n, E.Ltd n → (d g).Ltd n
theorem SlOk.nil : SlOk slN (fun _ => []) := fun T g _ E _ => ⟨fun ρ A w tmps _ t av h => (by cases h), fun n _ p hp => (by cases hp)⟩
theorem SlOk.cons {t : Nat} {f : AV → Option β} {c : β → AV} {q : ET → Option γ} {d : γ → Env} (hf : PN f c) (hq : SlOk q d) : SlOk (slC t f q) (fun x => (t, c x.1) :: d x.2) := fun T g h E hh => by
  unfold slC at h
  split at h
  case h_2 => cases h
  rename_i a ha
  obtain ⟨b, hb, h⟩ := Option.bind_eq_some_iff.1 h
  obtain ⟨g', hg, rfl⟩ := Option.map_eq_some_iff.1 h
  obtain ⟨h1, h2⟩ := hf a b hb
  obtain ⟨h3, h4⟩ := hq T g' hg E hh
  refine ⟨fun ρ A w tmps hs s av hx => ?_, fun n hn p hp => ?_⟩
  · have hx : Env.get ((t, (c b).sub ρ) :: (d g').sub ρ) s = some av := hx
    by_cases hts : t = s
    · subst hts
      rw [Env.get_hit] at hx
      cases hx
      obtain ⟨v, q1, q2⟩ := hs t (a.sub ρ) (by rw [Env.sub_get, hh t a ha]; rfl)
      exact ⟨v, q1, h1 ρ A w v q2⟩
    · rw [Env.get_miss _ _ hts] at hx
      exact h3 ρ A w tmps hs s av hx
  · rcases List.mem_cons.1 hp with rfl | hp
    · exact h2 n (hn _ (Env.get_mem (hh t a ha)))
    · exact h4 n hn p hp
noncomputable def etOf (E : Env) : ET := List.rec .e (fun p _ T => eput p.1 p.2 T) E
theorem etOf_hold : ∀ E : Env, Hold (etOf E) E
  | [] => fun t d h => by cases t <;> cases h
  | p :: E => (etOf_hold E).put p.1 p.2

/-! ### what is owned -/

/-- what is known of p is known of p' -/
def leR (p p' : Nat × IR) : Prop := p.1 = p'.1 ∧ (∀ (ρ : Gh) A w, (p.2.res ρ p.1).ok A w → (p'.2.res ρ p'.1).ok A w) ∧ (∀ ρ : Gh, (p.2.res ρ p.1).blk = (p'.2.res ρ p'.1).blk) ∧ ∀ n, p.2.Ltd n → p'.2.Ltd n
inductive LeRs : IRs → IRs → Prop
  | nil : LeRs [] []
  | cons {p p' : Nat × IR} {R R' : IRs} (h : leR p p') (hs : LeRs R R') : LeRs (p :: R) (p' :: R')
def rsN : IRs → Option Unit
  | [] => some ()
  | _ => none
def rsB (id T : Nat) (f : List AV → Option β) (q : IRs → Option γ) : IRs → Option (β × γ)
  | (i, .box T' cs) :: R => match Nat.beq i id && Nat.beq T' T && cs.all (cloB 1) with
    | true => (f cs).bind fun b => (q R).map fun g => (b, g)
    | false => none
  | _ => none
def rsR (id t : Nat) (q : IRs → Option γ) : IRs → Option (List (U.Dat t) × γ)
  | (i, .row t' l) :: R => match Nat.beq i id with
    | true => (castL t' t l).bind fun l => (q R).map fun g => (l, g)
    | false => none
  | _ => none
def RsOk (q : IRs → Option γ) (d : γ → IRs) : Prop := ∀ R g, q R = some g → LeRs R (d g)
theorem RsOk.nil : RsOk rsN (fun _ => []) := fun R g h => by
  cases R with
  | nil => exact .nil
  | cons p R => cases h
theorem RsOk.box {id T : Nat} {f : List AV → Option β} {c : β → List AV} {q : IRs → Option γ} {d : γ → IRs} (hf : Pk f c) (hc : ∀ b ρ, (c b).map (AVq.sub ρ) = c b) (hl : ∀ b n, ∀ a ∈ c b, Ltd n a) (hq : RsOk q d) : RsOk (rsB id T f q) (fun x => (id, .box T (c x.1)) :: d x.2) := fun R g h => by
  obtain ⟨i, T', cs, R', rfl, hcd, h9⟩ : ∃ i T' cs R', R = (i, IR.box T' cs) :: R' ∧ (Nat.beq i id && Nat.beq T' T && cs.all (cloB 1)) = true ∧ ((f cs).bind fun b => (q R').map fun g => (b, g)) = some g := by
    unfold rsB at h
    split at h
    · split at h
      · rename_i hcd; exact ⟨_, _, _, _, rfl, hcd, h⟩
      · cases h
    · cases h
  simp only [Bool.and_eq_true] at hcd
  have e1 := beqT hcd.1.1
  have e2 := beqT hcd.1.2
  subst e1 e2
  obtain ⟨b, hb, h9⟩ := Option.bind_eq_some_iff.1 h9
  obtain ⟨g', hg, rfl⟩ := Option.map_eq_some_iff.1 h9
  refine .cons ⟨rfl, fun ρ A w ⟨us, h1, h2⟩ => ⟨us, h1, ?_⟩, fun ρ => rfl, fun n _ => hl b n⟩ (hq _ _ hg)
  have e : cs.map (AVq.sub ρ) = cs := by
    have : cs.map (AVq.sub ρ) = cs.map id := List.map_congr_left fun a ha => cloB_sub 1 (List.all_eq_true.1 hcd.2 a ha)
    rw [this, List.map_id]
  rw [e] at h2
  show RelL A w ((c b).map (AVq.sub ρ)) us
  rw [hc]
  exact hf _ _ hb A w us h2
theorem RsOk.row {id t : Nat} {q : IRs → Option γ} {d : γ → IRs} (hq : RsOk q d) : RsOk (rsR id t q) (fun x => (id, .row t x.1) :: d x.2) := fun R g h => by
  obtain ⟨i, t', l, R', rfl, hcd, h9⟩ : ∃ i t' l R', R = (i, IR.row t' l) :: R' ∧ Nat.beq i id = true ∧ ((castL t' t l).bind fun l => (q R').map fun g => (l, g)) = some g := by
    unfold rsR at h
    split at h
    · split at h
      · rename_i hcd; exact ⟨_, _, _, _, rfl, hcd, h⟩
      · cases h
    · cases h
  have e1 := beqT hcd
  subst e1
  obtain ⟨l', hl, h9⟩ := Option.bind_eq_some_iff.1 h9
  obtain ⟨g', hg, rfl⟩ := Option.map_eq_some_iff.1 h9
  obtain ⟨rfl, rfl⟩ := castL_ok hl
  exact .cons ⟨rfl, fun ρ A w h => h, fun ρ => rfl, fun n h => h⟩ (hq _ _ hg)

/-- a box whose cells may name what is owned -/
def rsN2 (id T : Nat) (f : List AV → Option β) (q : IRs → Option γ) : IRs → Option (β × γ)
  | (i, .box T' cs) :: R => match Nat.beq i id && Nat.beq T' T with
    | true => (f cs).bind fun b => (q R).map fun g => (b, g)
    | false => none
  | _ => none
theorem RsOk.boxN {id T : Nat} {f : List AV → Option β} {c : β → List AV} {q : IRs → Option γ} {d : γ → IRs} (hf : PkN f c) (hq : RsOk q d) : RsOk (rsN2 id T f q) (fun x => (id, .box T (c x.1)) :: d x.2) := fun R g h => by
  obtain ⟨i, T', cs, R', rfl, hcd, h9⟩ : ∃ i T' cs R', R = (i, IR.box T' cs) :: R' ∧ (Nat.beq i id && Nat.beq T' T) = true ∧ ((f cs).bind fun b => (q R').map fun g => (b, g)) = some g := by
    unfold rsN2 at h
    split at h
    · split at h
      · rename_i hcd; exact ⟨_, _, _, _, rfl, hcd, h⟩
      · cases h
    · cases h
  rw [Bool.and_eq_true] at hcd
  have e1 := beqT hcd.1
  have e2 := beqT hcd.2
  subst e1 e2
  obtain ⟨b, hb, h9⟩ := Option.bind_eq_some_iff.1 h9
  obtain ⟨g', hg, rfl⟩ := Option.map_eq_some_iff.1 h9
  obtain ⟨k1, k2⟩ := hf _ _ hb
  exact .cons ⟨rfl, fun ρ A w ⟨us, h1, h2⟩ => ⟨us, h1, k1 ρ A w us h2⟩, fun ρ => rfl, fun n hn => k2 n hn⟩ (hq _ _ hg)

theorem leR_blks {ρ : Gh} : ∀ {R R' : IRs}, LeRs R R' → blks (IRs.res ρ R) = blks (IRs.res ρ R')
  | _, _, .nil => rfl
  | _, _, .cons (p := p) (p' := p') h hs => by
    unfold blks IRs.res
    rw [List.map_cons, List.map_cons, List.filterMap_cons, List.filterMap_cons, h.2.2.1 ρ]
    have := leR_blks (ρ := ρ) hs
    unfold blks IRs.res at this
    rw [this]
theorem leR_ok {ρ : Gh} {A : Nat → Prop} {w : World} : ∀ {R R' : IRs}, LeRs R R' → (∀ r ∈ IRs.res ρ R, r.ok A w) → ∀ r ∈ IRs.res ρ R', r.ok A w
  | _, _, .nil, _ => fun r hr => by cases hr
  | _, _, .cons (p := p) (p' := p') h hs, h0 => fun r hr => by
    rcases List.mem_cons.1 hr with rfl | hr
    · exact h.2.1 ρ A w (h0 _ List.mem_cons_self)
    · exact leR_ok hs (fun r hr => h0 r (List.mem_cons_of_mem _ hr)) r hr
theorem leR_ltd {n : Nat} : ∀ {R R' : IRs}, LeRs R R' → IRs.Ltd n R → IRs.Ltd n R'
  | _, _, .nil, h => h
  | _, _, .cons (p := p) (p' := p') h hs, h0 => fun q hq => by
    rcases List.mem_cons.1 hq with rfl | hq
    · exact ⟨by rw [← h.1]; exact (h0 _ List.mem_cons_self).1, h.2.2.2 n (h0 _ List.mem_cons_self).2⟩
    · exact leR_ltd hs (fun q hq => h0 q (List.mem_cons_of_mem _ hq)) q hq

/-! ### a state -/

noncomputable def stR (m : Nat) (q : ET → Option γ) (r : IRs → Option δ) (s : St) : Option (γ × δ) := match Nat.beq s.nx m with
  | true => (q s.E).bind fun g => (r s.R).map fun h => (g, h)
  | false => none
noncomputable def stP (m : Nat) (d : γ → Env) (e : δ → IRs) (p : γ × δ) : St := ⟨etOf (d p.1), e p.2, m⟩
theorem stR_ok {n0 n m : Nat} {q : ET → Option γ} {r : IRs → Option δ} {d : γ → Env} {e : δ → IRs} (hq : SlOk q d) (hr : RsOk r e) : RdOk n0 n (stR m q r) (stP m d e) := fun C s p a w _ h hm => by
  unfold stR at h
  split at h
  case h_2 => cases h
  rename_i hnx
  have hnx := beqT hnx
  obtain ⟨g, hg, h⟩ := Option.bind_eq_some_iff.1 h
  obtain ⟨g', hg', rfl⟩ := Option.map_eq_some_iff.1 h
  obtain ⟨E, hh, hE, hR, ρ, hag, hsim⟩ := hm
  obtain ⟨h1, h2⟩ := hq _ _ hg E hh
  have h3 := hr _ _ hg'
  have hb : blks (IRs.res ρ (e g')) = blks (IRs.res ρ s.R) := (leR_blks h3).symm
  have hal : ∀ b, al C.C (IRs.res ρ s.R) b → al C.C (IRs.res ρ (e g')) b := fun b hA => ⟨hA.1, by rw [hb]; exact hA.2⟩
  subst hnx
  have hdis : (blks (IRs.res ρ (e g'))).Nodup := by rw [hb]; exact hsim.good.dis
  refine ⟨d g, etOf_hold _, h2 _ hE, leR_ltd h3 hR, ρ, hag, hsim.defers.step (fun b _ hA => ⟨hal b hA, rfl⟩), hsim.size, fun t av ht => ?_, hsim.good.kept, fun x hx => ?_, hdis, fun b hx => hsim.good.own b (by rw [← hb]; exact hx)⟩
  · obtain ⟨v, q1, q2⟩ := h1 ρ _ w a.tmps hsim.slots t av ht
    exact ⟨v, q1, q2.mono fun b _ hA => ⟨hal b hA, rfl⟩⟩
  · exact (leR_ok h3 hsim.good.res x hx).mono (fun b _ hA => ⟨hal b hA, rfl⟩) (fun _ _ => rfl)
end

/-- what rd reads, laid out by e -/
def rdM {γ γ' : Type} (e : γ → γ') (rd : St → Option γ) (s : St) : Option γ' := match rd s with
  | some p => some (e p)
  | none => none
theorem RdOk.m {γ γ' : Type} {n0 n : Nat} {rd : St → Option γ} {pat : γ → St} (h : RdOk n0 n rd pat) (e : γ → γ') {pat' : γ' → St} (he : ∀ p, pat' (e p) = pat p) : RdOk n0 n (rdM e rd) pat' := fun C s p a w hC hr hm => by
  unfold rdM at hr
  split at hr
  · rename_i p' hp
    cases hr
    rw [he]
    exact h C s p' a w hC hp hm
  · cases hr

/-! ### the notes, one by one -/

noncomputable def obls (c : Code) : An → List (Code × An) :=
  Code.rec (fun _ => []) (fun _ _ _ an => match an with
      | .rb fs t => [(.skip, .rb fs t)]
      | _ => []) (fun _ _ x y an => x an.l ++ y an.r) (fun _ _ _ x y an => (match an with
      | .jn γ rd pat l r => [(.skip, .jn γ rd pat l r)]
      | _ => []) ++ (x an.l ++ y an.r)) (fun _ _ x => x)
    (fun c x an => match an with
      | .lp γ rd pat adv b => (c, .lp γ rd pat adv b) :: x b
      | an => x an) (fun _ _ _ _ _ _ _ => []) (fun _ _ => []) (fun _ _ _ => []) (fun _ _ => []) (fun _ _ => []) (fun _ => []) (fun _ _ => []) c
def OblOk (P : Program) (F : Orc) (n0 n : Nat) (fuel : Nat) (p : Code × An) : Prop := match p.2 with
  | .lp _ rd pat adv b => RdOk n0 n rd pat ∧ AdvOk (execA P F n fuel p.1) rd pat adv b
  | .jn _ rd pat _ _ => RdOk n0 n rd pat
  | .rb fs _ => ∀ f ∈ fs, PureF F f
  | _ => True
theorem anOk_of {P : Program} {F : Orc} {n0 n fuel : Nat} (c : Code) : ∀ an, (∀ p ∈ obls c an, OblOk P F n0 n fuel p) → AnOk P F n0 n fuel c an := by
  induction c with
  | region id ops draw =>
    intro an h
    cases an with
    | rb fs t => exact h (.skip, .rb fs t) (List.mem_singleton.2 rfl)
    | _ => exact trivial
  | seq x y hx hy =>
    intro an h
    exact ⟨hx an.l fun p hp => h p (List.mem_append_left _ hp), hy an.r fun p hp => h p (List.mem_append_right _ hp)⟩
  | cond c x y hx hy =>
    intro an h
    refine ⟨fun γ rd pat l r he => ?_, hx an.l fun p hp => h p (List.mem_append_right _ (List.mem_append_left _ hp)), hy an.r fun p hp => h p (List.mem_append_right _ (List.mem_append_right _ hp))⟩
    subst he
    exact h (.skip, .jn γ rd pat l r) (List.mem_append_left _ (List.mem_singleton.2 rfl))
  | block id x hx => exact fun an h => hx an h
  | loop c hc =>
    intro an h
    cases an with
    | lp γ rd pat adv b =>
      have h0 := h (c, .lp γ rd pat adv b) List.mem_cons_self
      exact ⟨h0.1, h0.2, hc b fun p hp => h p (List.mem_cons_of_mem _ hp)⟩
    | no => exact hc _ h
    | two l r => exact hc _ h
    | jn γ rd pat l r => exact hc _ h
    | rb fs t => exact hc _ h
  | _ => exact fun an h => trivial
theorem fnAn_of {P : Program} {F : Orc} {n0 fuel f : Nat} {fn : Func} {c : Code} {an : An} {l : List (Code × An)} (hf : P.funcs[f]? = some fn) (hb : fn.body = some c) (ho : obls c an = l) (h : ∀ p ∈ l, OblOk P F n0 fn.ntmps fuel p) : FnAn P F n0 fuel f an := fun fn' c' h1 h2 => by
  rw [hf] at h1
  cases h1
  rw [hb] at h2
  cases h2
  exact anOk_of c an (by rw [ho]; exact h)
noncomputable def bodyOf (fn : Func) : Code := match fn.body with
  | some c => c
  | none => .skip
theorem bodyOf_eq {fn : Func} (h : fn.body.isNone = false) : fn.body = some (bodyOf fn) := by
  unfold bodyOf
  cases hb : fn.body with
  | none => rw [hb] at h; cases h
  | some c => rfl
noncomputable def loopsOf (c : Code) : List Code := Code.rec [] (fun _ _ _ => []) (fun _ _ x y => x ++ y) (fun _ _ _ x y => x ++ y) (fun _ _ x => x) (fun c x => c :: x) (fun _ _ _ _ _ _ => []) (fun _ => []) (fun _ _ => []) (fun _ => []) (fun _ => []) [] (fun _ => []) c
noncomputable def loopAt (fn : Func) (i : Nat) : Code := (loopsOf (bodyOf fn)).getD i .skip
end Go.Iv
end
section
set_option linter.unusedSectionVars false
set_option linter.unusedVariables false
set_option linter.unusedSimpArgs false
namespace Go.Iv
open Go
section
variable [U : Uni]
def cellsA {D : Nat → Type} (n : Nat) (x : Nat → Bool) : List (AVq D) := (List.range n).map fun i => .lit (.bool (x i))
def isF : AV → Bool
  | .lit (.bool false) => true
  | _ => false
/-- only the array of false is made from cells -/
def parseA (n : Nat) (cs : List AV) : Option (Nat → Bool) := bif Nat.beq cs.length n && cs.all isF then some (fun _ => false) else none
theorem isF_eq {c : AV} (h : isF c = true) : c = .lit (.bool false) := by
  unfold isF at h
  split at h
  · rfl
  · cases h
theorem parseA_ok (n : Nat) : Pk (parseA n) (cellsA n) := fun cs g h A w us hr => by
  unfold parseA at h
  cases hb : Nat.beq cs.length n && cs.all isF with
  | false => rw [hb] at h; cases h
  | true =>
    rw [hb] at h
    cases h
    rw [Bool.and_eq_true] at hb
    obtain ⟨h1, h2⟩ := hb
    have h1 : cs.length = n := Nat.eq_of_beq_eq_true h1
    have : cs = cellsA n (fun _ => false) := by
      apply List.ext_getElem
      · simp [cellsA, h1]
      · intro i hi _
        rw [isF_eq (List.all_eq_true.1 h2 _ (List.getElem_mem hi))]
        simp [cellsA]
    rw [← this]
    exact hr
theorem lenA (n : Nat) (x : Nat → Bool) : (cellsA (D := U.Dat) n x).length = n := by simp [cellsA]
theorem oneA (n : Nat) (x : Nat → Bool) : (cellsA (D := U.Dat) n x).all acell1 = true := List.all_eq_true.2 fun c hc => by
  obtain ⟨i, _, rfl⟩ := List.mem_map.1 hc
  rfl
theorem flatA (n : Nat) (x : Nat → Bool) : (cellsA (D := U.Dat) n x).all flatB = true := List.all_eq_true.2 fun c hc => by
  obtain ⟨i, _, rfl⟩ := List.mem_map.1 hc
  rfl
def getA (x : Nat → Bool) (i : Nat) : Bool := x i
def setA (x : Nat → Bool) (i : Nat) (b : Bool) : Nat → Bool := fun j => if j = i then b else x j
theorem getA_ok (n : Nat) (x : Nat → Bool) (i : Nat) (h : i < n) : (cellsA (D := U.Dat) n x)[i]? = some (.lit (.bool (x i))) := by
  rw [List.getElem?_eq_getElem (by rw [lenA]; exact h)]
  simp [cellsA]
theorem optA (n : Nat) (x : Nat → Bool) (j : Nat) : (cellsA (D := U.Dat) n x)[j]? = if j < n then some (.lit (.bool (x j))) else none := by
  by_cases h : j < n
  · rw [if_pos h, getA_ok n x j h]
  · rw [if_neg h, List.getElem?_eq_none (by rw [lenA]; omega)]
theorem setA_ok (n : Nat) (x : Nat → Bool) (i : Nat) (b : Bool) (h : i < n) : cellsA (D := U.Dat) n (setA x i b) = (cellsA n x).take i ++ [.lit (.bool b)] ++ (cellsA n x).drop (i + 1) := by
  have hl : ((cellsA (D := U.Dat) n x).take i).length = i := by rw [List.length_take, lenA]; omega
  apply List.ext_getElem?
  intro j
  rw [optA, List.append_assoc]
  by_cases h1 : j < i
  · rw [List.getElem?_append_left (by rw [List.length_take, lenA]; omega), List.getElem?_take, if_pos h1, optA, if_pos (show j < n by omega), if_pos (show j < n by omega)]
    unfold setA
    rw [if_neg (by omega)]
  · rw [List.getElem?_append_right (by rw [List.length_take, lenA]; omega), hl]
    by_cases h2 : j = i
    · subst h2
      rw [if_pos h, Nat.sub_self]
      unfold setA
      rw [if_pos rfl]
      rfl
    · rw [List.getElem?_append_right (by simp; omega), List.length_singleton, List.getElem?_drop, optA, show i + 1 + (j - i - 1) = j by omega]
      unfold setA
      rw [if_neg h2]
end
end Go.Iv
end
section
set_option linter.unusedSectionVars false
set_option linter.unusedVariables false
set_option linter.unusedSimpArgs false
namespace Go.Proofs.Ytfipaakafcjjhaa
open Go Go.Iv

structure Write where
  fAt : Int
  fData : List Int
  deriving Inhabited, DecidableEq
structure Disk where
  fDurable : List (List Int)
  fPending : List Write
  fLeft : Int
  fDown : Bool
  deriving Inhabited, DecidableEq
structure GOp where
  fKind : Int
  fAt : Int
  fFill : Int
  fLeft : Int
  fKeep : List Bool
  deriving Inhabited, DecidableEq
inductive Ky
  | k4
  | k5
  | k25
  | k26
  | k29
  | k43
  | k45
  | k46
  | k55
  | k56
  | no
def ky : Nat → Ky
  | 4 => .k4
  | 5 => .k5
  | 25 => .k25
  | 26 => .k26
  | 29 => .k29
  | 43 => .k43
  | 45 => .k45
  | 46 => .k46
  | 55 => .k55
  | 56 => .k56
  | _ => .no
def datK : Ky → Type
  | .k4 => Bool
  | .k5 => Int
  | .k25 => Disk
  | .k26 => Disk
  | .k29 => List Int
  | .k43 => Nat → Bool
  | .k45 => GOp
  | .k46 => GOp
  | .k55 => Write
  | .k56 => Write
  | .no => Unit
abbrev datU (t : Nat) : Type := datK (ky t)
@[reducible] def inhK : (k : Ky) → Inhabited (datK k)
  | .k4 => ⟨(default : Bool)⟩
  | .k5 => ⟨(default : Int)⟩
  | .k25 => ⟨(default : Disk)⟩
  | .k26 => ⟨(default : Disk)⟩
  | .k29 => ⟨(default : List Int)⟩
  | .k43 => ⟨(default : Nat → Bool)⟩
  | .k45 => ⟨(default : GOp)⟩
  | .k46 => ⟨(default : GOp)⟩
  | .k55 => ⟨(default : Write)⟩
  | .k56 => ⟨(default : Write)⟩
  | .no => ⟨()⟩
def szK : Ky → Nat
  | .k4 => 1
  | .k5 => 1
  | .k25 => 4
  | .k26 => 4
  | .k29 => 1
  | .k43 => 256
  | .k45 => 5
  | .k46 => 5
  | .k55 => 2
  | .k56 => 2
  | .no => 0
def cellsK : (k : Ky) → datK k → List (AVq datU)
  | .k4, x => (fun x : Bool => [.b x]) x
  | .k5, x => (fun x : Int => [.n .u8 x]) x
  | .k25, x => (fun x : Disk => [.sl 29 x.fDurable, .sl 56 x.fPending, .n .i64 x.fLeft, .b x.fDown]) x
  | .k26, x => (fun x : Disk => [.sl 29 x.fDurable, .sl 56 x.fPending, .n .i64 x.fLeft, .b x.fDown]) x
  | .k29, x => (fun x : List Int => [.sl 5 x]) x
  | .k43, x => (fun x : Nat → Bool => cellsA (D := datU) 256 x) x
  | .k45, x => (fun x : GOp => [.n .u8 x.fKind, .n .u8 x.fAt, .n .u8 x.fFill, .n .u8 x.fLeft, .sl 4 x.fKeep]) x
  | .k46, x => (fun x : GOp => [.n .u8 x.fKind, .n .u8 x.fAt, .n .u8 x.fFill, .n .u8 x.fLeft, .sl 4 x.fKeep]) x
  | .k55, x => (fun x : Write => [.n .i64 x.fAt, .sl 5 x.fData]) x
  | .k56, x => (fun x : Write => [.n .i64 x.fAt, .sl 5 x.fData]) x
  | .no, _ => []
instance uni : Uni := ⟨datU, fun t => inhK (ky t), fun t => szK (ky t), fun t => cellsK (ky t)⟩
def parseK : (k : Ky) → List AV → Option (datK k)
  | .k4 => fun cs => ((pkC asB pkN) cs).map (fun g : Bool × Unit => (g.1 : Bool))
  | .k5 => fun cs => ((pkC (asI .u8) pkN) cs).map (fun g : Int × Unit => (g.1 : Int))
  | .k25 => fun cs => ((pkC (asL 29) (pkC (asL 56) (pkC (asI .i64) (pkC asB pkN)))) cs).map (fun g : (List (datU 29)) × (List (datU 56)) × Int × Bool × Unit => ((Disk.mk g.1 g.2.1 g.2.2.1 g.2.2.2.1) : Disk))
  | .k26 => fun cs => ((pkC (asL 29) (pkC (asL 56) (pkC (asI .i64) (pkC asB pkN)))) cs).map (fun g : (List (datU 29)) × (List (datU 56)) × Int × Bool × Unit => ((Disk.mk g.1 g.2.1 g.2.2.1 g.2.2.2.1) : Disk))
  | .k29 => fun cs => ((pkC (asL 5) pkN) cs).map (fun g : (List (datU 5)) × Unit => (g.1 : List Int))
  | .k43 => parseA 256
  | .k45 => fun cs => ((pkC (asI .u8) (pkC (asI .u8) (pkC (asI .u8) (pkC (asI .u8) (pkC (asL 4) pkN))))) cs).map (fun g : Int × Int × Int × Int × (List (datU 4)) × Unit => ((GOp.mk g.1 g.2.1 g.2.2.1 g.2.2.2.1 g.2.2.2.2.1) : GOp))
  | .k46 => fun cs => ((pkC (asI .u8) (pkC (asI .u8) (pkC (asI .u8) (pkC (asI .u8) (pkC (asL 4) pkN))))) cs).map (fun g : Int × Int × Int × Int × (List (datU 4)) × Unit => ((GOp.mk g.1 g.2.1 g.2.2.1 g.2.2.2.1 g.2.2.2.2.1) : GOp))
  | .k55 => fun cs => ((pkC (asI .i64) (pkC (asL 5) pkN)) cs).map (fun g : Int × (List (datU 5)) × Unit => ((Write.mk g.1 g.2.1) : Write))
  | .k56 => fun cs => ((pkC (asI .i64) (pkC (asL 5) pkN)) cs).map (fun g : Int × (List (datU 5)) × Unit => ((Write.mk g.1 g.2.1) : Write))
  | .no => fun _ => none
theorem parseK_ok : (k : Ky) → Pk (parseK k) (cellsK k)
  | .k4 => Pk.map (fun g : Bool × Unit => (g.1 : Bool)) (.cons .b .nil) (fun _ => rfl)
  | .k5 => Pk.map (fun g : Int × Unit => (g.1 : Int)) (.cons (.i .u8) .nil) (fun _ => rfl)
  | .k25 => Pk.map (fun g : (List (datU 29)) × (List (datU 56)) × Int × Bool × Unit => ((Disk.mk g.1 g.2.1 g.2.2.1 g.2.2.2.1) : Disk)) (.cons (.l 29) (.cons (.l 56) (.cons (.i .i64) (.cons .b .nil)))) (fun _ => rfl)
  | .k26 => Pk.map (fun g : (List (datU 29)) × (List (datU 56)) × Int × Bool × Unit => ((Disk.mk g.1 g.2.1 g.2.2.1 g.2.2.2.1) : Disk)) (.cons (.l 29) (.cons (.l 56) (.cons (.i .i64) (.cons .b .nil)))) (fun _ => rfl)
  | .k29 => Pk.map (fun g : (List (datU 5)) × Unit => (g.1 : List Int)) (.cons (.l 5) .nil) (fun _ => rfl)
  | .k43 => parseA_ok 256
  | .k45 => Pk.map (fun g : Int × Int × Int × Int × (List (datU 4)) × Unit => ((GOp.mk g.1 g.2.1 g.2.2.1 g.2.2.2.1 g.2.2.2.2.1) : GOp)) (.cons (.i .u8) (.cons (.i .u8) (.cons (.i .u8) (.cons (.i .u8) (.cons (.l 4) .nil))))) (fun _ => rfl)
  | .k46 => Pk.map (fun g : Int × Int × Int × Int × (List (datU 4)) × Unit => ((GOp.mk g.1 g.2.1 g.2.2.1 g.2.2.2.1 g.2.2.2.2.1) : GOp)) (.cons (.i .u8) (.cons (.i .u8) (.cons (.i .u8) (.cons (.i .u8) (.cons (.l 4) .nil))))) (fun _ => rfl)
  | .k55 => Pk.map (fun g : Int × (List (datU 5)) × Unit => ((Write.mk g.1 g.2.1) : Write)) (.cons (.i .i64) (.cons (.l 5) .nil)) (fun _ => rfl)
  | .k56 => Pk.map (fun g : Int × (List (datU 5)) × Unit => ((Write.mk g.1 g.2.1) : Write)) (.cons (.i .i64) (.cons (.l 5) .nil)) (fun _ => rfl)
  | .no => .none
def numsK : (k : Ky) → List (datK k) → Option (List Int)
  | .k5, l => some l
  | _, _ => none
theorem flat_one (l : List Int) : l.flatMap (fun x => [AVq.n (Dat := datU) .u8 x]) = l.map (.n .u8) := by
  induction l with
  | nil => rfl
  | cons a l ih => rw [List.flatMap_cons, ih]; rfl
theorem numsK_ok : (k : Ky) → (l : List (datK k)) → (ns : List Int) → numsK k l = some ns → l.flatMap (cellsK k) = ns.map (.n .u8) ∧ szK k = 1 := by
  intro k l ns h
  cases k <;> first | (cases h; done) | (cases h; exact ⟨flat_one _, rfl⟩)
theorem lenK (k : Ky) (x : datK k) : (cellsK k x).length = szK k := by cases k <;> first | exact lenA _ _ | rfl
theorem oneK (k : Ky) (x : datK k) : (cellsK k x).all acell1 = true := by cases k <;> first | exact oneA _ _ | rfl
theorem cloK (k : Ky) (x : datK k) (ρ : Gh) : (cellsK k x).map (AVq.sub ρ) = cellsK k x := sub_flat _ (by cases k <;> first | exact flatA _ _ | rfl) ρ
theorem ltdK (k : Ky) (x : datK k) (n : Nat) : ∀ c ∈ cellsK k x, Ltd n c := ltd_flat _ (by cases k <;> first | exact flatA _ _ | rfl) n
def arrK : Ky → Bool
  | .k43 => true
  | _ => false
def gtK : (k : Ky) → datK k → Nat → Bool
  | .k43, x, i => getA (x : Nat → Bool) i
  | _, _, _ => false
def stK : (k : Ky) → datK k → Nat → Bool → datK k
  | .k43, x, i, b => setA (x : Nat → Bool) i b
  | _, x, _, _ => x
theorem arrK_get (k : Ky) (h : arrK k = true) (x : datK k) (i : Nat) (hi : i < szK k) : (cellsK k x)[i]? = some (.lit (.bool (gtK k x i))) := by
  cases k <;> first | (cases h; done) | exact getA_ok _ _ i hi
theorem arrK_set (k : Ky) (h : arrK k = true) (x : datK k) (i : Nat) (b : Bool) (hi : i < szK k) : cellsK k (stK k x i b) = (cellsK k x).take i ++ [.lit (.bool b)] ++ (cellsK k x).drop (i + 1) := by
  cases k <;> first | (cases h; done) | exact setA_ok _ _ i b hi
instance uniL : UniL where
  len := fun t x => lenK (ky t) x
  one := fun t x => oneK (ky t) x
  clo := fun t x ρ => cloK (ky t) x ρ
  ltd := fun t x n => ltdK (ky t) x n
  parse := fun t => parseK (ky t)
  parse_ok := fun t => parseK_ok (ky t)
  nums := fun t => numsK (ky t)
  nums_ok := fun t => numsK_ok (ky t)
  arr := fun t => arrK (ky t)
  gtB := fun t => gtK (ky t)
  stB := fun t => stK (ky t)
  arr_get := fun t h => arrK_get (ky t) h
  arr_set := fun t h => arrK_set (ky t) h

end Go.Proofs.Ytfipaakafcjjhaa
end
section
set_option linter.unusedSectionVars false
set_option linter.unusedVariables false
set_option linter.unusedSimpArgs false
namespace Go.Iv
variable [U : Uni] [L : UniL]
open Go Go.RowKit

/-- d with its names turned by f -/
noncomputable def renA (f : Nat → Nat) (n : Nat) : AV → AV := Nat.rec (fun d => match d with
  | .own i => .own (f i)
  | .ptr i o => .ptr (f i) o
  | .ra i t m o => .ra (f i) t m o
  | d => d) (fun _ ih d => match d with
  | .own i => .own (f i)
  | .ptr i o => .ptr (f i) o
  | .ra i t m o => .ra (f i) t m o
  | .agg cs => .agg (cs.map ih)
  | .tup cs => .tup (cs.map ih)
  | .fn g cs => .fn g (cs.map ih)
  | .fp cs => .fp (cs.map ih)
  | d => d) n
theorem renA_sub {f : Nat → Nat} {ρ ρ' : Gh} {p : Nat → Bool} (hp : ∀ i, p i = true → ρ'.v (f i) = ρ.v i ∧ ρ'.b (f i) = ρ.b i) : ∀ (n : Nat) {d : AV}, idsC p n d = true → (renA f n d).sub ρ' = d.sub ρ
  | 0, d, h => by
    cases d with
    | lit v => show AVq.sub ρ' (.lit v) = _; rw [sub_lit, sub_lit]
    | sl t l => show AVq.sub ρ' (.sl t l) = _; rw [sub_sl, sub_sl]
    | rp v k => show AVq.sub ρ' (.rp v k) = _; simp only [AVq.sub]
    | own i => show AVq.sub ρ' (.own (f i)) = _; rw [sub_own, sub_own, (hp _ h).1]
    | ptr i o => show AVq.sub ρ' (.ptr (f i) o) = _; rw [sub_ptr, sub_ptr, (hp _ h).2]
    | ra i t m o => show AVq.sub ρ' (.ra (f i) t m o) = _; rw [sub_ra, sub_ra, (hp _ h).1]
    | _ => cases h
  | n + 1, d, h => by
    have hL : ∀ {cs : List AV}, cs.all (idsC p n) = true → (cs.map (renA f n)).map (AVq.sub ρ') = cs.map (AVq.sub ρ) := fun {cs} h => by
      rw [List.map_map]
      exact List.map_congr_left fun c hc => renA_sub hp n (List.all_eq_true.1 h c hc)
    cases d with
    | lit v => show AVq.sub ρ' (.lit v) = _; rw [sub_lit, sub_lit]
    | sl t l => show AVq.sub ρ' (.sl t l) = _; rw [sub_sl, sub_sl]
    | rp v k => show AVq.sub ρ' (.rp v k) = _; simp only [AVq.sub]
    | own i => show AVq.sub ρ' (.own (f i)) = _; rw [sub_own, sub_own, (hp _ h).1]
    | ptr i o => show AVq.sub ρ' (.ptr (f i) o) = _; rw [sub_ptr, sub_ptr, (hp _ h).2]
    | ra i t m o => show AVq.sub ρ' (.ra (f i) t m o) = _; rw [sub_ra, sub_ra, (hp _ h).1]
    | fp cs => show AVq.sub ρ' (.fp (List.map (renA f n) cs)) = _; rw [sub_fp, sub_fp, hL h]
    | agg cs => show AVq.sub ρ' (.agg (List.map (renA f n) cs)) = _; rw [sub_agg, sub_agg, hL h]
    | tup cs => show AVq.sub ρ' (.tup (List.map (renA f n) cs)) = _; rw [sub_tup, sub_tup, hL h]
    | fn g cs => show AVq.sub ρ' (.fn g (List.map (renA f n) cs)) = _; rw [sub_fn, sub_fn, hL h]
theorem renA_ltd {f : Nat → Nat} {p : Nat → Bool} {m : Nat} (hp : ∀ i, p i = true → f i < m) : ∀ (n : Nat) {d : AV}, idsC p n d = true → Ltd m (renA f n d)
  | 0, d, h => by
    cases d <;> first | exact .lit _ | exact .sl _ _ | exact .rp _ _ | exact .own _ (hp _ h) | exact .ptr _ _ (hp _ h) | exact .ra _ _ _ _ (hp _ h) | (cases h; done)
  | n + 1, d, h => by
    have hL : ∀ {cs : List AV}, cs.all (idsC p n) = true → ∀ c ∈ cs.map (renA f n), Ltd m c := fun {cs} h c hc => by
      obtain ⟨c', h1, rfl⟩ := List.mem_map.1 hc
      exact renA_ltd hp n (List.all_eq_true.1 h c' h1)
    cases d <;> first | exact .lit _ | exact .sl _ _ | exact .rp _ _ | exact .own _ (hp _ h) | exact .ptr _ _ (hp _ h) | exact .ra _ _ _ _ (hp _ h) | exact .agg _ (hL h) | exact .tup _ (hL h) | exact .fn _ _ (hL h) | exact .fp _ (hL h)
noncomputable def renR (f : Nat → Nat) : IR → IR
  | .box T cs => .box T (cs.map (renA f 4))
  | r => r

/-- the place of name i among the names -/
noncomputable def posN (l : List Nat) (i : Nat) : Nat := List.rec 0 (fun j _ ih => match Nat.beq j i with
  | true => 0
  | false => ih + 1) l
theorem posN_get : ∀ {l : List Nat} {i : Nat}, i ∈ l → l[posN l i]? = some i
  | j :: l, i, h => by
    show (j :: l)[match Nat.beq j i with
      | true => 0
      | false => posN l i + 1]? = some i
    cases hb : Nat.beq j i with
    | true => have := beqT hb; subst this; rfl
    | false =>
      have hne : i ≠ j := fun e => by subst e; rw [Nat.beq_refl] at hb; cases hb
      exact posN_get ((List.mem_cons.1 h).resolve_left hne)


/-- The slots ts alone. -/
noncomputable def liveE (ts : List Nat) (E : ET) : Env := ts.filterMap fun t => (eget E t).map fun d => (t, d)
theorem liveE_get {E : ET} : ∀ (ts : List Nat) t d, Env.get (liveE ts E) t = some d → eget E t = some d := fun ts => by
  induction ts with
  | nil => intro t d h; cases h
  | cons u ts ih =>
    intro t d h
    unfold liveE at h
    rw [List.filterMap_cons] at h
    cases hu : eget E u with
    | none => rw [hu] at h; exact ih t d h
    | some x =>
      rw [hu] at h
      by_cases hut : u = t
      · subst hut
        have h : Env.get ((u, x) :: _) u = some d := h
        rw [Env.get_hit] at h
        rw [hu, h]
      · have h : Env.get ((u, x) :: _) t = some d := h
        rw [Env.get_miss _ _ hut] at h
        exact ih t d h

/-- the first of name i, and the others -/
noncomputable def pick (i : Nat) (R : IRs) : Option ((Nat × IR) × IRs) := List.rec none (fun p R ih => match Nat.beq p.1 i with
  | true => some (p, R)
  | false => match ih with
    | some x => some (x.1, p :: x.2)
    | none => none) R
theorem pick_perm {i : Nat} : ∀ {R : IRs} {x}, pick i R = some x → List.Perm R (x.1 :: x.2)
  | [], x, h => by cases h
  | p :: R, x, h => by
    have h : (match Nat.beq p.1 i with
      | true => some (p, R)
      | false => match pick i R with
        | some x => some (x.1, p :: x.2)
        | none => none) = some x := h
    split at h
    · cases h; exact .refl _
    · split at h
      · rename_i y hy
        cases h
        exact ((pick_perm hy).cons p).trans (.swap _ _ _)
      · cases h
/-- those named ns, in that order, and the others -/
noncomputable def picks (ns : List Nat) : IRs → IRs × IRs := List.rec (fun R => ([], R)) (fun i _ ih R => match pick i R with
  | some x => (x.1 :: (ih x.2).1, (ih x.2).2)
  | none => ih R) ns
theorem picks_perm : ∀ (ns : List Nat) (R : IRs), List.Perm R ((picks ns R).1 ++ (picks ns R).2)
  | [], R => .refl _
  | i :: ns, R => by
    show List.Perm R ((match pick i R with
      | some x => (x.1 :: (picks ns x.2).1, (picks ns x.2).2)
      | none => picks ns R).1 ++ (match pick i R with
      | some x => (x.1 :: (picks ns x.2).1, (picks ns x.2).2)
      | none => picks ns R).2)
    split
    · rename_i x hx
      exact (pick_perm hx).trans ((picks_perm ns x.2).cons _)
    · exact picks_perm ns R

noncomputable def upto (n : Nat) : List Nat := Nat.rec [] (fun i ih => ih ++ [i]) n
theorem upto_mem {n i : Nat} (h : i < n) : i ∈ upto n := by
  induction n with
  | zero => omega
  | succ n ih =>
    show i ∈ upto n ++ [n]
    by_cases hi : i = n
    · subst hi; simp
    · exact List.mem_append_left _ (ih (by omega))
theorem upto_get {n i : Nat} (h : i < n) : (upto n)[i]? = some i := by
  induction n with
  | zero => omega
  | succ n ih =>
    show (upto n ++ [n])[i]? = some i
    have hl : ∀ n, (upto n).length = n := fun n => by
      induction n with
      | zero => rfl
      | succ n ih => show (upto n ++ [n]).length = n + 1; simp [ih]
    by_cases hi : i = n
    · subst hi; rw [List.getElem?_append_right (by rw [hl]; exact Nat.le_refl _), hl, Nat.sub_self]; rfl
    · rw [List.getElem?_append_left (by rw [hl]; omega)]; exact ih (by omega)
theorem upto_len : ∀ n, (upto n).length = n := fun n => by
  induction n with
  | zero => rfl
  | succ n ih => show (upto n ++ [n]).length = n + 1; simp [ih]
theorem posN_upto {n i : Nat} (h : i < n) (l : List Nat) : posN (upto n ++ l) i = i := by
  have key : ∀ (l : List Nat) (k : Nat), (∀ j, j ≤ k → l[j]? = some (j + (i - k))) → k ≤ i → posN l i = k := by
    intro l k
    induction k generalizing l with
    | zero =>
      intro h0 _
      cases l with
      | nil => have := h0 0 (Nat.le_refl _); cases this
      | cons a l =>
        have h1 := h0 0 (Nat.le_refl _)
        simp at h1
        show (match Nat.beq a i with | true => 0 | false => posN l i + 1) = 0
        rw [h1, Nat.beq_refl]
    | succ k ih =>
      intro h0 hk
      cases l with
      | nil => have := h0 0 (Nat.zero_le _); cases this
      | cons a l =>
        have h1 := h0 0 (Nat.zero_le _)
        simp at h1
        have hne : Nat.beq a i = false := by
          cases hb : Nat.beq a i with
          | false => rfl
          | true => have := beqT hb; omega
        show (match Nat.beq a i with | true => 0 | false => posN l i + 1) = k + 1
        rw [hne]
        dsimp only
        rw [ih l (fun j hj => by have := h0 (j + 1) (by omega); rw [List.getElem?_cons_succ] at this; rw [this]; congr 1; omega) (by omega)]
  refine key _ i (fun j hj => ?_) (Nat.le_refl _)
  rw [Nat.sub_self, Nat.add_zero, List.getElem?_append_left (by rw [upto_len]; omega)]
  exact upto_get (by omega)
/-- the number of name i: those of dr are numbered afresh -/
noncomputable def numN (n0 : Nat) (dr rest : List Nat) (i : Nat) : Nat := match memB i dr with
  | true => n0 + posN rest i
  | false => posN (upto n0 ++ rest) i
noncomputable def canon2 (n0 : Nat) (dr : List Nat) (l : Env) (R : IRs) (rest : List Nat) : Option St := match l.all (fun q => idsC (fun i => memB i rest || !memB i dr && Nat.blt i n0) 4 q.2) && R.all (fun q => (memB q.1 rest || !memB q.1 dr && Nat.blt q.1 n0) && match q.2 with
    | .box _ cs => cs.all (idsC (fun i => memB i rest || !memB i dr && Nat.blt i n0) 4)
    | .row _ _ => true) with
  | true => some ⟨etOf (l.map fun q => (q.1, renA (numN n0 dr rest) 4 q.2)), R.map fun q => (numN n0 dr rest q.1, renR (numN n0 dr rest) q.2), n0 + rest.length⟩
  | false => none
noncomputable def canon1 (n0 : Nat) (dr : List Nat) (l : Env) (R : IRs) : Option St := canon2 n0 dr l R ((R.map fun q => q.1).filter fun i => memB i dr || !Nat.blt i n0)
/-- The slots ts alone, what they reach, named in the order in which it is met; the names below n0 stay, but those of dr. -/
noncomputable def canon (n0 : Nat) (dr : List Nat) (ts : List Nat) (s : St) : Option St := canon1 n0 dr (liveE ts s.E) (picks ((upto n0).filter (fun i => !memB i dr) ++ reach s.R 3 ((liveE ts s.E).flatMap fun q => idsN 4 q.2)) s.R).1

theorem canon_ok {n0 n : Nat} {dr ts : List Nat} {C : Cg} {s s' : St} {a : Act} {w : World} (hC : C.n = n0) (h : canon n0 dr ts s = some s') (hm : Mt C n s a w) : Mt C n s' a w := by
  unfold canon canon1 at h
  generalize hl : liveE ts s.E = l at h
  generalize hR : (picks ((upto n0).filter (fun i => !memB i dr) ++ reach s.R 3 (l.flatMap fun q => idsN 4 q.2)) s.R) = R2 at h
  have hperm : List.Perm s.R (R2.1 ++ R2.2) := by rw [← hR]; exact picks_perm _ _
  obtain ⟨R, Rr⟩ := R2
  dsimp only at h hperm
  generalize hns : ((R.map fun q => q.1).filter fun i => memB i dr || !Nat.blt i n0) = rest at h
  unfold canon2 at h
  split at h
  case h_2 => cases h
  rename_i hb
  cases h
  rw [Bool.and_eq_true] at hb
  obtain ⟨hb1, hb2⟩ := hb
  obtain ⟨E, hh, hE, hR0, ρ, hag, hsim⟩ := hm
  let ρ' : Gh := ⟨fun j => ρ.v ((upto n0 ++ rest).getD j 0), fun j => ρ.b ((upto n0 ++ rest).getD j 0)⟩
  have hget : ∀ i, (memB i rest || !memB i dr && Nat.blt i n0) = true → (upto n0 ++ rest)[numN n0 dr rest i]? = some i := fun i hi => by
    unfold numN
    cases hd : memB i dr with
    | true =>
      rw [hd] at hi
      have hi : memB i rest = true := by simpa using hi
      show (upto n0 ++ rest)[n0 + posN rest i]? = some i
      rw [List.getElem?_append_right (by rw [upto_len]; omega), upto_len, Nat.add_sub_cancel_left]
      exact posN_get (memB_iff.1 hi)
    | false =>
      rw [hd] at hi
      show (upto n0 ++ rest)[posN (upto n0 ++ rest) i]? = some i
      refine posN_get ?_
      rw [Bool.or_eq_true] at hi
      rcases hi with hi | hi
      · exact List.mem_append_right _ (memB_iff.1 hi)
      · refine List.mem_append_left _ (upto_mem ?_)
        simpa [Nat.blt_eq] using hi
  have hp : ∀ i, (memB i rest || !memB i dr && Nat.blt i n0) = true → ρ'.v (numN n0 dr rest i) = ρ.v i ∧ ρ'.b (numN n0 dr rest i) = ρ.b i := fun i hi => by
    have e : (upto n0 ++ rest).getD (numN n0 dr rest i) 0 = i := by rw [List.getD_eq_getElem?_getD, hget i hi]; rfl
    exact ⟨by show ρ.v ((upto n0 ++ rest).getD (numN n0 dr rest i) 0) = _; rw [e], by show ρ.b ((upto n0 ++ rest).getD (numN n0 dr rest i) 0) = _; rw [e]⟩
  have hll : (upto n0 ++ rest).length = n0 + rest.length := by rw [List.length_append, upto_len]
  have hlt : ∀ i, (memB i rest || !memB i dr && Nat.blt i n0) = true → numN n0 dr rest i < n0 + rest.length := fun i hi => by
    rw [← hll]; exact (List.getElem?_eq_some_iff.1 (hget i hi)).1
  have hres : IRs.res ρ' (R.map fun q => (numN n0 dr rest q.1, renR (numN n0 dr rest) q.2)) = IRs.res ρ R := by
    unfold IRs.res
    rw [List.map_map]
    refine List.map_congr_left fun q hq => ?_
    have hbq := List.all_eq_true.1 hb2 q hq
    rw [Bool.and_eq_true] at hbq
    have hm := hbq.1
    have hbq := hbq.2
    obtain ⟨i, r⟩ := q
    cases r with
    | row t l => show Res.row (ρ'.v (numN n0 dr rest i)) t l = .row (ρ.v i) t l; rw [(hp i hm).1]
    | box T cs =>
      show Res.box (ρ'.b (numN n0 dr rest i)) T ((cs.map (renA (numN n0 dr rest) 4)).map (AVq.sub ρ')) = .box (ρ.b i) T (cs.map (AVq.sub ρ))
      rw [(hp i hm).2, List.map_map]
      congr 1
      exact List.map_congr_left fun c hc => renA_sub hp 4 (List.all_eq_true.1 hbq c hc)
  have hp2 : List.Perm (IRs.res ρ s.R) (IRs.res ρ (R ++ Rr)) := hperm.map _
  have hsim2 := hsim.perm hp2
  rw [res_app] at hsim2
  have hless := hsim2.less (List.sublist_append_left _ _)
  refine ⟨l.map fun q => (q.1, renA (numN n0 dr rest) 4 q.2), etOf_hold _, fun q hq => ?_, fun q hq => ?_, ρ', ⟨fun i hi => ?_, ?_⟩, ?_⟩
  · obtain ⟨q', h1, rfl⟩ := List.mem_map.1 hq
    exact renA_ltd hlt 4 (List.all_eq_true.1 hb1 q' h1)
  · obtain ⟨q', h1, rfl⟩ := List.mem_map.1 hq
    have hbq := List.all_eq_true.1 hb2 q' h1
    rw [Bool.and_eq_true] at hbq
    have hm := hbq.1
    have hbq := hbq.2
    refine ⟨hlt _ hm, ?_⟩
    obtain ⟨i, r⟩ := q'
    cases r with
    | row t l => trivial
    | box T cs =>
      intro c hc
      obtain ⟨c', h3, rfl⟩ := List.mem_map.1 hc
      exact renA_ltd hlt 4 (List.all_eq_true.1 hbq c' h3)
  · rw [hC] at hi
    have e : (upto n0 ++ rest).getD i 0 = i := by
      rw [List.getD_eq_getElem?_getD, List.getElem?_append_left (by rw [upto_len]; exact hi), upto_get hi]; rfl
    have := hag.1 i (by rw [hC]; exact hi)
    exact ⟨by show C.ρ.v i = ρ.v ((upto n0 ++ rest).getD i 0); rw [e]; exact this.1, by show C.ρ.b i = ρ.b ((upto n0 ++ rest).getD i 0); rw [e]; exact this.2⟩
  · rw [hC]
    show n0 ≤ n0 + rest.length
    exact Nat.le_add_right _ _
  · rw [hres]
    refine ⟨hless.defers, hless.size, fun t av ht => ?_, hless.good⟩
    have e : ∀ (l : Env), (∀ q ∈ l, idsC (fun i => memB i rest || !memB i dr && Nat.blt i n0) 4 q.2 = true) → Env.sub ρ' (l.map fun q => (q.1, renA (numN n0 dr rest) 4 q.2)) = Env.sub ρ l := fun l hl => by
      unfold Env.sub
      rw [List.map_map]
      exact List.map_congr_left fun q hq => by
        show (q.1, (renA (numN n0 dr rest) 4 q.2).sub ρ') = _
        rw [renA_sub hp 4 (hl q hq)]
    rw [e l (fun q hq => List.all_eq_true.1 hb1 q hq), Env.sub_get] at ht
    obtain ⟨d, hd, rfl⟩ := Option.map_eq_some_iff.1 ht
    rw [← hl] at hd
    exact hless.slots t _ (by rw [Env.sub_get, hh t d (liveE_get ts t d hd)]; rfl)

/-- what rd reads of the state with its names numbered afresh -/
noncomputable def rdC {γ : Type} (n0 : Nat) (dr ts : List Nat) (rd : St → Option γ) (s : St) : Option γ := (canon n0 dr ts s).bind rd
theorem rdC_ok {γ : Type} {n0 n : Nat} {dr ts : List Nat} {rd : St → Option γ} {pat : γ → St} (h : RdOk n0 n rd pat) : RdOk n0 n (rdC n0 dr ts rd) pat := fun C s p a w hC hr hm => by
  obtain ⟨s', h1, h2⟩ := Option.bind_eq_some_iff.1 hr
  exact h C s' p a w hC h2 (canon_ok hC h1 hm)

/-! ### nil slices that are owned -/

noncomputable def modN {β : Type} (f : β → β) (j : Nat) (l : List β) : List β := List.rec (fun _ => []) (fun b l ih j => match Nat.beq j 0 with
  | true => f b :: l
  | false => b :: ih (j - 1)) l j
theorem modN_map {β γ : Type} {f : β → β} {g g' : β → γ} : ∀ (l : List β) (j : Nat), (∀ b ∈ l, g (f b) = g' b) → (∀ b ∈ l, g b = g' b) → (modN f j l).map g = l.map g'
  | [], _, _, _ => rfl
  | b :: l, j, h1, h2 => by
    show (match Nat.beq j 0 with
      | true => f b :: l
      | false => b :: modN f (j - 1) l).map g = _
    split
    · rw [List.map_cons, List.map_cons, h1 b List.mem_cons_self, List.map_congr_left fun c hc => h2 c (List.mem_cons_of_mem _ hc)]
    · rw [List.map_cons, List.map_cons, h2 b List.mem_cons_self, modN_map l (j - 1) (fun c hc => h1 c (List.mem_cons_of_mem _ hc)) (fun c hc => h2 c (List.mem_cons_of_mem _ hc))]
theorem modN_mem {β : Type} {f : β → β} {p : β → Prop} : ∀ (l : List β) (j : Nat), (∀ b ∈ l, p (f b)) → (∀ b ∈ l, p b) → ∀ b ∈ modN f j l, p b
  | [], _, _, _, b, hb => by cases hb
  | c :: l, j, h1, h2, b, hb => by
    have hb : b ∈ (match Nat.beq j 0 with
      | true => f c :: l
      | false => c :: modN f (j - 1) l) := hb
    split at hb
    · rcases List.mem_cons.1 hb with rfl | hb
      · exact h1 c List.mem_cons_self
      · exact h2 b (List.mem_cons_of_mem _ hb)
    · rcases List.mem_cons.1 hb with rfl | hb
      · exact h2 b List.mem_cons_self
      · exact modN_mem l (j - 1) (fun c hc => h1 c (List.mem_cons_of_mem _ hc)) (fun c hc => h2 c (List.mem_cons_of_mem _ hc)) b hb
/-- the nil slice at path p is what nx names -/
noncomputable def ownA (nx : Nat) (p : List Nat) : AV → AV := List.rec (fun d => match d with
  | .lit (.slice none 0 0) => .own nx
  | d => d) (fun j _ ih d => match d with
  | .agg cs => .agg (modN ih j cs)
  | .tup cs => .tup (modN ih j cs)
  | d => d) p
theorem ownA_sub {ρ : Gh} {nx : Nat} : ∀ (p : List Nat) (d : AV), Ltd nx d → (ownA nx p d).sub (ρ.putV nx (.slice none 0 0)) = d.sub ρ
  | [], d, h => by
    show AVq.sub _ (match d with
      | .lit (.slice none 0 0) => .own nx
      | d => d) = _
    split
    · rw [sub_own, sub_lit]; simp [Gh.putV]
    · exact (h.sub (.putV ρ nx _)).symm
  | j :: p, d, h => by
    show AVq.sub _ (match d with
      | .agg cs => .agg (modN (ownA nx p) j cs)
      | .tup cs => .tup (modN (ownA nx p) j cs)
      | d => d) = _
    split
    · rw [sub_agg, sub_agg, modN_map _ j (fun b hb => ownA_sub p b (h.aggL b hb)) (fun b hb => ((h.aggL b hb).sub (.putV ρ nx _)).symm)]
    · rw [sub_tup, sub_tup, modN_map _ j (fun b hb => ownA_sub p b (h.tupL b hb)) (fun b hb => ((h.tupL b hb).sub (.putV ρ nx _)).symm)]
    · exact (h.sub (.putV ρ nx _)).symm
theorem ownA_ltd {nx : Nat} : ∀ (p : List Nat) (d : AV), Ltd nx d → Ltd (nx + 1) (ownA nx p d)
  | [], d, h => by
    show Ltd (nx + 1) (match d with
      | .lit (.slice none 0 0) => .own nx
      | d => d)
    split
    · exact .own _ (Nat.lt_succ_self _)
    · exact h.mono (Nat.le_succ _)
  | j :: p, d, h => by
    show Ltd (nx + 1) (match d with
      | .agg cs => .agg (modN (ownA nx p) j cs)
      | .tup cs => .tup (modN (ownA nx p) j cs)
      | d => d)
    split
    · exact .agg _ (modN_mem _ j (fun b hb => ownA_ltd p b (h.aggL b hb)) (fun b hb => (h.aggL b hb).mono (Nat.le_succ _)))
    · exact .tup _ (modN_mem _ j (fun b hb => ownA_ltd p b (h.tupL b hb)) (fun b hb => (h.tupL b hb).mono (Nat.le_succ _)))
    · exact h.mono (Nat.le_succ _)
/-- the nil slice at path p of slot t is an own row of e's -/
noncomputable def ownS (t : Nat) (p : List Nat) (e : Nat) (s : St) : St := match eget s.E t with
  | some d => ⟨eput t (ownA s.nx p d) s.E, (s.nx, .row e []) :: s.R, s.nx + 1⟩
  | none => s
/-- the nil slice at path p of cell j of box id is an own row of e's -/
noncomputable def ownC (id j : Nat) (p : List Nat) (e : Nat) (s : St) : St := match rget s.R id with
  | some (.box T cs) => ⟨s.E, (s.nx, .row e []) :: rset id (.box T (modN (ownA s.nx p) j cs)) s.R, s.nx + 1⟩
  | _ => s
theorem res_new {ρ : Gh} {R : IRs} {nx e : Nat} : IRs.res (ρ.putV nx (.slice none 0 0)) ((nx, IR.row e []) :: R) = Res.row (.slice none 0 0) e [] :: IRs.res (ρ.putV nx (.slice none 0 0)) R := by
  show Res.row ((ρ.putV nx (.slice none 0 0)).v nx) e [] :: _ = _
  simp [Gh.putV, IRs.res]
theorem ownS_ok {C : Cg} {n t e : Nat} {p : List Nat} {s : St} {a : Act} {w : World} (hm : Mt C n s a w) : Mt C n (ownS t p e s) a w := by
  unfold ownS
  split
  case h_2 => exact hm
  rename_i d hg
  obtain ⟨E, hh, hE, hR, ρ, hag, hsim⟩ := hm
  have ht := tr_own (C := C.C) none e hsim.good
  have hs := hsim.tr ht
  have hs1 : E.sub ρ = E.sub (ρ.putV s.nx (.slice none 0 0)) := hE.sub (.putV ρ s.nx _)
  have hr1 : IRs.res ρ s.R = IRs.res (ρ.putV s.nx (.slice none 0 0)) s.R := hR.res (.putV ρ s.nx _)
  have hd : Ltd s.nx d := hE _ (Env.get_mem (hh t d hg))
  refine ⟨(t, ownA s.nx p d) :: E, hh.put t _, Env.cons_ltd (hE.mono (Nat.le_succ _)) (ownA_ltd p d hd), fun q hq => ?_, ρ.putV s.nx (.slice none 0 0), ⟨hag.1.trans (.putV ρ s.nx _) hag.2, Nat.le_trans hag.2 (Nat.le_succ _)⟩, ?_⟩
  · rcases List.mem_cons.1 hq with rfl | hq
    · exact ⟨Nat.lt_succ_self _, trivial⟩
    · exact (hR.mono (Nat.le_succ _)) q hq
  · show Sim C.C n ((t, AVq.sub _ (ownA s.nx p d)) :: E.sub _) (IRs.res _ ((s.nx, IR.row e []) :: s.R)) a w
    rw [res_new, ← hr1, ← hs1, ownA_sub p d hd]
    refine ⟨hs.defers, hs.size, fun u av hu => ?_, hs.good⟩
    by_cases htu : t = u
    · subst htu
      rw [Env.get_hit] at hu
      cases hu
      exact hs.slots t _ (by rw [Env.sub_get, hh t _ hg, Option.map_some])
    · rw [Env.get_miss _ _ htu] at hu
      exact hs.slots u av hu
theorem ownC_ok {C : Cg} {n id j e : Nat} {p : List Nat} {s : St} {a : Act} {w : World} (hm : Mt C n s a w) : Mt C n (ownC id j p e s) a w := by
  unfold ownC
  split
  case h_2 => exact hm
  rename_i T cs hg
  obtain ⟨E, hh, hE, hR, ρ, hag, hsim⟩ := hm
  have ht := tr_own (C := C.C) none e hsim.good
  have hs := hsim.tr ht
  have hs1 : E.sub ρ = E.sub (ρ.putV s.nx (.slice none 0 0)) := hE.sub (.putV ρ s.nx _)
  have hr1 : IRs.res ρ s.R = IRs.res (ρ.putV s.nx (.slice none 0 0)) s.R := hR.res (.putV ρ s.nx _)
  obtain ⟨hid, hcs⟩ := rget_ltd hg hR
  have hr2 : IRs.res (ρ.putV s.nx (.slice none 0 0)) (rset id (.box T (modN (ownA s.nx p) j cs)) s.R) = IRs.res ρ s.R := by
    obtain ⟨i, h1, h2, _⟩ := rget_idx hg
    rw [h2, res_set, ← hr1]
    have e1 : IR.res (ρ.putV s.nx (.slice none 0 0)) id (.box T (modN (ownA s.nx p) j cs)) = IR.res ρ id (.box T cs) := by
      show Res.box ((ρ.putV s.nx (.slice none 0 0)).b id) T ((modN (ownA s.nx p) j cs).map (AVq.sub _)) = .box (ρ.b id) T (cs.map (AVq.sub ρ))
      rw [modN_map cs j (fun b hb => ownA_sub p b (hcs b hb)) (fun b hb => ((hcs b hb).sub (.putV ρ s.nx _)).symm)]
      rfl
    rw [e1]
    have h3 := res_get (ρ := ρ) h1
    exact List.ext_getElem? fun k => by
      by_cases hk : i = k
      · subst hk
        rw [List.getElem?_set_self (List.getElem?_eq_some_iff.1 h3).1, h3]
      · rw [List.getElem?_set_ne hk]
  refine ⟨E, hh, hE.mono (Nat.le_succ _), fun q hq => ?_, ρ.putV s.nx (.slice none 0 0), ⟨hag.1.trans (.putV ρ s.nx _) hag.2, Nat.le_trans hag.2 (Nat.le_succ _)⟩, ?_⟩
  · rcases List.mem_cons.1 hq with rfl | hq
    · exact ⟨Nat.lt_succ_self _, trivial⟩
    · refine rset_ltd hg (hR.mono (Nat.le_succ _)) ?_ q hq
      exact modN_mem cs j (fun b hb => ownA_ltd p b (hcs b hb)) (fun b hb => (hcs b hb).mono (Nat.le_succ _))
  · show Sim C.C n (E.sub _) (IRs.res _ ((s.nx, IR.row e []) :: rset id (.box T (modN (ownA s.nx p) j cs)) s.R)) a w
    rw [res_new, hr2, ← hs1]
    exact hs
/-- the row named at path p -/
noncomputable def atA (p : List Nat) : AV → Option Nat := List.rec (fun d => match d with
  | .own i => some i
  | _ => none) (fun j _ ih d => match d with
  | .agg cs => (cs[j]?).bind ih
  | .tup cs => (cs[j]?).bind ih
  | _ => none) p
/-- the row at path p of slot t becomes data -/
noncomputable def frzS (t : Nat) (p : List Nat) (s : St) : St := match eget s.E t with
  | some d => match atA p d with
    | some i => s.frz i
    | none => s
  | none => s
/-- the row at path p of cell j of box id becomes data -/
noncomputable def frzC (id j : Nat) (p : List Nat) (s : St) : St := match rget s.R id with
  | some (.box _ cs) => match (cs[j]?).bind (atA p) with
    | some i => s.frz i
    | none => s
  | _ => s
/-- what rd reads of a state that f has turned -/
def rdF {γ : Type} (f : St → St) (rd : St → Option γ) (s : St) : Option γ := rd (f s)
def TurnOk (f : St → St) : Prop := ∀ (C : Cg) n s a w, Mt C n s a w → Mt C n (f s) a w
theorem TurnOk.s (t : Nat) (p : List Nat) (e : Nat) : TurnOk (ownS t p e) := fun _ _ _ _ _ h => ownS_ok h
theorem TurnOk.c (id j : Nat) (p : List Nat) (e : Nat) : TurnOk (ownC id j p e) := fun _ _ _ _ _ h => ownC_ok h
theorem TurnOk.frz (id : Nat) : TurnOk (fun s => s.frz id) := fun _ _ _ _ _ h => h.frz id
theorem TurnOk.fs (t : Nat) (p : List Nat) : TurnOk (frzS t p) := fun _ _ _ _ _ h => by
  unfold frzS
  split
  · split
    · exact h.frz _
    · exact h
  · exact h
theorem TurnOk.fc (id j : Nat) (p : List Nat) : TurnOk (frzC id j p) := fun _ _ _ _ _ h => by
  unfold frzC
  split
  · split
    · exact h.frz _
    · exact h
  · exact h
theorem rdF_ok {γ : Type} {n0 n : Nat} {f : St → St} {rd : St → Option γ} {pat : γ → St} (hf : TurnOk f) (h : RdOk n0 n rd pat) : RdOk n0 n (rdF f rd) pat := fun C s p a w hC hr hm => h C (f s) p a w hC hr (hf C n s a w hm)
end Go.Iv
end
section
set_option linter.unusedSectionVars false
set_option linter.unusedVariables false
set_option linter.unusedSimpArgs false
namespace Go.Iv
variable [U : Uni] [L : UniL]
open Go Go.RowKit

/-! ### what a function is not handed lies beside -/

section
variable {P : Program} {f : FuncId} {args : List AV} {σp σr : List Res} {Φ : AV → List Res → Prop}
theorem good_start {σ : List Res} {w : World} {A : Nat → Prop} (hd : Hd A σ w) (hnd : (blks σ).Nodup) : Good ⟨w, A, blks σ⟩ σ w :=
  have hal : ∀ b, A b → al ⟨w, A, blks σ⟩ σ b := fun b hA => ⟨.inl hA, fun hx => hd.2 b hx hA⟩
  ⟨Kp.refl _ _, fun r hr => (hd.1 r hr).mono (fun b _ hA => ⟨hal b hA, rfl⟩) (fun _ _ => rfl), hnd, fun b hb => .inl hb⟩
theorem tr_widen {σ σ' : List Res} {X : List Nat} {C : Cx} {w w' : World} (h : Tr C X σ w σ' w') (hX : ∀ b ∈ X, b ∈ blks σ) : Tr C (blks σ) σ w σ' w' :=
  ⟨h.good, ⟨h.kp.os, h.kp.tape, h.kp.output, h.kp.size, fun k hk hn => h.kp.block k hk fun hx => hn (hX k hx)⟩, fun b hb hA => ⟨(h.al b hb hA).1, hA.2⟩⟩
theorem Fn.besides (h : Fn P f args σp Φ) : Fn P f args (σp ++ σr) (fun a s => ∃ so, Φ a so ∧ s = so ++ σr) := fun w A vs hrel hd0 hnd0 => by
  have hg := good_start hd0 hnd0
  generalize hC : (⟨w, A, blks (σp ++ σr)⟩ : Cx) = C at hg ⊢
  have hdis := hg.dis
  rw [blks_app] at hdis
  obtain ⟨d1, d2, d3⟩ := List.nodup_append.1 hdis
  have hlt : ∀ b ∈ blks (σp ++ σr), b < w.heap.size := fun b hb => by
    obtain ⟨s, h1, h2⟩ := mem_blks.1 hb
    exact (hg.res s h1).lt h2
  have hal0 : ∀ b, A b → al C (σp ++ σr) b := fun b hA => by
    subst hC; exact ⟨.inl hA, fun hx => hd0.2 b hx hA⟩
  have hd : Hd (al C (σp ++ σr)) σp w := ⟨fun r hr => hg.res r (List.mem_append_left _ hr), fun b hb hA => hA.2 (blks_mem_app.2 (.inl hb))⟩
  refine (h w (al C (σp ++ σr)) vs (hrel.mono fun b _ hA => ⟨hal0 b hA, rfl⟩) hd d1).mono fun e w' ⟨v, av, σo, q1, q2, q3, q4⟩ => ?_
  have hown : ∀ b ∈ blks σo, b ∈ blks σp ∨ w.heap.size ≤ b := q3.good.own
  have hsub : ∀ b, al ⟨w, al C (σp ++ σr), blks σp⟩ σo b → al C (σo ++ σr) b := fun b hb => by
    obtain ⟨hb1, hb2⟩ := hb
    rcases hb1 with hb1 | hb1 | hb1
    · exact ⟨hb1.1, fun hx => (blks_mem_app.1 hx).elim hb2 (fun h => hb1.2 (blks_mem_app.2 (.inr h)))⟩
    · have hbp : b ∈ blks σp := hb1
      refine ⟨?_, fun hx => (blks_mem_app.1 hx).elim hb2 (fun h => d3 b hbp b h rfl)⟩
      rcases hg.own b (blks_mem_app.2 (.inl hbp)) with h | h
      · exact .inr (.inl h)
      · exact .inr (.inr h)
    · have hbw : w.heap.size ≤ b := hb1
      exact ⟨.inr (.inr (Nat.le_trans hg.kept.size hbw)), fun hx => (blks_mem_app.1 hx).elim hb2 (fun h => by have := hlt b (blks_mem_app.2 (.inr h)); omega)⟩
  have ht := tr_call hg (fun b hA _ => .inl hA) q3 (fun r hr => (q3.good.res r hr).mono (fun b hb hA => ⟨hsub b hA, rfl⟩) (fun _ _ => rfl))
  exact ⟨v, av, σo ++ σr, q1, ⟨σo, q2, rfl⟩, tr_widen ht (fun b hb => blks_mem_app.2 (.inl hb)), q4.mono fun b hb hA => ⟨hsub b hA, rfl⟩⟩
/-- Own slices lent as0 data: what comes back has no data in it. -/
theorem Fn.lent {args' : List AV} {σr : List Res} (h : Fn P f args' [] Φ) (hv : ∀ (A : Nat → Prop) (w : World) (us : List Value), Hd A σr w → RelL A w args us → RelL (fun b => A b ∨ b ∈ blks σr) w args' us)
    (hc : ∀ av σo, Φ av σo → Cl av ∧ ∀ r ∈ σo, ClR r) : Fn P f args σr (fun a s => ∃ so, Φ a so ∧ s = so ++ σr) := fun w A vs hrel hd0 hnd0 => by
  have hg := good_start hd0 hnd0
  generalize hC : (⟨w, A, blks σr⟩ : Cx) = C at hg ⊢
  have hal0 : ∀ b, A b → al C σr b := fun b hA => by
    subst hC; exact ⟨.inl hA, fun hx => hd0.2 b hx hA⟩
  have h3 := hv (al C σr) w vs hg.hd (hrel.mono fun b _ hA => ⟨hal0 b hA, rfl⟩)
  refine (h w _ vs h3 ⟨fun r hr => (by cases hr), fun b hb => (by cases hb)⟩ List.nodup_nil).mono fun e w' ⟨v, av, σo, q1, q2, q3, q4⟩ => ?_
  obtain ⟨c1, c2⟩ := hc av σo q2
  have ht := tr_call (σp := []) (σr := σr) hg (fun b hA _ => hA) q3 (fun r hr => c2 r hr _ _ w' (q3.good.res r hr))
  exact ⟨v, av, σo ++ σr, q1, ⟨σo, q2, rfl⟩, tr_widen (σ := σr) ht (fun b hb => by cases hb), c1 _ _ w' v q4⟩
end

/-! ### closed, and lent -/

/-- no names stand in it -/
noncomputable def cloC (n : Nat) : AV → Bool := idsC (fun _ => false) n
theorem cloC_sub (n : Nat) {d : AV} (h : cloC n d = true) (ρ : Gh) : d.sub ρ = d := by
  have h1 := idsC_ok n h
  have key : ∀ (d : AV), Lts (fun i => false = true) d → d.sub ρ = d := fun d h => by
    have keyL : ∀ cs : List AV, (∀ c ∈ cs, c.sub ρ = c) → cs.map (AVq.sub ρ) = cs := fun cs h => by
      have : cs.map (AVq.sub ρ) = cs.map id := List.map_congr_left h
      rw [this, List.map_id]
    induction h with
    | lit v => simp only [AVq.sub]
    | sl t l => simp only [AVq.sub]
    | fp cs _ ih => simp only [AVq.sub]; rw [keyL cs ih]
    | rp v k => simp only [AVq.sub]
    | agg cs _ ih => simp only [AVq.sub]; rw [keyL cs ih]
    | tup cs _ ih => simp only [AVq.sub]; rw [keyL cs ih]
    | fn f cs _ ih => simp only [AVq.sub]; rw [keyL cs ih]
    | own id h => cases h
    | ptr id off h => cases h
    | ra id t m off h => cases h
  exact key d h1
theorem cloC_ltd (n : Nat) {d : AV} (h : cloC n d = true) (m : Nat) : Ltd m d := (idsC_ok n h).mono fun _ h => by cases h

theorem fpInv {A : Nat → Prop} {w : World} {cs : List AV} {v : Value} (h : Rel A w (.fp cs) v) : ∃ (b o : Nat) (us : List Value), v = .pointer (some ⟨b, o, none⟩) ∧ b < w.heap.size ∧ A b ∧ (∀ j v, us[j]? = some v → w.cell? ⟨b, o + j, none⟩ = some v) ∧ RelL A w cs us := by
  generalize ha : AVq.fp cs = a at h
  cases h with
  | fp cs' b o us hb hA hl hc hr => cases ha; exact ⟨b, o, us, rfl, hb, hA, hc, hl, hr⟩
  | _ => cases ha

/-- rows owned by the caller are data to the called; so are its variables, if lb -/
noncomputable def lendC (lb : Bool) (rd : Nat → Option IR) (n : Nat) : AV → AV := Nat.rec (fun d => match d with
  | .own id => match rd id with
    | some (.row t l) => .sl t l
    | _ => .own id
  | d => d) (fun _ ih d => match d with
  | .own id => match rd id with
    | some (.row t l) => .sl t l
    | _ => .own id
  | .ptr id 0 => match lb with
    | true => match rd id with
      | some (.box _ cs) => .fp (cs.map ih)
      | _ => .ptr id 0
    | false => .ptr id 0
  | .agg cs => .agg (cs.map ih)
  | .fn f cs => .fn f (cs.map ih)
  | d => d) n
theorem lend_box {R : IRs} {ρ : Gh} {A : Nat → Prop} {w : World} {v : Value} {id T : Nat} {cs : List AV} (hd : Hd A (IRs.res ρ R) w) (hg : rget R id = some (.box T cs)) (hr : Rel A w ((AVq.ptr (Dat := U.Dat) id 0).sub ρ) v) :
    Rel (fun b => A b ∨ b ∈ blks (IRs.res ρ R)) w (.fp (cs.map (AVq.sub ρ))) v := by
  obtain ⟨i, hi, _⟩ := rget_idx hg
  have hres := res_get (ρ := ρ) hi
  rw [sub_ptr] at hr
  exact Vw.box i hres A w v hd hr
theorem lendC_rel {lb : Bool} {R : IRs} {ρ : Gh} {A : Nat → Prop} {w : World} (hd : Hd A (IRs.res ρ R) w) : ∀ (n : Nat) {d : AV} {v : Value}, Rel (fun b => A b ∨ b ∈ blks (IRs.res ρ R)) w (d.sub ρ) v → Rel (fun b => A b ∨ b ∈ blks (IRs.res ρ R)) w ((lendC lb (rget R) n d).sub ρ) v := by
  have hown : ∀ {id : Nat} {v : Value}, Rel (fun b => A b ∨ b ∈ blks (IRs.res ρ R)) w ((AVq.own (Dat := U.Dat) id).sub ρ) v → Rel (fun b => A b ∨ b ∈ blks (IRs.res ρ R)) w ((match rget R id with
    | some (.row t l) => AVq.sl t l
    | _ => .own id).sub ρ) v := fun {id v} h => by
    rw [sub_own] at h
    rw [h.litEq]
    exact lend_own hd (by rw [sub_own]; exact .lit _)
  intro n
  induction n with
  | zero =>
    intro d v h
    cases d <;> first | exact h | exact hown h
  | succ n ih =>
    have hL : ∀ {cs : List AV} {us : List Value}, RelL (fun b => A b ∨ b ∈ blks (IRs.res ρ R)) w (cs.map (AVq.sub ρ)) us → RelL (fun b => A b ∨ b ∈ blks (IRs.res ρ R)) w ((cs.map (lendC lb (rget R) n)).map (AVq.sub ρ)) us := fun {cs us} h =>
      ⟨by simpa using h.1, fun j a u q1 q2 => by
        rw [List.map_map, List.getElem?_map] at q1
        obtain ⟨c, hc, rfl⟩ := Option.map_eq_some_iff.1 q1
        exact ih (h.2 j _ u (by rw [List.getElem?_map, hc]; rfl) q2)⟩
    intro d v h
    cases d with
    | own id => exact hown h
    | agg cs =>
      show Rel _ w ((AVq.agg (cs.map (lendC lb (rget R) n))).sub ρ) v
      rw [sub_agg] at h ⊢
      obtain ⟨us, rfl, h2⟩ := h.aggInv
      exact Rel.aggL (hL h2)
    | fn f cs =>
      show Rel _ w ((AVq.fn f (cs.map (lendC lb (rget R) n))).sub ρ) v
      rw [sub_fn] at h ⊢
      obtain ⟨us, rfl, h2⟩ := h.fnInv
      have h3 := hL h2
      exact .fn f _ us h3.1 h3.2
    | ptr id off =>
      cases off with
      | succ o => exact h
      | zero =>
        cases lb with
        | false => exact h
        | true =>
          show Rel _ w (AVq.sub ρ (match rget R id with
            | some (.box _ cs) => .fp (cs.map (lendC true (rget R) n))
            | _ => .ptr id 0)) v
          split
          · rename_i T cs hg
            have h0 : Rel A w ((AVq.ptr (Dat := U.Dat) id 0).sub ρ) v := by
              rw [sub_ptr] at h ⊢
              rw [h.litEq]; exact .lit _
            obtain ⟨b, o, us, rfl, q1, q2, q3, q4⟩ := fpInv (lend_box hd hg h0)
            rw [sub_fp]
            have q5 := hL q4
            exact .fp _ b o us q1 q2 q5.1 q3 q5.2
          · exact h
    | _ => exact h

/-! ### entries -/

/-- the names below n0 are l's, the others are moved up to nx -/
noncomputable def backN (l : List Nat) (n0 nx : Nat) (i : Nat) : Nat := match Nat.blt i n0 with
  | true => l.getD i 0
  | false => nx + (i - n0)
noncomputable def Out.okB (n0 : Nat) (x : Out) : Bool := Nat.ble n0 x.c && idsC (fun i => Nat.blt i x.c) 4 x.d && x.R.all fun q => Nat.blt q.1 x.c && match q.2 with
  | .box _ cs => cs.all (idsC (fun i => Nat.blt i x.c) 4)
  | .row _ _ => true
noncomputable def entY3 {α γ β : Type} (q : List AV → IRs → Option γ) (t : γ → Option β) (out : β → Out) (n0 : Nat) (args : List AV) (nx : Nat) (k : AV → IRs → Nat → Option α) (F : Option α) (Rp Rr : IRs) (ns : List Nat) : Option α :=
  match Nat.beq Rp.length n0 && args.all (idsC (fun i => memB i ns) 4) && Rp.all (fun q => match q.2 with
    | .box _ cs => cs.all (idsC (fun i => memB i ns) 4)
    | .row _ _ => true) with
  | true => match q (args.map (renA (posN ns) 4)) (Rp.map fun q => (posN ns q.1, renR (posN ns) q.2)) with
    | some g => match t g with
      | some b => k (renA (backN ns n0 nx) 4 (out b).d) ((out b).R.map (fun q => (backN ns n0 nx q.1, renR (backN ns n0 nx) q.2)) ++ Rr) (nx + ((out b).c - n0))
      | none => none
    | none => F
  | false => F
noncomputable def entY2 {α γ β : Type} (q : List AV → IRs → Option γ) (t : γ → Option β) (out : β → Out) (n0 : Nat) (args : List AV) (nx : Nat) (k : AV → IRs → Nat → Option α) (F : Option α) (R2 : IRs × IRs) : Option α :=
  entY3 q t out n0 args nx k F R2.1 R2.2 (R2.1.map fun q => q.1)
/-- What is known of a function: from arguments and n0 things handed over that q reads, it comes to what t says, laid out as0 out says. -/
noncomputable def orY {γ β : Type} (f0 n0 : Nat) (q : List AV → IRs → Option γ) (t : γ → Option β) (out : β → Out) (F : Orc) : Orc := fun _ f args R nx k => match Nat.beq f f0 with
  | true => entY2 q t out n0 args nx k (F _ f args R nx k) (picks (reach R 3 (args.flatMap (idsN 4))) R)
  | false => F _ f args R nx k
/-- q reads arguments and what is handed over, and ca, cr are the same -/
def QY {γ : Type} (q : List AV → IRs → Option γ) (ca : γ → List AV) (cr : γ → IRs) : Prop := ∀ xs R g, q xs R = some g → (∀ (ρ : Gh) A w us, RelL A w (xs.map (AVq.sub ρ)) us → RelL A w ((ca g).map (AVq.sub ρ)) us) ∧ LeRs R (cr g)
theorem posN_lt {l : List Nat} {i : Nat} (h : i ∈ l) : posN l i < l.length := (List.getElem?_eq_some_iff.1 (posN_get h)).1

theorem Fn.pre {P : Program} {f : FuncId} {args args' : List AV} {R R' : IRs} {ρ : Gh} {Φ : AV → List Res → Prop} (h : Fn P f args' (IRs.res ρ R') Φ) (ha : ∀ A w us, RelL A w args us → RelL A w args' us) (hr : LeRs R R') : Fn P f args (IRs.res ρ R) Φ := fun w A vs h1 h2 h3 => by
  have hb : blks (IRs.res ρ R) = blks (IRs.res ρ R') := leR_blks hr
  rw [hb]
  refine (h w A vs (ha A w vs h1) ⟨leR_ok hr h2.1, fun b hb' => h2.2 b (by rw [hb]; exact hb')⟩ (by rw [← hb]; exact h3)).mono fun e w' ⟨v, av, σ', q1, q2, q3, q4⟩ => ⟨v, av, σ', q1, q2, ⟨q3.good, q3.kp, fun b hb' hA => ?_⟩, q4⟩
  refine q3.al b hb' ⟨hA.1, ?_⟩
  rw [← hb]; exact hA.2

theorem orY_ok {P : Program} {F : Orc} {γ β : Type} {f0 n0 : Nat} {q : List AV → IRs → Option γ} {ca : γ → List AV} {cr : γ → IRs} {t : γ → Option β} {out : β → Out} (hF : OrcOk P F) (hf : fnOk P f0) (hq : QY q ca cr) (hm : ∀ b, (out b).okB n0 = true)
    (h : ∀ g b, t g = some b → FnY P f0 (ca g) (cr g) n0 (out b)) : OrcOk P (orY f0 n0 q t out F) := fun α f args R nx k r hr hargs hR => by
  unfold orY at hr
  split at hr
  case h_2 => exact hF α f args R nx k r hr hargs hR
  rename_i hb
  have hb := beqT hb
  subst hb
  unfold entY2 at hr
  generalize hR2 : picks (reach R 3 (args.flatMap (idsN 4))) R = R2 at hr
  have hperm : List.Perm R (R2.1 ++ R2.2) := by rw [← hR2]; exact picks_perm _ _
  obtain ⟨Rp, Rr⟩ := R2
  dsimp only at hr hperm
  generalize hns : (Rp.map fun q => q.1) = ns at hr
  unfold entY3 at hr
  split at hr
  case h_2 => exact hF α f args R nx k r hr hargs hR
  rename_i hchk
  rw [Bool.and_eq_true, Bool.and_eq_true] at hchk
  obtain ⟨⟨hc0, hc1⟩, hc2⟩ := hchk
  have hc0 := beqT hc0
  split at hr
  case h_2 => exact hF α f args R nx k r hr hargs hR
  rename_i g hg
  split at hr
  case h_2 => cases hr
  rename_i b hb
  have hlen : ns.length = n0 := by rw [← hns, List.length_map, hc0]
  have hRs : ∀ p ∈ Rp ++ Rr, p.1 < nx ∧ p.2.Ltd nx := fun p hp => hR p (hperm.mem_iff.2 hp)
  have hnsl : ∀ i ∈ ns, i < nx := fun i hi => by
    rw [← hns] at hi
    obtain ⟨p, hp, rfl⟩ := List.mem_map.1 hi
    exact (hRs p (List.mem_append_left _ hp)).1
  obtain ⟨hqa, hqr⟩ := hq _ _ g hg
  have hok := hm b
  unfold Out.okB at hok
  rw [Bool.and_eq_true, Bool.and_eq_true] at hok
  obtain ⟨⟨ho0, ho1⟩, ho2⟩ := hok
  have ho0 : n0 ≤ (out b).c := by simpa using ho0
  refine ⟨hf, fun ρ => ?_⟩
  let ρ0 : Gh := ⟨fun j => ρ.v (ns.getD j 0), fun j => ρ.b (ns.getD j 0)⟩
  have hp : ∀ i, memB i ns = true → ρ0.v (posN ns i) = ρ.v i ∧ ρ0.b (posN ns i) = ρ.b i := fun i hi => by
    have := posN_get (memB_iff.1 hi)
    have e : ns.getD (posN ns i) 0 = i := by rw [List.getD_eq_getElem?_getD, this]; rfl
    exact ⟨by show ρ.v (ns.getD (posN ns i) 0) = _; rw [e], by show ρ.b (ns.getD (posN ns i) 0) = _; rw [e]⟩
  have ea : (args.map (renA (posN ns) 4)).map (AVq.sub ρ0) = args.map (AVq.sub ρ) := by
    rw [List.map_map]
    exact List.map_congr_left fun c hc => renA_sub hp 4 (List.all_eq_true.1 hc1 c hc)
  have er : IRs.res ρ0 (Rp.map fun q => (posN ns q.1, renR (posN ns) q.2)) = IRs.res ρ Rp := by
    unfold IRs.res
    rw [List.map_map]
    refine List.map_congr_left fun q hq => ?_
    have hm : memB q.1 ns = true := memB_iff.2 (by rw [← hns]; exact List.mem_map.2 ⟨q, hq, rfl⟩)
    have hbq := List.all_eq_true.1 hc2 q hq
    obtain ⟨i, rr⟩ := q
    cases rr with
    | row t l => show Res.row (ρ0.v (posN ns i)) t l = .row (ρ.v i) t l; rw [(hp i hm).1]
    | box T cs =>
      show Res.box (ρ0.b (posN ns i)) T ((cs.map (renA (posN ns) 4)).map (AVq.sub ρ0)) = .box (ρ.b i) T (cs.map (AVq.sub ρ))
      rw [(hp i hm).2, List.map_map]
      congr 1
      exact List.map_congr_left fun c hc => renA_sub hp 4 (List.all_eq_true.1 hbq c hc)
  have h1 := Fn.pre (h g b hb ρ0) (hqa ρ0) hqr
  rw [ea, er] at h1
  have h2 := Fn.besides (σr := IRs.res ρ Rr) h1
  rw [← res_app] at h2
  have hp2 : List.Perm (IRs.res ρ R) (IRs.res ρ (Rp ++ Rr)) := hperm.map _
  -- the same under the caller's order
  have h3 : Fn P f (args.map (AVq.sub ρ)) (IRs.res ρ R) (fun a s => ∃ so, (∃ ρ' : Gh, Agr n0 ρ0 ρ' ∧ a = (out b).d.sub ρ' ∧ List.Perm so (IRs.res ρ' (out b).R)) ∧ s = so ++ IRs.res ρ Rr) := fun w A vs q1 q2 q3 => by
    have hbm : ∀ x, x ∈ blks (IRs.res ρ (Rp ++ Rr)) ↔ x ∈ blks (IRs.res ρ R) := fun x => (hp2.symm.filterMap _).mem_iff
    refine (h2 w A vs q1 ⟨fun r hr => q2.1 r (hp2.mem_iff.2 hr), fun x hx => q2.2 x ((hbm x).1 hx)⟩ ((hp2.filterMap _).nodup_iff.1 q3)).mono fun e w' ⟨v, av, σ', g1, g2, g3, g4⟩ => ?_
    have hal : ∀ s x, al ⟨w, A, blks (IRs.res ρ (Rp ++ Rr))⟩ s x → al ⟨w, A, blks (IRs.res ρ R)⟩ s x := fun s x hx => ⟨hx.1.imp id (Or.imp (fun h => (hbm x).1 h) id), hx.2⟩
    refine ⟨v, av, σ', g1, g2, ⟨⟨⟨g3.kp.os, g3.kp.tape, g3.kp.output, g3.kp.size, fun k hk hn => g3.kp.block k hk fun hx => hn ((hbm k).1 hx)⟩, fun rr hrr => (g3.good.res rr hrr).mono (fun x _ hA => ⟨hal _ x hA, rfl⟩) (fun _ _ => rfl), g3.good.dis, fun x hx => (g3.good.own x hx).imp (fun h => (hbm x).1 h) id⟩, ⟨g3.kp.os, g3.kp.tape, g3.kp.output, g3.kp.size, fun k hk hn => g3.kp.block k hk fun hx => hn ((hbm k).1 hx)⟩, fun x hx hA => ?_⟩, g4.mono fun x _ hA => ⟨hal _ x hA, rfl⟩⟩
    have hA' : al ⟨w, A, blks (IRs.res ρ (Rp ++ Rr))⟩ (IRs.res ρ (Rp ++ Rr)) x := ⟨hA.1.imp id (Or.imp (fun h => (hbm x).2 h) id), fun h => hA.2 ((hbm x).1 h)⟩
    exact ⟨hal _ x (g3.al x hx hA').1, fun h => hA.2 h⟩
  refine Fn.mono h3 fun a s ⟨so, ⟨ρ1, g0, g1, g2⟩, g3⟩ => ?_
  let ρ2 : Gh := ⟨fun i => if i < nx then ρ.v i else ρ1.v (n0 + (i - nx)), fun i => if i < nx then ρ.b i else ρ1.b (n0 + (i - nx))⟩
  have hag : Agr nx ρ ρ2 := fun i hi => ⟨by simp only [ρ2, if_pos hi], by simp only [ρ2, if_pos hi]⟩
  have hb2 : ∀ i, Nat.blt i (out b).c = true → (ρ2.v (backN ns n0 nx i) = ρ1.v i ∧ ρ2.b (backN ns n0 nx i) = ρ1.b i) ∧ backN ns n0 nx i < nx + ((out b).c - n0) := fun i hi => by
    have hi : i < (out b).c := by simpa [Nat.blt_eq] using hi
    unfold backN
    split
    · rename_i hlt
      have hlt : i < n0 := by simpa [Nat.blt_eq] using hlt
      obtain ⟨e1, e2⟩ := g0 i hlt
      have hlt2 : i < ns.length := by rw [hlen]; exact hlt
      have hmem : ns.getD i 0 ∈ ns := by rw [List.getD_eq_getElem?_getD, List.getElem?_eq_getElem hlt2]; exact List.getElem_mem hlt2
      have h4 := hnsl _ hmem
      refine ⟨⟨?_, ?_⟩, by omega⟩
      · show (if ns.getD i 0 < nx then ρ.v (ns.getD i 0) else _) = _
        rw [if_pos h4]; exact e1
      · show (if ns.getD i 0 < nx then ρ.b (ns.getD i 0) else _) = _
        rw [if_pos h4]; exact e2
    · rename_i hlt
      have hlt : ¬ i < n0 := by
        intro hx
        have : Nat.blt i n0 = true := by rw [Nat.blt_eq]; exact hx
        rw [this] at hlt; cases hlt
      have h5 : ¬ nx + (i - n0) < nx := by omega
      have h6 : n0 + (nx + (i - n0) - nx) = i := by omega
      refine ⟨⟨?_, ?_⟩, by omega⟩
      · show (if nx + (i - n0) < nx then _ else ρ1.v (n0 + (nx + (i - n0) - nx))) = _
        rw [if_neg h5, h6]
      · show (if nx + (i - n0) < nx then _ else ρ1.b (n0 + (nx + (i - n0) - nx))) = _
        rw [if_neg h5, h6]
  have hres : IRs.res ρ2 ((out b).R.map fun q => (backN ns n0 nx q.1, renR (backN ns n0 nx) q.2)) = IRs.res ρ1 (out b).R := by
    unfold IRs.res
    rw [List.map_map]
    refine List.map_congr_left fun q hq => ?_
    have hbq := List.all_eq_true.1 ho2 q hq
    rw [Bool.and_eq_true] at hbq
    obtain ⟨i, rr⟩ := q
    cases rr with
    | row t l => show Res.row (ρ2.v (backN ns n0 nx i)) t l = .row (ρ1.v i) t l; rw [(hb2 i hbq.1).1.1]
    | box T cs =>
      show Res.box (ρ2.b (backN ns n0 nx i)) T ((cs.map (renA (backN ns n0 nx) 4)).map (AVq.sub ρ2)) = .box (ρ1.b i) T (cs.map (AVq.sub ρ1))
      rw [(hb2 i hbq.1).1.2, List.map_map]
      congr 1
      exact List.map_congr_left fun c hc => renA_sub (fun i hi => (hb2 i hi).1) 4 (List.all_eq_true.1 hbq.2 c hc)
  refine ⟨_, _, _, hr, by omega, renA_ltd (fun i hi => (hb2 i hi).2) 4 ho1, fun q hq => ?_, ρ2, hag, ?_, ?_⟩
  · rcases List.mem_append.1 hq with hq | hq
    · obtain ⟨q', h4, rfl⟩ := List.mem_map.1 hq
      have hbq := List.all_eq_true.1 ho2 q' h4
      rw [Bool.and_eq_true] at hbq
      refine ⟨(hb2 _ hbq.1).2, ?_⟩
      obtain ⟨i, rr⟩ := q'
      cases rr with
      | row t l => trivial
      | box T cs =>
        intro c hc
        obtain ⟨c', h5, rfl⟩ := List.mem_map.1 hc
        exact renA_ltd (fun i hi => (hb2 i hi).2) 4 (List.all_eq_true.1 hbq.2 c' h5)
    · have := hRs q (List.mem_append_right _ hq)
      exact ⟨by omega, this.2.mono (by omega)⟩
  · rw [g1]; exact (renA_sub (fun i hi => (hb2 i hi).1) 4 ho1).symm
  · rw [g3, res_app, hres, ← IRs.Ltd.res (R := Rr) (fun q hq => hRs q (List.mem_append_right _ hq)) hag]
    exact g2.append_right _

/-! ### entries that are lent what the caller owns -/

/-- no data in it -/
noncomputable def scD (n : Nat) : AV → Bool := Nat.rec (fun d => match d with
  | .lit _ => true
  | .own _ => true
  | .ptr _ _ => true
  | _ => false) (fun _ ih d => match d with
  | .lit _ => true
  | .own _ => true
  | .ptr _ _ => true
  | .agg cs => cs.all ih
  | .tup cs => cs.all ih
  | _ => false) n
theorem scD_cl {ρ : Gh} : ∀ (n : Nat) {d : AV}, scD n d = true → Cl (d.sub ρ) := fun n => by
  induction n with
  | zero =>
    intro d h
    cases d <;> first | (cases h; done) | (rw [sub_lit]; exact .lit _) | (rw [sub_own]; exact .lit _) | (rw [sub_ptr]; exact .lit _)
  | succ n ih =>
    have hL : ∀ {cs : List AV}, cs.all (scD n) = true → ClL (cs.map (AVq.sub ρ)) := fun {cs} h => by
      induction cs with
      | nil => exact .nil
      | cons c cs ihc =>
        rw [List.all_cons, Bool.and_eq_true] at h
        exact .cons (ih h.1) (ihc h.2)
    intro d h
    cases d <;> first | (cases h; done) | (rw [sub_lit]; exact .lit _) | (rw [sub_own]; exact .lit _) | (rw [sub_ptr]; exact .lit _) | skip
    · rw [sub_agg]; exact .agg (hL h)
    · rw [sub_tup]; exact .tup (hL h)
theorem scD_clL {n : Nat} {ρ : Gh} : ∀ cs : List AV, cs.all (scD n) = true → ClL (cs.map (AVq.sub ρ))
  | [], _ => .nil
  | c :: cs, h => by
    rw [List.all_cons, Bool.and_eq_true] at h
    exact .cons (scD_cl n h.1) (scD_clL cs h.2)
/-- no data in the answer: sc tells of which types no element has data in it -/
noncomputable def Out.scB (sc : Nat → Bool) (x : Out) : Bool := scD 4 x.d && x.R.all fun q => match q.2 with
  | .row t _ => sc t
  | .box _ cs => cs.all (scD 3)
theorem scB_clr {sc : Nat → Bool} (hsc : ∀ t, sc t = true → ∀ x, ClL (U.cells t x)) {x : Out} (h : x.scB sc = true) (ρ : Gh) : Cl (x.d.sub ρ) ∧ ∀ r ∈ IRs.res ρ x.R, ClR r := by
  unfold Out.scB at h
  rw [Bool.and_eq_true] at h
  refine ⟨scD_cl 4 h.1, fun r hr => ?_⟩
  obtain ⟨q, hq, rfl⟩ := List.mem_map.1 hr
  have hb := List.all_eq_true.1 h.2 q hq
  obtain ⟨i, rr⟩ := q
  cases rr with
  | row t l => exact ClR.row (hsc t hb)
  | box T cs =>
    exact ClR.box (scD_clL cs hb)

noncomputable def entL2 {α γ β : Type} (q : List AV → Option γ) (t : γ → Option β) (out : β → Out) (args : List AV) (R : IRs) (nx : Nat) (k : AV → IRs → Nat → Option α) (F : Option α) : Option α :=
  match args.all (cloC 4) with
  | true => match q args with
    | some g => match t g with
      | some b => k (renA (fun i => i + nx) 4 (out b).d) ((out b).R.map (fun q => (q.1 + nx, renR (fun i => i + nx) q.2)) ++ R) ((out b).c + nx)
      | none => none
    | none => F
  | false => F
/-- the same, lent what the caller owns; there is no data in the answer -/
noncomputable def orL {γ β : Type} (f0 : Nat) (lb : Bool) (q : List AV → Option γ) (t : γ → Option β) (out : β → Out) (F : Orc) : Orc := fun _ f args R nx k => match Nat.beq f f0 with
  | true => entL2 q t out (args.map (lendC lb (rget R) 3)) R nx k (F _ f args R nx k)
  | false => F _ f args R nx k
theorem orL_ok {P : Program} {F : Orc} {γ β : Type} {f0 : Nat} {lb : Bool} {q : List AV → Option γ} {ca : γ → List AV} {t : γ → Option β} {out : β → Out} {sc : Nat → Bool} (hF : OrcOk P F) (hsc : ∀ t, sc t = true → ∀ x, ClL (U.cells t x)) (hf : fnOk P f0) (hq : PkN q ca) (hm : ∀ b, (out b).okB 0 = true) (hs : ∀ b, (out b).scB sc = true)
    (h : ∀ g b, t g = some b → FnY P f0 (ca g) [] 0 (out b)) : OrcOk P (orL f0 lb q t out F) := fun α f args R nx k r hr hargs hR => by
  unfold orL at hr
  split at hr
  case h_2 => exact hF α f args R nx k r hr hargs hR
  rename_i hb
  have hb := beqT hb
  subst hb
  unfold entL2 at hr
  split at hr
  case h_2 => exact hF α f args R nx k r hr hargs hR
  rename_i hcl
  split at hr
  case h_2 => exact hF α f args R nx k r hr hargs hR
  rename_i g hg
  split at hr
  case h_2 => cases hr
  rename_i b hb
  obtain ⟨hqa, _⟩ := hq _ g hg
  have hok := hm b
  unfold Out.okB at hok
  rw [Bool.and_eq_true, Bool.and_eq_true] at hok
  obtain ⟨⟨_, ho1⟩, ho2⟩ := hok
  refine ⟨hf, fun ρ => ?_⟩
  have h1 : Fn P f ((ca g).map (AVq.sub ρ)) [] _ := h g b hb ρ
  have h2 := Fn.lent (args := args.map (AVq.sub ρ)) (σr := IRs.res ρ R) h1 (fun A w us hd hrel => by
    refine hqa ρ _ w us ⟨by simpa using hrel.1, fun j a v q1 q2 => ?_⟩
    rw [List.map_map, List.getElem?_map] at q1
    obtain ⟨c, hc, rfl⟩ := Option.map_eq_some_iff.1 q1
    exact lendC_rel hd 3 ((hrel.2 j _ v (by rw [List.getElem?_map, hc]; rfl) q2).mono fun b _ hA => ⟨.inl hA, rfl⟩)) (fun av σo ⟨ρ', _, e1, e2⟩ => by
      obtain ⟨c1, c2⟩ := scB_clr hsc (hs b) ρ'
      subst e1
      exact ⟨c1, fun r hr => c2 r (e2.mem_iff.1 hr)⟩)
  have hlt : ∀ i, Nat.blt i (out b).c = true → i + nx < (out b).c + nx := fun i hi => by rw [Nat.blt_eq] at hi; omega
  refine Fn.mono h2 fun a s ⟨s', ⟨ρ1, _, g1, g2⟩, g3⟩ => ?_
  let ρ2 : Gh := ⟨fun i => if i < nx then ρ.v i else ρ1.v (i - nx), fun i => if i < nx then ρ.b i else ρ1.b (i - nx)⟩
  have hag : Agr nx ρ ρ2 := fun i hi => ⟨by simp only [ρ2, if_pos hi], by simp only [ρ2, if_pos hi]⟩
  have hp : ∀ i, Nat.blt i (out b).c = true → ρ2.v (i + nx) = ρ1.v i ∧ ρ2.b (i + nx) = ρ1.b i := fun i _ => by
    have : ¬ i + nx < nx := by omega
    exact ⟨by simp only [ρ2, if_neg this, Nat.add_sub_cancel], by simp only [ρ2, if_neg this, Nat.add_sub_cancel]⟩
  have hres : IRs.res ρ2 ((out b).R.map fun q => (q.1 + nx, renR (fun i => i + nx) q.2)) = IRs.res ρ1 (out b).R := by
    unfold IRs.res
    rw [List.map_map]
    refine List.map_congr_left fun q hq => ?_
    have hbq := List.all_eq_true.1 ho2 q hq
    rw [Bool.and_eq_true] at hbq
    obtain ⟨i, rr⟩ := q
    cases rr with
    | row t l => show Res.row (ρ2.v (i + nx)) t l = .row (ρ1.v i) t l; rw [(hp i hbq.1).1]
    | box T cs =>
      show Res.box (ρ2.b (i + nx)) T ((cs.map (renA (fun i => i + nx) 4)).map (AVq.sub ρ2)) = .box (ρ1.b i) T (cs.map (AVq.sub ρ1))
      rw [(hp i hbq.1).2, List.map_map]
      congr 1
      exact List.map_congr_left fun c hc => renA_sub hp 4 (List.all_eq_true.1 hbq.2 c hc)
  refine ⟨_, _, _, hr, Nat.le_add_left _ _, renA_ltd hlt 4 ho1, fun q hq => ?_, ρ2, hag, ?_, ?_⟩
  · rcases List.mem_append.1 hq with hq | hq
    · obtain ⟨q', h4, rfl⟩ := List.mem_map.1 hq
      have hbq := List.all_eq_true.1 ho2 q' h4
      rw [Bool.and_eq_true] at hbq
      refine ⟨hlt _ hbq.1, ?_⟩
      obtain ⟨i, rr⟩ := q'
      cases rr with
      | row t l => trivial
      | box T cs =>
        intro c hc
        obtain ⟨c', h5, rfl⟩ := List.mem_map.1 hc
        exact renA_ltd hlt 4 (List.all_eq_true.1 hbq.2 c' h5)
    · exact (hR.mono (Nat.le_add_left _ _)) q hq
  · rw [g1]; exact (renA_sub hp 4 ho1).symm
  · rw [g3, res_app, hres, ← hR.res hag]
    exact g2.append_right _

theorem or0_g {P : Program} : OrcG P or0 := ⟨or0_ok, fun _ _ _ _ _ _ _ _ => rfl⟩
theorem orY_nat {γ δ : Type} {f0 n0 : Nat} {q : List AV → IRs → Option γ} {t : γ → Option δ} {out : δ → Out} {F : Orc} (hN : OrcNat F) : OrcNat (orY f0 n0 q t out F) := fun α β f args R nx k D => by
  unfold orY
  split
  · unfold entY2 entY3
    split
    · split
      · split <;> rfl
      · exact hN ..
    · exact hN ..
  · exact hN ..
theorem orL_nat {γ δ : Type} {f0 : Nat} {lb : Bool} {q : List AV → Option γ} {t : γ → Option δ} {out : δ → Out} {F : Orc} (hN : OrcNat F) : OrcNat (orL f0 lb q t out F) := fun α β f args R nx k D => by
  unfold orL
  split
  · unfold entL2
    split
    · split
      · split <;> rfl
      · exact hN ..
    · exact hN ..
  · exact hN ..
theorem orY_g {P : Program} {F : Orc} {γ β : Type} {f0 n0 : Nat} {q : List AV → IRs → Option γ} {ca : γ → List AV} {cr : γ → IRs} {t : γ → Option β} {out : β → Out} (hF : OrcG P F) (hf : fnOk P f0) (hq : QY q ca cr) (hm : ∀ b, (out b).okB n0 = true)
    (h : ∀ g b, t g = some b → FnY P f0 (ca g) (cr g) n0 (out b)) : OrcG P (orY f0 n0 q t out F) := ⟨orY_ok hF.ok hf hq hm h, orY_nat hF.nat⟩
theorem orL_g {P : Program} {F : Orc} {γ β : Type} {f0 : Nat} {lb : Bool} {q : List AV → Option γ} {ca : γ → List AV} {t : γ → Option β} {out : β → Out} {sc : Nat → Bool} (hF : OrcG P F) (hsc : ∀ t, sc t = true → ∀ x, ClL (U.cells t x)) (hf : fnOk P f0) (hq : PkN q ca) (hm : ∀ b, (out b).okB 0 = true) (hs : ∀ b, (out b).scB sc = true)
    (h : ∀ g b, t g = some b → FnY P f0 (ca g) [] 0 (out b)) : OrcG P (orL f0 lb q t out F) := ⟨orL_ok hF.ok hsc hf hq hm hs h, orL_nat hF.nat⟩

/-! ### entries that leave what is owned as0 it is -/

theorem or0_pure {f : FuncId} : PureF or0 f := fun _ _ _ _ _ _ h => by cases h
theorem orL_pure {γ β : Type} {f0 : Nat} {lb : Bool} {q : List AV → Option γ} {t : γ → Option β} {out : β → Out} {F : Orc} {f : FuncId} (h : PureF F f) (hm : ∀ b, (out b).R = []) : PureF (orL f0 lb q t out F) f := fun args R nx d R' nx' hr => by
  unfold orL at hr
  split at hr
  · unfold entL2 at hr
    split at hr
    · split at hr
      · split at hr
        · rw [hm] at hr
          cases hr
          rfl
        · cases hr
      · exact h _ _ _ _ _ _ hr
    · exact h _ _ _ _ _ _ hr
  · exact h _ _ _ _ _ _ hr
theorem orL_skip {γ β : Type} {f0 : Nat} {lb : Bool} {q : List AV → Option γ} {t : γ → Option β} {out : β → Out} {F : Orc} {f : FuncId} (hne : Nat.beq f f0 = false) (h : PureF F f) : PureF (orL f0 lb q t out F) f := fun args R nx d R' nx' hr => by
  unfold orL at hr
  rw [hne] at hr
  exact h _ _ _ _ _ _ hr
theorem orY_skip {γ β : Type} {f0 n0 : Nat} {q : List AV → IRs → Option γ} {t : γ → Option β} {out : β → Out} {F : Orc} {f : FuncId} (hne : Nat.beq f f0 = false) (h : PureF F f) : PureF (orY f0 n0 q t out F) f := fun args R nx d R' nx' hr => by
  unfold orY at hr
  rw [hne] at hr
  exact h _ _ _ _ _ _ hr

/-! ### for printed texts -/

theorem cond_some {α : Type} (b : Bool) (x y : α) : (bif b then some x else some y) = some (bif b then x else y) := by cases b <;> rfl
theorem ite_some {α : Type} (p : Prop) [Decidable p] (x y : α) : (if p then some x else some y) = some (if p then x else y) := by split <;> rfl

theorem ltd_of {n0 : Nat} {args : List AV} (h : args.all (idsC (fun i => Nat.blt i n0) 4) = true) : ∀ d ∈ args, Ltd n0 d := fun d hd => (idsC_ok 4 (List.all_eq_true.1 h d hd)).mono fun i hi => by rw [Nat.blt_eq] at hi; exact hi
theorem rltd_of {n0 : Nat} {R : IRs} (h : R.all (fun q => Nat.blt q.1 n0 && match q.2 with
    | .box _ cs => cs.all (idsC (fun i => Nat.blt i n0) 4)
    | .row _ _ => true) = true) : IRs.Ltd n0 R := fun q hq => by
  have hb := List.all_eq_true.1 h q hq
  rw [Bool.and_eq_true, Nat.blt_eq] at hb
  refine ⟨hb.1, ?_⟩
  obtain ⟨i, rr⟩ := q
  cases rr with
  | row t l => trivial
  | box T cs => exact ltd_of hb.2
def qy0 {γ : Type} (q : List AV → Option γ) (xs : List AV) (R : IRs) : Option γ := match R with
  | [] => q xs
  | _ => none
theorem qy0_ok {γ : Type} {q : List AV → Option γ} {ca : γ → List AV} (h : PkN q ca) : QY (qy0 q) ca (fun _ => []) := fun xs R g hg => by
  unfold qy0 at hg
  split at hg
  · exact ⟨(h xs g hg).1, .nil⟩
  · cases hg
def qyR {γ δ : Type} (q : List AV → Option γ) (r : IRs → Option δ) (xs : List AV) (R : IRs) : Option (γ × δ) := match q xs with
  | some g => match r R with
    | some h => some (g, h)
    | none => none
  | none => none
theorem qyR_ok {γ δ : Type} {q : List AV → Option γ} {ca : γ → List AV} {r : IRs → Option δ} {cr : δ → IRs} (hq : PkN q ca) (hr : RsOk r cr) : QY (qyR q r) (fun g => ca g.1) (fun g => cr g.2) := fun xs R g hg => by
  unfold qyR at hg
  split at hg
  · rename_i g' h1
    split at hg
    · rename_i h' h2
      cases hg
      exact ⟨(hq xs g' h1).1, hr R h' h2⟩
    · cases hg
  · cases hg
open Classical in
/-- what m says from some number on -/
noncomputable def lim {β : Type} (m : Nat → Option β) : Option β := if h : ∃ b N, ∀ n, N ≤ n → m n = some b then some (Classical.choose h) else none
theorem lim_some {β : Type} {m : Nat → Option β} {b : β} (h : lim m = some b) : ∃ n, m n = some b := by
  unfold lim at h
  split at h
  · rename_i hx
    cases h
    obtain ⟨N, hN⟩ := Classical.choose_spec hx
    exact ⟨N, hN N (Nat.le_refl _)⟩
  · cases h
theorem lim_eq {β : Type} {m : Nat → Option β} {b : β} (N : Nat) (h : ∀ n, N ≤ n → m n = some b) : lim m = some b := by
  have hx : ∃ b N, ∀ n, N ≤ n → m n = some b := ⟨b, N, h⟩
  unfold lim
  rw [dif_pos hx]
  obtain ⟨M, hM⟩ := Classical.choose_spec hx
  have h1 := hM (max M N) (Nat.le_max_left _ _)
  rw [h (max M N) (Nat.le_max_right _ _)] at h1
  exact h1.symm
/-- An empty slice is nil, or it is not. -/
theorem fnY_nil {P : Program} {f : FuncId} {t : Nat} {x : Out} (h1 : ∀ c, FnY P f [.lit (.slice none 0 c)] [] 0 x) (h2 : ∀ a c, FnY P f [.lit (.slice (some a) 0 c)] [] 0 x) : FnY P f [.sl t []] [] 0 x := fun ρ w A vs hr hd hn => by
  have hr' : RelL A w [(AVq.sl t [] : AV).sub ρ] vs := hr
  obtain ⟨v, us, rfl, h3, h4⟩ := hr'.head
  rw [sub_sl] at h3
  obtain ⟨p, c, g, hv, _⟩ := h3.slInv
  have hz : us = [] := List.eq_nil_of_length_eq_zero (by simpa using h4.1)
  subst hz hv
  cases p with
  | none => exact h1 c ρ w A _ (RelL.cons (by rw [sub_lit]; exact .lit _) RelL.nil) hd hn
  | some a => exact h2 a c ρ w A _ (RelL.cons (by rw [sub_lit]; exact .lit _) RelL.nil) hd hn
def litB : AV → Bool
  | .lit _ => true
  | _ => false
theorem clL_lit : ∀ (cs : List AV), cs.all litB = true → ClL cs
  | [], _ => .nil
  | c :: cs, h => by
    rw [List.all_cons, Bool.and_eq_true] at h
    refine .cons ?_ (clL_lit cs h.2)
    cases c <;> first | (cases h.1; done) | exact .lit _
end Go.Iv
end
section
set_option linter.unusedSectionVars false
set_option linter.unusedVariables false
set_option linter.unusedSimpArgs false
namespace Go.Proofs.Ytfipaakafcjjhaa
open Go Go.Iv
def scK : Ky → Bool
  | .k4 => true
  | .k5 => true
  | _ => false
def scU (t : Nat) : Bool := scK (ky t)
theorem scK_ok : (k : Ky) → scK k = true → (x : datK k) → ClL (cellsK k x) := by
  intro k h x
  cases k <;> first | (cases h; done) | exact clL_lit _ rfl
theorem scU_ok (t : Nat) (h : scU t = true) (x : uni.Dat t) : ClL (uni.cells t x) := scK_ok (ky t) h x
end Go.Proofs.Ytfipaakafcjjhaa
end
