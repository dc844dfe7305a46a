/- An interpreter over names of what is owned: the operations that only compute or read. Program-independent. -/
import Derived.Test.YtgdahkddhecloaaIw0
import Derived.Test.YtgdahkddhecloaaIv6
import Derived.Laws.StructEq
set_option linter.unusedSectionVars false
set_option linter.unusedVariables false
set_option linter.unusedSimpArgs false
namespace Go.Iv
variable [U : Uni]
open Go Go.RowKit

/-- What is known of the data: every element has its cells, each of which can lie in a cell; what cells make an element. -/
class UniL [U : Uni] where
  len : ∀ t x, (U.cells t x).length = U.sz t
  one : ∀ t x, (U.cells t x).all acell1 = true
  clo : ∀ t x ρ, (U.cells t x).map (AVq.sub ρ) = U.cells t x
  ltd : ∀ t x n, ∀ c ∈ U.cells t x, Ltd n c
  parse : (t : Nat) → List AV → Option (U.Dat t)
  parse_ok : ∀ t cs x, parse t cs = some x → ∀ A w us, RelL A w cs us → RelL A w (U.cells t x) us
  nums : (t : Nat) → List (U.Dat t) → Option (List Int)
  nums_ok : ∀ t l ns, nums t l = some ns → l.flatMap (U.cells t) = ns.map (.n .u8) ∧ U.sz t = 1
  /-- the functions that are given data only -/
  fz : Nat → Bool := fun _ => false
variable [L : UniL]

def szIs (P : Program) (t n : Nat) : Bool := match P.info? t with
  | some i => Nat.beq i.size n
  | none => false
theorem szIs_ok {P : Program} {t n : Nat} (h : szIs P t n = true) : (P.info? t).map (·.size) = some n := by
  unfold szIs at h
  cases hi : P.info? t with
  | none => rw [hi] at h; cases h
  | some i =>
    rw [hi] at h
    simp only [Option.map_some, Option.some.injEq]
    exact beqT h
def oneB (P : Program) (t : Nat) : Bool := match P.underlying t with
  | some (.struct _) => false
  | some (.array _ _) => false
  | some _ => true
  | none => false
theorem oneB_ok {P : Program} {t : Nat} (h : oneB P t = true) : isOne P t := by
  unfold oneB at h
  unfold isOne
  split at h
  · cases h
  · cases h
  · rename_i d hd
    refine ⟨_, hd, ?_⟩
    split
    · simp_all
    · simp_all
    · trivial
  · cases h
def manyB (P : Program) (t : Nat) : Option Nat := match P.underlying t with
  | some (.struct _) => (P.info? t).map (·.size)
  | some (.array _ _) => (P.info? t).map (·.size)
  | _ => none
theorem manyB_ok {P : Program} {t n : Nat} (h : manyB P t = some n) : isMany P t n := by
  unfold manyB at h
  split at h
  · rename_i hd; exact ⟨⟨_, hd, trivial⟩, h⟩
  · rename_i hd; exact ⟨⟨_, hd, trivial⟩, h⟩
  · cases h

def dcell1 (rd : Nat → Option IR) : AV → Bool
  | .own id => match rd id with
    | some (.row _ _) => true
    | _ => false
  | .ptr _ _ => true
  | .ra _ _ _ _ => false
  | d => acell1 d
def dplain (rd : Nat → Option IR) : AV → Bool
  | .agg cs => cs.all (dcell1 rd)
  | d => dcell1 rd d

section
variable {α : Type} {r : α} {P : Program} {o : Oper} {E : Env} {R : IRs} {nx : Nat} {ev : Operand → Option AV} {rd : Nat → Option IR} {x y z : Operand} {d : AV}

/-- what the step looks at is there -/
structure See (ev : Operand → Option AV) (rd : Nat → Option IR) (nx : Nat) (E : Env) (R : IRs) : Prop where
  e : ∀ x d, ev x = some d → E.ev x = some d
  r : ∀ id r, rd id = some r → rget R id = some r
  le : E.Ltd nx
  lr : IRs.Ltd nx R

theorem See.evs (h : See ev rd nx E R) (hx : ev x = some d) (ρ : Gh) : (E.sub ρ).ev x = some (d.sub ρ) := by
  rw [Env.sub_ev, h.e _ _ hx]; rfl
theorem See.ltd (h : See ev rd nx E R) (hx : ev x = some d) : Ltd nx d := Env.ev_ltd h.le (h.e _ _ hx)
theorem See.row (h : See ev rd nx E R) {id t : Nat} {l : List (U.Dat t)} (hr : rd id = some (.row t l)) (ρ : Gh) : ∃ i : Nat, (IRs.res ρ R)[i]? = some (.row (ρ.v id) t l) := by
  obtain ⟨i, h1, _⟩ := rget_idx (h.r _ _ hr)
  exact ⟨i, res_get h1⟩
theorem See.box (h : See ev rd nx E R) {id t : Nat} {cs : List AV} (hr : rd id = some (.box t cs)) (ρ : Gh) : ∃ i : Nat, (IRs.res ρ R)[i]? = some (.box (ρ.b id) t (cs.map (AVq.sub ρ))) := by
  obtain ⟨i, h1, _⟩ := rget_idx (h.r _ _ hr)
  exact ⟨i, res_get h1⟩
theorem See.boxL (h : See ev rd nx E R) {id t : Nat} {cs : List AV} (hr : rd id = some (.box t cs)) : ∀ c ∈ cs, Ltd nx c := (rget_ltd (h.r _ _ hr) h.lr).2

/-- A pure operation: it yields d. -/
def Pu (P : Program) (o : Oper) (E : Env) (R : IRs) (nx : Nat) (d : AV) : Prop := Ltd nx d ∧ ∀ ρ, Yp P (E.sub ρ) (IRs.res ρ R) o (d.sub ρ)

theorem sub_lit (ρ : Gh) (v : Value) : AVq.sub ρ (.lit v) = .lit v := by simp only [AVq.sub]
theorem sub_sl (ρ : Gh) (t : Nat) (l : List (U.Dat t)) : AVq.sub ρ (.sl t l) = .sl t l := by simp only [AVq.sub]
theorem sub_own (ρ : Gh) (id : Nat) : AVq.sub ρ (.own id) = .lit (ρ.v id) := by simp only [AVq.sub]
theorem sub_ptr (ρ : Gh) (id off : Nat) : AVq.sub ρ (.ptr id off) = .lit (.pointer (some ⟨ρ.b id, off, none⟩)) := by simp only [AVq.sub]
theorem sub_ra (ρ : Gh) (id t m off : Nat) : AVq.sub ρ (.ra id t m off) = .rp (ρ.v id) (m * U.sz t + off) := by simp only [AVq.sub]
theorem sub_fp (ρ : Gh) (cs : List AV) : AVq.sub ρ (.fp cs) = .fp (cs.map (AVq.sub ρ)) := by simp only [AVq.sub]
theorem sub_agg (ρ : Gh) (cs : List AV) : AVq.sub ρ (.agg cs) = .agg (cs.map (AVq.sub ρ)) := by simp only [AVq.sub]
theorem sub_tup (ρ : Gh) (cs : List AV) : AVq.sub ρ (.tup cs) = .tup (cs.map (AVq.sub ρ)) := by simp only [AVq.sub]
theorem sub_fn (ρ : Gh) (f : Go.Fn) (cs : List AV) : AVq.sub ρ (.fn f cs) = .fn f (cs.map (AVq.sub ρ)) := by simp only [AVq.sub]

theorem Pu.lit {v : Value} (h : ∀ ρ, Yp P (E.sub ρ) (IRs.res ρ R) o (.lit v)) : Pu P o E R nx (.lit v) := ⟨.lit v, fun ρ => by rw [sub_lit]; exact h ρ⟩

/-! ### arithmetic -/

def binI (b : BinOp) (k : IntKind) (m n : Int) (K : AV → Option α) : Option α := match b with
  | .add => K (.n k (k.wrap (m + n)))
  | .sub => K (.n k (k.wrap (m - n)))
  | .mul => K (.n k (k.wrap (m * n)))
  | .quo => if n ≠ 0 then K (.n k (k.wrap (Int.tdiv m n))) else none
  | .rem => if n ≠ 0 then K (.n k (Int.tmod m n)) else none
  | .and => K (.n k (bAnd k m n))
  | .or => K (.n k (bOr k m n))
  | .xor => K (.n k (bXor k m n))
  | .andNot => K (.n k (bClr k m n))
  | .lss => K (.b (decide (m < n)))
  | .leq => K (.b (decide (m ≤ n)))
  | .gtr => K (.b (decide (n < m)))
  | .geq => K (.b (decide (n ≤ m)))
  | .eql => K (.b (decide (m = n)))
  | .neq => K (.b (!decide (m = n)))
  | _ => none

theorem Yp.eqNilS {T T' e q : Nat} {E : Env} {σ : List Res} {l : List (U.Dat q)} (ho : o.op = .binOp .eql T x y T') (hx : E.ev x = some (.sl q l)) (hy : E.ev y = some (.lit (.slice none 0 0))) (hT : P.underlying T = some (.slice e)) (hl : l ≠ []) : Yp P E σ o (.b false) := fun A w ρ _ hρ => by
  obtain ⟨p, cap, u, hv, _, _, _, hc, _⟩ := (hρ _ _ hx).slInv
  have h2 := (hρ _ _ hy).litEq
  obtain ⟨b, off, hp, _⟩ := hc 0 (List.length_pos_iff.2 hl)
  subst hp
  refine ⟨_, .lit _, fun w' _ => ?_⟩
  have h1 := Lib.run_eql_slice_nil (P := P) w' T e (some ⟨b, off, none⟩) l.length cap 0 0 hT
  simp [execOp, ho, hv, h2, eqGuard, h1]
theorem Yp.eqNilO {T T' e q i : Nat} {v : Value} {E : Env} {σ : List Res} {l : List (U.Dat q)} (ho : o.op = .binOp .eql T x y T') (hx : E.ev x = some (.lit v)) (hσ : σ[i]? = some (.row v q l)) (hy : E.ev y = some (.lit (.slice none 0 0))) (hT : P.underlying T = some (.slice e)) (hl : l ≠ []) : Yp P E σ o (.b false) := fun A w ρ hd hρ => by
  obtain ⟨us, h1, _⟩ := hd.1 _ (List.mem_of_getElem? hσ)
  obtain ⟨g, cap, cur, hv, _⟩ := h1.at (List.length_pos_iff.2 hl)
  have hx' := (hρ _ _ hx).litEq
  have h2 := (hρ _ _ hy).litEq
  refine ⟨_, .lit _, fun w' _ => ?_⟩
  have h1 := Lib.run_eql_slice_nil (P := P) w' T e (some ⟨g, 0, none⟩) l.length (cap + 1) 0 0 hT
  simp [execOp, ho, hx', hv, h2, eqGuard, h1]

/-! ### structs compared -/

def eqCell (P : Program) (t : TypeId) (a b : AV) : Option Bool := match P.underlying t with
  | some (.int _) => match a, b with
    | .lit (.int k m), .lit (.int k' n) => if k = k' then some (decide (m = n)) else none
    | _, _ => none
  | some .bool => match a, b with
    | .lit (.bool p), .lit (.bool q) => some (p == q)
    | _, _ => none
  | some .string => match a, b with
    | .lit (.string p), .lit (.string q) => some (p.toList == q.toList)
    | _, _ => none
  | _ => none
def eqFs (P : Program) (xs ys : List AV) : List Field → Option Bool
  | [] => some true
  | f :: fs => match (f.name != "_") && oneB P f.type with
    | true => match xs[f.offset]?, ys[f.offset]? with
      | some a, some b => (eqCell P f.type a b).bind fun r => (eqFs P xs ys fs).map fun q => r && q
      | _, _ => none
    | false => none
theorem run_part_one {P : Program} {t : TypeId} (h : isOne P t) {us : List Value} {i : Nat} {v : Value} (hv : us[i]? = some v) (w : World) : (part t us.toArray i).run P w = .ok v w := by
  unfold part
  rw [Sem.run_bind, run_isAgg_one h]
  simp [hv]
theorem eqCell_run {P : Program} {t : TypeId} {a b : AV} {q : Bool} (h : eqCell P t a b = some q) {A A' : Nat → Prop} {w w' w'' : World} {u v : Value} {ρ ρ' : Gh} (ha : Rel A w (a.sub ρ) u) (hb : Rel A' w' (b.sub ρ') v) (d : Nat) : (Op.equalIn (d + 1) t u v).run P w'' = .ok q w'' := by
  unfold eqCell at h
  split at h
  · rename_i k0 ht
    split at h
    · split at h
      · rename_i hk
        subst hk
        cases h
        simp only [AVq.sub] at ha hb
        rw [ha.litEq, hb.litEq]
        exact run_equalIn_int _ d t _ k0 _ _ ht
      · cases h
    · cases h
  · rename_i ht
    split at h
    · cases h
      simp only [AVq.sub] at ha hb
      rw [ha.litEq, hb.litEq]
      exact run_equalIn_bool' _ d t _ _ ht
    · cases h
  · rename_i ht
    split at h
    · cases h
      simp only [AVq.sub] at ha hb
      rw [ha.litEq, hb.litEq]
      exact run_equalIn_string _ d t _ _ ht
    · cases h
  · cases h
theorem eqFs_run {P : Program} {xs ys : List AV} {A A' : Nat → Prop} {w w' w'' : World} {us vs : List Value} {ρ ρ' : Gh} (ha : RelL A w (xs.map (AVq.sub ρ)) us) (hb : RelL A' w' (ys.map (AVq.sub ρ')) vs) (d : Nat) : ∀ {fs : List Field} {q : Bool}, eqFs P xs ys fs = some q → (Op.eqFields (d + 1) us.toArray vs.toArray fs).run P w'' = .ok q w''
  | [], q, h => by cases h; simp [Op.eqFields]
  | f :: fs, q, h => by
    unfold eqFs at h
    split at h
    case h_2 => cases h
    rename_i hf
    simp only [Bool.and_eq_true, bne_iff_ne, ne_eq] at hf
    split at h
    case h_2 => cases h
    rename_i a b hx hy
    obtain ⟨r1, h1, h⟩ := Option.bind_eq_some_iff.1 h
    obtain ⟨q1, h2, rfl⟩ := Option.map_eq_some_iff.1 h
    obtain ⟨u, hu, hu'⟩ := ha.get (a := a.sub ρ) (j := f.offset) (by rw [List.getElem?_map, hx]; rfl)
    obtain ⟨v, hv, hv'⟩ := hb.get (a := b.sub ρ') (j := f.offset) (by rw [List.getElem?_map, hy]; rfl)
    have ih := eqFs_run (w'' := w'') ha hb d h2
    have hone := oneB_ok hf.2
    unfold Op.eqFields
    rw [if_pos hf.1]
    simp only [Sem.run_bind, run_part_one hone hu, run_part_one hone hv, Result.andThen_ok, eqCell_run (w'' := w'') h1 hu' hv' d]
    cases r1 with
    | true => simpa using ih
    | false => simp
theorem Yp.seq' {T T' : TypeId} {E : Env} {σ : List Res} {b : BinOp} {cs ds : List AV} {fs : Array Field} {q : Bool} {ρ ρ' : Gh} (ho : o.op = .binOp b T x y T') (hx : E.ev x = some (.agg (cs.map (AVq.sub ρ)))) (hy : E.ev y = some (.agg (ds.map (AVq.sub ρ')))) (hT : P.underlying T = some (.struct fs)) (hp : P.stoodInHeld T = false) (hg : P.eqGuardType P.depth T = false) (hq : eqFs P cs ds fs.toList = some q) (hb : b = .eql ∨ b = .neq) :
    Yp P E σ o (.b (match b with | .neq => !q | _ => q)) := fun A w ϱ _ hρ => by
  obtain ⟨us, h1, h2⟩ := (hρ _ _ hx).aggInv
  obtain ⟨vs, h3, h4⟩ := (hρ _ _ hy).aggInv
  refine ⟨_, .lit _, fun w' _ => ?_⟩
  have hT' : P.underlying T = some (.struct (P.fieldsOf T)) := by unfold Program.fieldsOf; rw [hT]
  have hfs : P.fieldsOf T = fs := by unfold Program.fieldsOf; rw [hT]
  have he := run_equalIn_struct (P := P) w' 9999 T us.toArray vs.toArray hT' hp
  rw [hfs, eqFs_run (w'' := w') h2 h4 9998 hq] at he
  have hgr := run_eqGuard_agg (P := P) w' b T x y us.toArray vs.toArray hg
  rcases hb with rfl | rfl
  · have h5 := run_eql_struct (P := P) w' T us.toArray vs.toArray
    rw [he] at h5
    simp [execOp, ho, h1, h3, hgr, h5]
  · have h5 := run_neq_struct (P := P) w' T us.toArray vs.toArray
    rw [he] at h5
    simp [execOp, ho, h1, h3, hgr, h5]

def eqS (P : Program) (b : BinOp) (T : TypeId) (cs ds : List AV) (K : AV → Option α) : Option α := match P.underlying T with
  | some (.struct fs) => match !P.stoodInHeld T && !P.eqGuardType P.depth T with
    | true => match b with
      | .eql => (eqFs P cs ds fs.toList).bind fun q => K (.b q)
      | .neq => (eqFs P cs ds fs.toList).bind fun q => K (.b (!q))
      | _ => none
    | false => none
  | _ => none
theorem eqS_ok {b : BinOp} {T T' : TypeId} {cs ds : List AV} (hs : See ev rd nx E R) (ho : o.op = .binOp b T x y T') (hx : ev x = some (.agg cs)) (hy : ev y = some (.agg ds)) {K : AV → Option α} (h : eqS P b T cs ds K = some r) : ∃ d, K d = some r ∧ Pu P o E R nx d := by
  unfold eqS at h
  split at h
  case h_2 => cases h
  rename_i fs hT
  split at h
  case h_2 => cases h
  rename_i hg
  simp only [Bool.and_eq_true, Bool.not_eq_true'] at hg
  have ex := fun ρ => hs.evs hx ρ
  have ey := fun ρ => hs.evs hy ρ
  simp only [sub_agg] at ex ey
  split at h
  · obtain ⟨q, hq, h⟩ := Option.bind_eq_some_iff.1 h
    exact ⟨_, h, .lit fun ρ => .seq' ho (ex ρ) (ey ρ) hT hg.1 hg.2 hq (.inl rfl)⟩
  · obtain ⟨q, hq, h⟩ := Option.bind_eq_some_iff.1 h
    exact ⟨_, h, .lit fun ρ => .seq' ho (ex ρ) (ey ρ) hT hg.1 hg.2 hq (.inr rfl)⟩
  · cases h

def binV (P : Program) (rd : Nat → Option IR) (b : BinOp) (T : TypeId) (x y : Option AV) (K : AV → Option α) : Option α := match x, y with
  | some (.lit (.int k m)), some (.lit (.int k' n)) => match b with
    | .shl => if 0 ≤ n then K (.n k (bShl k m n)) else none
    | .shr => if 0 ≤ n then K (.n k (bShr k m n)) else none
    | _ => if k = k' then binI b k m n K else none
  | some (.lit (.bool p)), some (.lit (.bool q)) => match P.underlying T with
    | some .bool => match b with
      | .eql => K (.b (p == q))
      | .neq => K (.b (!(p == q)))
      | _ => none
    | _ => none
  | some (.lit (.string s)), some (.lit (.string t)) => match b with
    | .eql => K (.b (s.toList == t.toList))
    | .neq => K (.b (!(s.toList == t.toList)))
    | _ => none
  | some (.lit (.slice p _ _)), some (.lit (.slice none 0 0)) => match b, P.underlying T with
    | .eql, some (.slice _) => K (.b p.isNone)
    | _, _ => none
  | some (.sl _ l), some (.lit (.slice none 0 0)) => match b, P.underlying T with
    | .eql, some (.slice _) => match l with
      | [] => none
      | _ :: _ => K (.b false)
    | _, _ => none
  | some (.own id), some (.lit (.slice none 0 0)) => match b, P.underlying T with
    | .eql, some (.slice _) => match rd id with
      | some (.row _ (_ :: _)) => K (.b false)
      | _ => none
    | _, _ => none
  | some (.agg cs), some (.agg ds) => eqS P b T cs ds K
  | _, _ => none

theorem binV_ok {b : BinOp} {T T' : TypeId} (hs : See ev rd nx E R) (ho : o.op = .binOp b T x y T') {K : AV → Option α} (h : binV P rd b T (ev x) (ev y) K = some r) : ∃ d, K d = some r ∧ Pu P o E R nx d := by
  unfold binV at h
  split at h
  · rename_i k m k' n hx hy
    have ex := fun ρ => hs.evs hx ρ
    have ey := fun ρ => hs.evs hy ρ
    simp only [sub_lit] at ex ey
    split at h
    · split at h
      · rename_i h0; exact ⟨_, h, .lit fun ρ => .shl ho (ex ρ) (ey ρ) h0⟩
      · cases h
    · split at h
      · rename_i h0; exact ⟨_, h, .lit fun ρ => .shr ho (ex ρ) (ey ρ) h0⟩
      · cases h
    · split at h
      · rename_i hk
        subst hk
        unfold binI at h
        split at h
        · exact ⟨_, h, .lit fun ρ => .add ho (ex ρ) (ey ρ)⟩
        · exact ⟨_, h, .lit fun ρ => .sub ho (ex ρ) (ey ρ)⟩
        · exact ⟨_, h, .lit fun ρ => .mul ho (ex ρ) (ey ρ)⟩
        · split at h
          · rename_i h0; exact ⟨_, h, .lit fun ρ => .quo ho (ex ρ) (ey ρ) h0⟩
          · cases h
        · split at h
          · rename_i h0; exact ⟨_, h, .lit fun ρ => .rem ho (ex ρ) (ey ρ) h0⟩
          · cases h
        · exact ⟨_, h, .lit fun ρ => .and ho (ex ρ) (ey ρ)⟩
        · exact ⟨_, h, .lit fun ρ => .or ho (ex ρ) (ey ρ)⟩
        · exact ⟨_, h, .lit fun ρ => .xor ho (ex ρ) (ey ρ)⟩
        · exact ⟨_, h, .lit fun ρ => .andNot ho (ex ρ) (ey ρ)⟩
        · exact ⟨_, h, .lit fun ρ => .lss ho (ex ρ) (ey ρ)⟩
        · exact ⟨_, h, .lit fun ρ => .leq ho (ex ρ) (ey ρ)⟩
        · exact ⟨_, h, .lit fun ρ => .gtr ho (ex ρ) (ey ρ)⟩
        · exact ⟨_, h, .lit fun ρ => .geq ho (ex ρ) (ey ρ)⟩
        · exact ⟨_, h, .lit fun ρ => .eql ho (ex ρ) (ey ρ)⟩
        · exact ⟨_, h, .lit fun ρ => .neq ho (ex ρ) (ey ρ)⟩
        · cases h
      · cases h
  · rename_i p q hx hy
    have ex := fun ρ => hs.evs hx ρ
    have ey := fun ρ => hs.evs hy ρ
    simp only [sub_lit] at ex ey
    split at h
    · rename_i hT
      split at h
      · exact ⟨_, h, .lit fun ρ => .beql ho hT (ex ρ) (ey ρ)⟩
      · exact ⟨_, h, .lit fun ρ => .bneq ho hT (ex ρ) (ey ρ)⟩
      · cases h
    · cases h
  · rename_i s t hx hy
    have ex := fun ρ => hs.evs hx ρ
    have ey := fun ρ => hs.evs hy ρ
    simp only [sub_lit] at ex ey
    split at h
    · exact ⟨_, h, .lit fun ρ => .seql ho (ex ρ) (ey ρ)⟩
    · exact ⟨_, h, .lit fun ρ => .sneq ho (ex ρ) (ey ρ)⟩
    · cases h
  · rename_i p l c hx hy
    have ex := fun ρ => hs.evs hx ρ
    have ey := fun ρ => hs.evs hy ρ
    simp only [sub_lit] at ex ey
    split at h
    · rename_i hT
      exact ⟨_, h, .lit fun ρ => .eqNilL ho (ex ρ) (ey ρ) hT⟩
    · cases h
  · rename_i t l hx hy
    have ex := fun ρ => hs.evs hx ρ
    have ey := fun ρ => hs.evs hy ρ
    simp only [sub_lit] at ey
    simp only [sub_sl] at ex
    split at h
    · rename_i hT
      split at h
      · cases h
      · exact ⟨_, h, .lit fun ρ => .eqNilS ho (ex ρ) (ey ρ) hT (by simp)⟩
    · cases h
  · rename_i id hx hy
    have ex := fun ρ => hs.evs hx ρ
    have ey := fun ρ => hs.evs hy ρ
    simp only [sub_lit] at ey
    simp only [sub_own] at ex
    split at h
    · rename_i hT
      split at h
      · rename_i hr
        exact ⟨_, h, .lit fun ρ => by
          obtain ⟨i, hi⟩ := hs.row hr ρ
          exact .eqNilO ho (ex ρ) hi (ey ρ) hT (by simp)⟩
      · cases h
    · cases h
  · rename_i cs ds hx hy
    exact eqS_ok hs ho hx hy h
  · cases h

def unV (b : UnOp) (x : Option AV) (K : AV → Option α) : Option α := match b, x with
  | .not, some (.lit (.bool p)) => K (.b (!p))
  | .neg, some (.lit (.int k n)) => K (.n k (k.wrap (0 - n)))
  | _, _ => none
theorem unV_ok {b : UnOp} {T : TypeId} (hs : See ev rd nx E R) (ho : o.op = .unOp b T x) {K : AV → Option α} (h : unV b (ev x) K = some r) : ∃ d, K d = some r ∧ Pu P o E R nx d := by
  unfold unV at h
  split at h
  · rename_i p hx
    have ex := fun ρ => hs.evs hx ρ
    simp only [sub_lit] at ex
    exact ⟨_, h, .lit fun ρ => .not ho (ex ρ)⟩
  · rename_i p hx
    have ex := fun ρ => hs.evs hx ρ
    simp only [sub_lit] at ex
    exact ⟨_, h, .lit fun ρ => .neg ho (ex ρ)⟩
  · cases h

/-! ### addresses and loads -/

def nilV (x : Option AV) (K : AV → Option α) : Option α := match x with
  | some (.ptr id off) => K (.ptr id off)
  | some (.fp cs) => K (.fp cs)
  | some (.ra id t m off) => K (.ra id t m off)
  | _ => none
theorem nilV_ok (hs : See ev rd nx E R) (ho : o.op = .nilCheck x) {K : AV → Option α} (h : nilV (ev x) K = some r) : ∃ d, K d = some r ∧ Pu P o E R nx d := by
  unfold nilV at h
  split at h
  · rename_i hx
    exact ⟨_, h, hs.ltd hx, fun ρ => by have ex := hs.evs hx ρ; rw [sub_ptr] at ex ⊢; exact .nilCheckP ho ex⟩
  · rename_i hx
    exact ⟨_, h, hs.ltd hx, fun ρ => by have ex := hs.evs hx ρ; rw [sub_fp] at ex ⊢; exact .nilCheckF ho ex⟩
  · rename_i hx
    exact ⟨_, h, hs.ltd hx, fun ρ => by have ex := hs.evs hx ρ; rw [sub_ra] at ex ⊢; exact .nilCheckR ho ex⟩
  · cases h

theorem ltd_drop {n : Nat} {cs : List AV} (h : ∀ c ∈ cs, Ltd n c) (k : Nat) : ∀ c ∈ cs.drop k, Ltd n c := fun c hc => h c (List.mem_of_mem_drop hc)
theorem ltd_take {n : Nat} {cs : List AV} (h : ∀ c ∈ cs, Ltd n c) (k : Nat) : ∀ c ∈ cs.take k, Ltd n c := fun c hc => h c (List.mem_of_mem_take hc)
theorem Ltd.fpL {n : Nat} {cs : List AV} (h : Ltd n (.fp cs)) : ∀ c ∈ cs, Ltd n c := by cases h; assumption
theorem Ltd.aggL {n : Nat} {cs : List AV} (h : Ltd n (.agg cs)) : ∀ c ∈ cs, Ltd n c := by cases h; assumption
theorem Ltd.tupL {n : Nat} {cs : List AV} (h : Ltd n (.tup cs)) : ∀ c ∈ cs, Ltd n c := by cases h; assumption
theorem Ltd.fnL {n : Nat} {f : Go.Fn} {cs : List AV} (h : Ltd n (.fn f cs)) : ∀ c ∈ cs, Ltd n c := by cases h; assumption
theorem Ltd.ptrL {n id off : Nat} (h : Ltd n (.ptr id off)) : id < n := by cases h; assumption
theorem Ltd.raL {n id t m off : Nat} (h : Ltd n (.ra id t m off)) : id < n := by cases h; assumption
theorem Ltd.ownL {n id : Nat} (h : Ltd n (.own id)) : id < n := by cases h; assumption
theorem ltd_get {n : Nat} {cs : List AV} (h : ∀ c ∈ cs, Ltd n c) {k : Nat} (hk : cs[k]? = some d) : Ltd n d := h d (List.mem_of_getElem? hk)
theorem ltd_app {n : Nat} {cs ds : List AV} (h : ∀ c ∈ cs, Ltd n c) (h' : ∀ c ∈ ds, Ltd n c) : ∀ c ∈ cs ++ ds, Ltd n c := fun c hc => (List.mem_append.1 hc).elim (h c) (h' c)
theorem ltd_cells {n : Nat} (h : Ltd n d) : ∀ c ∈ acells d, Ltd n c := by
  cases d <;> first | exact h.aggL | (intro c hc; simp only [acells, List.mem_singleton] at hc; rw [hc]; exact h)
theorem ltd_lits (n : Nat) (zs : List Value) : ∀ c ∈ zs.map (AVq.lit (Dat := U.Dat)), Ltd n c := fun c hc => by
  obtain ⟨v, _, rfl⟩ := List.mem_map.1 hc
  exact .lit v

def fldV (P : Program) (T : TypeId) (i : Nat) (x : Option AV) (K : AV → Option α) : Option α := match P.underlying T with
  | some (.struct fs) => match fs[i]? with
    | some f => match (P.info? f.type).map (·.size) with
      | some (_ + 1) => match x with
        | some (.ptr id off) => K (.ptr id (off + f.offset))
        | some (.fp cs) => K (.fp (cs.drop f.offset))
        | some (.ra id t m off) => K (.ra id t m (off + f.offset))
        | _ => none
      | _ => none
    | none => none
  | _ => none
theorem fldV_ok {T : TypeId} {i : Nat} (hs : See ev rd nx E R) (ho : o.op = .fieldAddr T x i) {K : AV → Option α} (h : fldV P T i (ev x) K = some r) : ∃ d, K d = some r ∧ Pu P o E R nx d := by
  unfold fldV at h
  split at h
  case h_2 => cases h
  rename_i fs hT
  split at h
  case h_2 => cases h
  rename_i f hf
  split at h
  case h_2 => cases h
  rename_i sz hsz
  split at h
  · rename_i id off hx
    exact ⟨_, h, .ptr _ _ (hs.ltd hx).ptrL, fun ρ => by have ex := hs.evs hx ρ; rw [sub_ptr] at ex ⊢; exact .fieldP ho ex hT hf hsz⟩
  · rename_i cs hx
    exact ⟨_, h, .fp _ (ltd_drop (hs.ltd hx).fpL _), fun ρ => by have ex := hs.evs hx ρ; rw [sub_fp] at ex ⊢; rw [List.map_drop]; exact .fieldF ho ex hT hf hsz⟩
  · rename_i id t m off hx
    exact ⟨_, h, .ra _ _ _ _ (hs.ltd hx).raL, fun ρ => by have ex := hs.evs hx ρ; rw [sub_ra] at ex ⊢; rw [← Nat.add_assoc]; exact .fieldR ho ex hT hf hsz⟩
  · cases h

def idxV (P : Program) (rd : Nat → Option IR) (T : TypeId) (x y : Option AV) (K : AV → Option α) : Option α := match y with
  | some (.lit (.int _ m)) => match P.underlying T with
    | some (.slice e) => match x with
      | some (.sl t l) => match szIs P e (U.sz t) with
        | true => if 0 ≤ m ∧ m < (l.length : Int) then K (.fp (U.cells t l[m.toNat]!)) else none
        | false => none
      | some (.own id) => match rd id with
        | some (.row t l) => match szIs P e (U.sz t) with
          | true => if 0 ≤ m ∧ m < (l.length : Int) then K (.ra id t m.toNat 0) else none
          | false => none
        | _ => none
      | _ => none
    | some (.array n e) => match (P.info? e).map (·.size) with
      | some sz => if 0 ≤ m ∧ m < (n : Int) then (match x with
        | some (.ptr id off) => K (.ptr id (off + m.toNat * sz))
        | some (.fp cs) => K (.fp (cs.drop (m.toNat * sz)))
        | some (.ra id t j off) => K (.ra id t j (off + m.toNat * sz))
        | _ => none) else none
      | none => none
    | _ => none
  | _ => none
theorem idxV_ok {T : TypeId} (hs : See ev rd nx E R) (ho : o.op = .indexAddr T x y) {K : AV → Option α} (h : idxV P rd T (ev x) (ev y) K = some r) : ∃ d, K d = some r ∧ Pu P o E R nx d := by
  unfold idxV at h
  split at h
  case h_2 => cases h
  rename_i k m hy
  have ey := fun ρ => hs.evs hy ρ
  simp only [sub_lit] at ey
  split at h
  · rename_i e hT
    split at h
    · rename_i t l hx
      split at h
      case h_2 => cases h
      rename_i hsz
      split at h
      · rename_i hm
        exact ⟨_, h, .fp _ (L.ltd t _ nx), fun ρ => by have ex := hs.evs hx ρ; rw [sub_sl] at ex; rw [sub_fp, L.clo]; exact .indexSl ho ex (ey ρ) hT (szIs_ok hsz) hm⟩
      · cases h
    · rename_i id hx
      split at h
      case h_2 => cases h
      rename_i t l hr
      split at h
      case h_2 => cases h
      rename_i hsz
      split at h
      · rename_i hm
        refine ⟨_, h, .ra _ _ _ _ (hs.ltd hx).ownL, fun ρ => ?_⟩
        have ex := hs.evs hx ρ
        rw [sub_own] at ex
        obtain ⟨i, hi⟩ := hs.row hr ρ
        rw [sub_ra, Nat.add_zero]
        exact .indexRow i ho ex hi (ey ρ) hT (szIs_ok hsz) hm
      · cases h
    · cases h
  · rename_i n e hT
    split at h
    case h_2 => cases h
    rename_i sz hsz
    split at h
    case isFalse => cases h
    rename_i hm
    split at h
    · rename_i id off hx
      exact ⟨_, h, .ptr _ _ (hs.ltd hx).ptrL, fun ρ => by have ex := hs.evs hx ρ; rw [sub_ptr] at ex ⊢; exact .indexP ho ex (ey ρ) hT hsz hm⟩
    · rename_i cs hx
      exact ⟨_, h, .fp _ (ltd_drop (hs.ltd hx).fpL _), fun ρ => by have ex := hs.evs hx ρ; rw [sub_fp] at ex ⊢; rw [List.map_drop]; exact .indexF ho ex (ey ρ) hT hsz hm⟩
    · rename_i id t j off hx
      exact ⟨_, h, .ra _ _ _ _ (hs.ltd hx).raL, fun ρ => by have ex := hs.evs hx ρ; rw [sub_ra] at ex ⊢; rw [← Nat.add_assoc]; exact .indexR ho ex (ey ρ) hT hsz hm⟩
    · cases h
  · cases h

def ldV (P : Program) (rd : Nat → Option IR) (T : TypeId) (x : Option AV) (K : AV → Option α) : Option α := match oneB P T with
  | true => match x with
    | some (.fp cs) => (cs[0]?).bind K
    | some (.ptr id off) => match rd id with
      | some (.box _ cs) => (cs[off]?).bind K
      | _ => none
    | some (.ra id t m off) => match rd id with
      | some (.row t' l) => if t = t' ∧ m < l.length then ((U.cells t' l[m]!)[off]?).bind K else none
      | _ => none
    | _ => none
  | false => match manyB P T with
    | some n => match x with
      | some (.fp cs) => match Nat.ble n cs.length with
        | true => K (.agg (cs.take n))
        | false => none
      | some (.ptr id off) => match rd id with
        | some (.box _ cs) => match Nat.ble (off + n) cs.length with
          | true => K (.agg ((cs.drop off).take n))
          | false => none
        | _ => none
      | some (.ra id t m off) => match rd id with
        | some (.row t' l) => match Nat.ble (off + n) (U.sz t') with
          | true => if t = t' ∧ m < l.length then K (.agg (((U.cells t' l[m]!).drop off).take n)) else none
          | false => none
        | _ => none
      | _ => none
    | none => none
theorem ldV_ok {T : TypeId} (hs : See ev rd nx E R) (ho : o.op = .load T x) {K : AV → Option α} (h : ldV P rd T (ev x) K = some r) : ∃ d, K d = some r ∧ Pu P o E R nx d := by
  unfold ldV at h
  split at h
  · rename_i hT
    have hT := oneB_ok hT
    split at h
    · rename_i cs hx
      obtain ⟨d, hd, h⟩ := Option.bind_eq_some_iff.1 h
      exact ⟨d, h, ltd_get (hs.ltd hx).fpL hd, fun ρ => by have ex := hs.evs hx ρ; rw [sub_fp] at ex; exact .loadF1 ho ex hT (by rw [List.getElem?_map, hd]; rfl)⟩
    · rename_i id off hx
      split at h
      case h_2 => cases h
      rename_i t cs hr
      obtain ⟨d, hd, h⟩ := Option.bind_eq_some_iff.1 h
      refine ⟨d, h, ltd_get (hs.boxL hr) hd, fun ρ => ?_⟩
      have ex := hs.evs hx ρ
      rw [sub_ptr] at ex
      obtain ⟨i, hi⟩ := hs.box hr ρ
      exact .loadB1 i ho ex hi hT (by rw [List.getElem?_map, hd]; rfl)
    · rename_i id t m off hx
      split at h
      case h_2 => cases h
      rename_i t' l hr
      split at h
      case isFalse => cases h
      rename_i hm
      obtain ⟨rfl, hm⟩ := hm
      obtain ⟨d, hd, h⟩ := Option.bind_eq_some_iff.1 h
      refine ⟨d, h, ltd_get (L.ltd t _ nx) hd, fun ρ => ?_⟩
      have ex := hs.evs hx ρ
      rw [sub_ra] at ex
      obtain ⟨i, hi⟩ := hs.row hr ρ
      have hc : d.sub ρ = d := by
        have := L.clo t l[m]! ρ
        have h2 : ((U.cells t l[m]!).map (AVq.sub ρ))[off]? = some (d.sub ρ) := by rw [List.getElem?_map, hd]; rfl
        rw [this, hd] at h2
        exact (Option.some.inj h2).symm
      rw [hc]
      exact .loadR1 i m ho ex hi hT rfl hm hd
    · cases h
  · split at h
    case h_2 => cases h
    rename_i n hT
    have hT := manyB_ok hT
    split at h
    · rename_i cs hx
      split at h
      case h_2 => cases h
      rename_i hn
      exact ⟨_, h, .agg _ (ltd_take (hs.ltd hx).fpL _), fun ρ => by have ex := hs.evs hx ρ; rw [sub_fp] at ex; rw [sub_agg, List.map_take]; exact .loadFN ho ex hT (by rw [List.length_map]; exact Nat.le_of_ble_eq_true hn)⟩
    · rename_i id off hx
      split at h
      case h_2 => cases h
      rename_i t cs hr
      split at h
      case h_2 => cases h
      rename_i hn
      refine ⟨_, h, .agg _ (ltd_take (ltd_drop (hs.boxL hr) _) _), fun ρ => ?_⟩
      have ex := hs.evs hx ρ
      rw [sub_ptr] at ex
      obtain ⟨i, hi⟩ := hs.box hr ρ
      rw [sub_agg, List.map_take, List.map_drop]
      exact .loadBN i ho ex hi hT (by rw [List.length_map]; exact Nat.le_of_ble_eq_true hn)
    · rename_i id t m off hx
      split at h
      case h_2 => cases h
      rename_i t' l hr
      split at h
      case h_2 => cases h
      rename_i hn
      split at h
      case isFalse => cases h
      rename_i hm
      obtain ⟨rfl, hm⟩ := hm
      refine ⟨_, h, .agg _ (ltd_take (ltd_drop (L.ltd t _ nx) _) _), fun ρ => ?_⟩
      have ex := hs.evs hx ρ
      rw [sub_ra] at ex
      obtain ⟨i, hi⟩ := hs.row hr ρ
      rw [sub_agg, List.map_take, List.map_drop, L.clo]
      exact .loadRN i m ho ex hi hT rfl hm (Nat.le_of_ble_eq_true hn)
    · cases h
end
end Go.Iv
