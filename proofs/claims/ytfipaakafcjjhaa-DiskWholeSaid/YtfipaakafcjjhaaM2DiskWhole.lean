/- Merged: Iw2, Iw3, Iv10, Ivc, Iw4, Iw5, Iwn, Iv8, Iw6, Iw7, Iw8, Iw9, Iw10, Iw11. -/
import Derived.Test.YtfipaakafcjjhaaM1DiskWhole
import Derived.Laws.StructEq
import Derived.Lib.AppendZerosOnto
import Derived.RangeFuncNested
import Derived.RangeFuncBound
import Derived.Shelf.Abstract
import Derived.TacticsIn
import Derived.OwnWalkIn
section
set_option linter.unusedSectionVars false
set_option linter.unusedVariables false
set_option linter.unusedSimpArgs false
namespace Go.Iv
variable [U : Uni]
open Go Go.RowKit

/-- What is known of the data: every element has its cells, each of which can lie in a cell; what cells make an element. -/
class UniL [U : Uni] where
  len : ∀ t x, (U.cells t x).length = U.sz t
  one : ∀ t x, (U.cells t x).all acell1 = true
  clo : ∀ t x ρ, (U.cells t x).map (AVq.sub ρ) = U.cells t x
  ltd : ∀ t x n, ∀ c ∈ U.cells t x, Ltd n c
  parse : (t : Nat) → List AV → Option (U.Dat t)
  parse_ok : ∀ t cs x, parse t cs = some x → ∀ A w us, RelL A w cs us → RelL A w (U.cells t x) us
  nums : (t : Nat) → List (U.Dat t) → Option (List Int)
  nums_ok : ∀ t l ns, nums t l = some ns → l.flatMap (U.cells t) = ns.map (.n .u8) ∧ U.sz t = 1
  /-- the functions that are given data only -/
  fz : Nat → Bool := fun _ => false
  /-- arrays of truth values: read and set -/
  arr : Nat → Bool := fun _ => false
  gtB : (t : Nat) → U.Dat t → Nat → Bool := fun _ _ _ => false
  stB : (t : Nat) → U.Dat t → Nat → Bool → U.Dat t := fun _ x _ _ => x
  arr_get : ∀ t, arr t = true → ∀ x i, i < U.sz t → (U.cells t x)[i]? = some (.lit (.bool (gtB t x i))) := by intro t h; exact Bool.noConfusion h
  arr_set : ∀ t, arr t = true → ∀ x i b, i < U.sz t → U.cells t (stB t x i b) = (U.cells t x).take i ++ [.lit (.bool b)] ++ (U.cells t x).drop (i + 1) := by intro t h; exact Bool.noConfusion h
variable [L : UniL]

def szIs (P : Program) (t n : Nat) : Bool := match P.info? t with
  | some i => Nat.beq i.size n
  | none => false
theorem szIs_ok {P : Program} {t n : Nat} (h : szIs P t n = true) : (P.info? t).map (·.size) = some n := by
  unfold szIs at h
  cases hi : P.info? t with
  | none => rw [hi] at h; cases h
  | some i =>
    rw [hi] at h
    simp only [Option.map_some, Option.some.injEq]
    exact beqT h
def oneB (P : Program) (t : Nat) : Bool := match P.underlying t with
  | some (.struct _) => false
  | some (.array _ _) => false
  | some _ => true
  | none => false
theorem oneB_ok {P : Program} {t : Nat} (h : oneB P t = true) : isOne P t := by
  unfold oneB at h
  unfold isOne
  split at h
  · cases h
  · cases h
  · rename_i d hd
    refine ⟨_, hd, ?_⟩
    split
    · simp_all
    · simp_all
    · trivial
  · cases h
def manyB (P : Program) (t : Nat) : Option Nat := match P.underlying t with
  | some (.struct _) => (P.info? t).map (·.size)
  | some (.array _ _) => (P.info? t).map (·.size)
  | _ => none
theorem manyB_ok {P : Program} {t n : Nat} (h : manyB P t = some n) : isMany P t n := by
  unfold manyB at h
  split at h
  · rename_i hd; exact ⟨⟨_, hd, trivial⟩, h⟩
  · rename_i hd; exact ⟨⟨_, hd, trivial⟩, h⟩
  · cases h

def dcell1 (rd : Nat → Option IR) : AV → Bool
  | .own id => match rd id with
    | some (.row _ _) => true
    | _ => false
  | .ptr _ _ => true
  | .ra _ _ _ _ => false
  | d => acell1 d
def dplain (rd : Nat → Option IR) : AV → Bool
  | .agg cs => cs.all (dcell1 rd)
  | d => dcell1 rd d

section
variable {α : Type} {r : α} {P : Program} {o : Oper} {E : Env} {R : IRs} {nx : Nat} {ev : Operand → Option AV} {rd : Nat → Option IR} {x y z : Operand} {d : AV}

/-- what the step looks at is there -/
structure See (ev : Operand → Option AV) (rd : Nat → Option IR) (nx : Nat) (E : Env) (R : IRs) : Prop where
  e : ∀ x d, ev x = some d → E.ev x = some d
  r : ∀ id r, rd id = some r → rget R id = some r
  le : E.Ltd nx
  lr : IRs.Ltd nx R

theorem See.evs (h : See ev rd nx E R) (hx : ev x = some d) (ρ : Gh) : (E.sub ρ).ev x = some (d.sub ρ) := by
  rw [Env.sub_ev, h.e _ _ hx]; rfl
theorem See.ltd (h : See ev rd nx E R) (hx : ev x = some d) : Ltd nx d := Env.ev_ltd h.le (h.e _ _ hx)
theorem See.row (h : See ev rd nx E R) {id t : Nat} {l : List (U.Dat t)} (hr : rd id = some (.row t l)) (ρ : Gh) : ∃ i : Nat, (IRs.res ρ R)[i]? = some (.row (ρ.v id) t l) := by
  obtain ⟨i, h1, _⟩ := rget_idx (h.r _ _ hr)
  exact ⟨i, res_get h1⟩
theorem See.box (h : See ev rd nx E R) {id t : Nat} {cs : List AV} (hr : rd id = some (.box t cs)) (ρ : Gh) : ∃ i : Nat, (IRs.res ρ R)[i]? = some (.box (ρ.b id) t (cs.map (AVq.sub ρ))) := by
  obtain ⟨i, h1, _⟩ := rget_idx (h.r _ _ hr)
  exact ⟨i, res_get h1⟩
theorem See.boxL (h : See ev rd nx E R) {id t : Nat} {cs : List AV} (hr : rd id = some (.box t cs)) : ∀ c ∈ cs, Ltd nx c := (rget_ltd (h.r _ _ hr) h.lr).2

/-- A pure operation: it yields d. -/
def Pu (P : Program) (o : Oper) (E : Env) (R : IRs) (nx : Nat) (d : AV) : Prop := Ltd nx d ∧ ∀ ρ, Yp P (E.sub ρ) (IRs.res ρ R) o (d.sub ρ)

theorem sub_lit (ρ : Gh) (v : Value) : AVq.sub ρ (.lit v) = .lit v := by simp only [AVq.sub]
theorem sub_sl (ρ : Gh) (t : Nat) (l : List (U.Dat t)) : AVq.sub ρ (.sl t l) = .sl t l := by simp only [AVq.sub]
theorem sub_own (ρ : Gh) (id : Nat) : AVq.sub ρ (.own id) = .lit (ρ.v id) := by simp only [AVq.sub]
theorem sub_ptr (ρ : Gh) (id off : Nat) : AVq.sub ρ (.ptr id off) = .lit (.pointer (some ⟨ρ.b id, off, none⟩)) := by simp only [AVq.sub]
theorem sub_ra (ρ : Gh) (id t m off : Nat) : AVq.sub ρ (.ra id t m off) = .rp (ρ.v id) (m * U.sz t + off) := by simp only [AVq.sub]
theorem sub_fp (ρ : Gh) (cs : List AV) : AVq.sub ρ (.fp cs) = .fp (cs.map (AVq.sub ρ)) := by simp only [AVq.sub]
theorem sub_agg (ρ : Gh) (cs : List AV) : AVq.sub ρ (.agg cs) = .agg (cs.map (AVq.sub ρ)) := by simp only [AVq.sub]
theorem sub_tup (ρ : Gh) (cs : List AV) : AVq.sub ρ (.tup cs) = .tup (cs.map (AVq.sub ρ)) := by simp only [AVq.sub]
theorem sub_fn (ρ : Gh) (f : Go.Fn) (cs : List AV) : AVq.sub ρ (.fn f cs) = .fn f (cs.map (AVq.sub ρ)) := by simp only [AVq.sub]

theorem Pu.lit {v : Value} (h : ∀ ρ, Yp P (E.sub ρ) (IRs.res ρ R) o (.lit v)) : Pu P o E R nx (.lit v) := ⟨.lit v, fun ρ => by rw [sub_lit]; exact h ρ⟩

/-! ### arithmetic -/

def binI (b : BinOp) (k : IntKind) (m n : Int) (K : AV → Option α) : Option α := match b with
  | .add => K (.n k (k.wrap (m + n)))
  | .sub => K (.n k (k.wrap (m - n)))
  | .mul => K (.n k (k.wrap (m * n)))
  | .quo => if n ≠ 0 then K (.n k (k.wrap (Int.tdiv m n))) else none
  | .rem => if n ≠ 0 then K (.n k (Int.tmod m n)) else none
  | .and => K (.n k (bAnd k m n))
  | .or => K (.n k (bOr k m n))
  | .xor => K (.n k (bXor k m n))
  | .andNot => K (.n k (bClr k m n))
  | .lss => K (.b (decide (m < n)))
  | .leq => K (.b (decide (m ≤ n)))
  | .gtr => K (.b (decide (n < m)))
  | .geq => K (.b (decide (n ≤ m)))
  | .eql => K (.b (decide (m = n)))
  | .neq => K (.b (!decide (m = n)))
  | _ => none

theorem Yp.eqNilS {T T' e q : Nat} {E : Env} {σ : List Res} {l : List (U.Dat q)} (ho : o.op = .binOp .eql T x y T') (hx : E.ev x = some (.sl q l)) (hy : E.ev y = some (.lit (.slice none 0 0))) (hT : P.underlying T = some (.slice e)) (hl : l ≠ []) : Yp P E σ o (.b false) := fun A w ρ _ hρ => by
  obtain ⟨p, cap, u, hv, _, _, _, hc, _⟩ := (hρ _ _ hx).slInv
  have h2 := (hρ _ _ hy).litEq
  obtain ⟨b, off, hp, _⟩ := hc 0 (List.length_pos_iff.2 hl)
  subst hp
  refine ⟨_, .lit _, fun w' _ => ?_⟩
  have h1 := Lib.run_eql_slice_nil (P := P) w' T e (some ⟨b, off, none⟩) l.length cap 0 0 hT
  simp [execOp, ho, hv, h2, eqGuard, h1]
theorem Yp.eqNilO {T T' e q i : Nat} {v : Value} {E : Env} {σ : List Res} {l : List (U.Dat q)} (ho : o.op = .binOp .eql T x y T') (hx : E.ev x = some (.lit v)) (hσ : σ[i]? = some (.row v q l)) (hy : E.ev y = some (.lit (.slice none 0 0))) (hT : P.underlying T = some (.slice e)) (hl : l ≠ []) : Yp P E σ o (.b false) := fun A w ρ hd hρ => by
  obtain ⟨us, h1, _⟩ := hd.1 _ (List.mem_of_getElem? hσ)
  obtain ⟨g, cap, cur, hv, _⟩ := h1.at (List.length_pos_iff.2 hl)
  have hx' := (hρ _ _ hx).litEq
  have h2 := (hρ _ _ hy).litEq
  refine ⟨_, .lit _, fun w' _ => ?_⟩
  have h1 := Lib.run_eql_slice_nil (P := P) w' T e (some ⟨g, 0, none⟩) l.length (cap + 1) 0 0 hT
  simp [execOp, ho, hx', hv, h2, eqGuard, h1]

/-! ### structs compared -/

def eqCell (P : Program) (t : TypeId) (a b : AV) : Option Bool := match P.underlying t with
  | some (.int _) => match a, b with
    | .lit (.int k m), .lit (.int k' n) => if k = k' then some (decide (m = n)) else none
    | _, _ => none
  | some .bool => match a, b with
    | .lit (.bool p), .lit (.bool q) => some (p == q)
    | _, _ => none
  | some .string => match a, b with
    | .lit (.string p), .lit (.string q) => some (p.toList == q.toList)
    | _, _ => none
  | _ => none
def eqFs (P : Program) (xs ys : List AV) : List Field → Option Bool
  | [] => some true
  | f :: fs => match (f.name != "_") && oneB P f.type with
    | true => match xs[f.offset]?, ys[f.offset]? with
      | some a, some b => (eqCell P f.type a b).bind fun r => (eqFs P xs ys fs).map fun q => r && q
      | _, _ => none
    | false => none
theorem run_part_one {P : Program} {t : TypeId} (h : isOne P t) {us : List Value} {i : Nat} {v : Value} (hv : us[i]? = some v) (w : World) : (part t us.toArray i).run P w = .ok v w := by
  unfold part
  rw [Sem.run_bind, run_isAgg_one h]
  simp [hv]
theorem eqCell_run {P : Program} {t : TypeId} {a b : AV} {q : Bool} (h : eqCell P t a b = some q) {A A' : Nat → Prop} {w w' w'' : World} {u v : Value} {ρ ρ' : Gh} (ha : Rel A w (a.sub ρ) u) (hb : Rel A' w' (b.sub ρ') v) (d : Nat) : (Op.equalIn (d + 1) t u v).run P w'' = .ok q w'' := by
  unfold eqCell at h
  split at h
  · rename_i k0 ht
    split at h
    · split at h
      · rename_i hk
        subst hk
        cases h
        simp only [AVq.sub] at ha hb
        rw [ha.litEq, hb.litEq]
        exact run_equalIn_int _ d t _ k0 _ _ ht
      · cases h
    · cases h
  · rename_i ht
    split at h
    · cases h
      simp only [AVq.sub] at ha hb
      rw [ha.litEq, hb.litEq]
      exact run_equalIn_bool' _ d t _ _ ht
    · cases h
  · rename_i ht
    split at h
    · cases h
      simp only [AVq.sub] at ha hb
      rw [ha.litEq, hb.litEq]
      exact run_equalIn_string _ d t _ _ ht
    · cases h
  · cases h
theorem eqFs_run {P : Program} {xs ys : List AV} {A A' : Nat → Prop} {w w' w'' : World} {us vs : List Value} {ρ ρ' : Gh} (ha : RelL A w (xs.map (AVq.sub ρ)) us) (hb : RelL A' w' (ys.map (AVq.sub ρ')) vs) (d : Nat) : ∀ {fs : List Field} {q : Bool}, eqFs P xs ys fs = some q → (Op.eqFields (d + 1) us.toArray vs.toArray fs).run P w'' = .ok q w''
  | [], q, h => by cases h; simp [Op.eqFields]
  | f :: fs, q, h => by
    unfold eqFs at h
    split at h
    case h_2 => cases h
    rename_i hf
    simp only [Bool.and_eq_true, bne_iff_ne, ne_eq] at hf
    split at h
    case h_2 => cases h
    rename_i a b hx hy
    obtain ⟨r1, h1, h⟩ := Option.bind_eq_some_iff.1 h
    obtain ⟨q1, h2, rfl⟩ := Option.map_eq_some_iff.1 h
    obtain ⟨u, hu, hu'⟩ := ha.get (a := a.sub ρ) (j := f.offset) (by rw [List.getElem?_map, hx]; rfl)
    obtain ⟨v, hv, hv'⟩ := hb.get (a := b.sub ρ') (j := f.offset) (by rw [List.getElem?_map, hy]; rfl)
    have ih := eqFs_run (w'' := w'') ha hb d h2
    have hone := oneB_ok hf.2
    unfold Op.eqFields
    rw [if_pos hf.1]
    simp only [Sem.run_bind, run_part_one hone hu, run_part_one hone hv, Result.andThen_ok, eqCell_run (w'' := w'') h1 hu' hv' d]
    cases r1 with
    | true => simpa using ih
    | false => simp
theorem Yp.seq' {T T' : TypeId} {E : Env} {σ : List Res} {b : BinOp} {cs ds : List AV} {fs : Array Field} {q : Bool} {ρ ρ' : Gh} (ho : o.op = .binOp b T x y T') (hx : E.ev x = some (.agg (cs.map (AVq.sub ρ)))) (hy : E.ev y = some (.agg (ds.map (AVq.sub ρ')))) (hT : P.underlying T = some (.struct fs)) (hp : P.stoodInHeld T = false) (hg : P.eqGuardType P.depth T = false) (hq : eqFs P cs ds fs.toList = some q) (hb : b = .eql ∨ b = .neq) :
    Yp P E σ o (.b (match b with | .neq => !q | _ => q)) := fun A w ϱ _ hρ => by
  obtain ⟨us, h1, h2⟩ := (hρ _ _ hx).aggInv
  obtain ⟨vs, h3, h4⟩ := (hρ _ _ hy).aggInv
  refine ⟨_, .lit _, fun w' _ => ?_⟩
  have hT' : P.underlying T = some (.struct (P.fieldsOf T)) := by unfold Program.fieldsOf; rw [hT]
  have hfs : P.fieldsOf T = fs := by unfold Program.fieldsOf; rw [hT]
  have he := run_equalIn_struct (P := P) w' 9999 T us.toArray vs.toArray hT' hp
  rw [hfs, eqFs_run (w'' := w') h2 h4 9998 hq] at he
  have hgr := run_eqGuard_agg (P := P) w' b T x y us.toArray vs.toArray hg
  rcases hb with rfl | rfl
  · have h5 := run_eql_struct (P := P) w' T us.toArray vs.toArray
    rw [he] at h5
    simp [execOp, ho, h1, h3, hgr, h5]
  · have h5 := run_neq_struct (P := P) w' T us.toArray vs.toArray
    rw [he] at h5
    simp [execOp, ho, h1, h3, hgr, h5]

def eqS (P : Program) (b : BinOp) (T : TypeId) (cs ds : List AV) (K : AV → Option α) : Option α := match P.underlying T with
  | some (.struct fs) => match !P.stoodInHeld T && !P.eqGuardType P.depth T with
    | true => match b with
      | .eql => (eqFs P cs ds fs.toList).bind fun q => K (.b q)
      | .neq => (eqFs P cs ds fs.toList).bind fun q => K (.b (!q))
      | _ => none
    | false => none
  | _ => none
theorem eqS_ok {b : BinOp} {T T' : TypeId} {cs ds : List AV} (hs : See ev rd nx E R) (ho : o.op = .binOp b T x y T') (hx : ev x = some (.agg cs)) (hy : ev y = some (.agg ds)) {K : AV → Option α} (h : eqS P b T cs ds K = some r) : ∃ d, K d = some r ∧ Pu P o E R nx d := by
  unfold eqS at h
  split at h
  case h_2 => cases h
  rename_i fs hT
  split at h
  case h_2 => cases h
  rename_i hg
  simp only [Bool.and_eq_true, Bool.not_eq_true'] at hg
  have ex := fun ρ => hs.evs hx ρ
  have ey := fun ρ => hs.evs hy ρ
  simp only [sub_agg] at ex ey
  split at h
  · obtain ⟨q, hq, h⟩ := Option.bind_eq_some_iff.1 h
    exact ⟨_, h, .lit fun ρ => .seq' ho (ex ρ) (ey ρ) hT hg.1 hg.2 hq (.inl rfl)⟩
  · obtain ⟨q, hq, h⟩ := Option.bind_eq_some_iff.1 h
    exact ⟨_, h, .lit fun ρ => .seq' ho (ex ρ) (ey ρ) hT hg.1 hg.2 hq (.inr rfl)⟩
  · cases h

def binV (P : Program) (rd : Nat → Option IR) (b : BinOp) (T : TypeId) (x y : Option AV) (K : AV → Option α) : Option α := match x, y with
  | some (.lit (.int k m)), some (.lit (.int k' n)) => match b with
    | .shl => if 0 ≤ n then K (.n k (bShl k m n)) else none
    | .shr => if 0 ≤ n then K (.n k (bShr k m n)) else none
    | _ => if k = k' then binI b k m n K else none
  | some (.lit (.bool p)), some (.lit (.bool q)) => match P.underlying T with
    | some .bool => match b with
      | .eql => K (.b (p == q))
      | .neq => K (.b (!(p == q)))
      | _ => none
    | _ => none
  | some (.lit (.string s)), some (.lit (.string t)) => match b with
    | .eql => K (.b (s.toList == t.toList))
    | .neq => K (.b (!(s.toList == t.toList)))
    | _ => none
  | some (.lit (.slice p _ _)), some (.lit (.slice none 0 0)) => match b, P.underlying T with
    | .eql, some (.slice _) => K (.b p.isNone)
    | _, _ => none
  | some (.sl _ l), some (.lit (.slice none 0 0)) => match b, P.underlying T with
    | .eql, some (.slice _) => match l with
      | [] => none
      | _ :: _ => K (.b false)
    | _, _ => none
  | some (.own id), some (.lit (.slice none 0 0)) => match b, P.underlying T with
    | .eql, some (.slice _) => match rd id with
      | some (.row _ (_ :: _)) => K (.b false)
      | _ => none
    | _, _ => none
  | some (.agg cs), some (.agg ds) => eqS P b T cs ds K
  | _, _ => none

theorem binV_ok {b : BinOp} {T T' : TypeId} (hs : See ev rd nx E R) (ho : o.op = .binOp b T x y T') {K : AV → Option α} (h : binV P rd b T (ev x) (ev y) K = some r) : ∃ d, K d = some r ∧ Pu P o E R nx d := by
  unfold binV at h
  split at h
  · rename_i k m k' n hx hy
    have ex := fun ρ => hs.evs hx ρ
    have ey := fun ρ => hs.evs hy ρ
    simp only [sub_lit] at ex ey
    split at h
    · split at h
      · rename_i h0; exact ⟨_, h, .lit fun ρ => .shl ho (ex ρ) (ey ρ) h0⟩
      · cases h
    · split at h
      · rename_i h0; exact ⟨_, h, .lit fun ρ => .shr ho (ex ρ) (ey ρ) h0⟩
      · cases h
    · split at h
      · rename_i hk
        subst hk
        unfold binI at h
        split at h
        · exact ⟨_, h, .lit fun ρ => .add ho (ex ρ) (ey ρ)⟩
        · exact ⟨_, h, .lit fun ρ => .sub ho (ex ρ) (ey ρ)⟩
        · exact ⟨_, h, .lit fun ρ => .mul ho (ex ρ) (ey ρ)⟩
        · split at h
          · rename_i h0; exact ⟨_, h, .lit fun ρ => .quo ho (ex ρ) (ey ρ) h0⟩
          · cases h
        · split at h
          · rename_i h0; exact ⟨_, h, .lit fun ρ => .rem ho (ex ρ) (ey ρ) h0⟩
          · cases h
        · exact ⟨_, h, .lit fun ρ => .and ho (ex ρ) (ey ρ)⟩
        · exact ⟨_, h, .lit fun ρ => .or ho (ex ρ) (ey ρ)⟩
        · exact ⟨_, h, .lit fun ρ => .xor ho (ex ρ) (ey ρ)⟩
        · exact ⟨_, h, .lit fun ρ => .andNot ho (ex ρ) (ey ρ)⟩
        · exact ⟨_, h, .lit fun ρ => .lss ho (ex ρ) (ey ρ)⟩
        · exact ⟨_, h, .lit fun ρ => .leq ho (ex ρ) (ey ρ)⟩
        · exact ⟨_, h, .lit fun ρ => .gtr ho (ex ρ) (ey ρ)⟩
        · exact ⟨_, h, .lit fun ρ => .geq ho (ex ρ) (ey ρ)⟩
        · exact ⟨_, h, .lit fun ρ => .eql ho (ex ρ) (ey ρ)⟩
        · exact ⟨_, h, .lit fun ρ => .neq ho (ex ρ) (ey ρ)⟩
        · cases h
      · cases h
  · rename_i p q hx hy
    have ex := fun ρ => hs.evs hx ρ
    have ey := fun ρ => hs.evs hy ρ
    simp only [sub_lit] at ex ey
    split at h
    · rename_i hT
      split at h
      · exact ⟨_, h, .lit fun ρ => .beql ho hT (ex ρ) (ey ρ)⟩
      · exact ⟨_, h, .lit fun ρ => .bneq ho hT (ex ρ) (ey ρ)⟩
      · cases h
    · cases h
  · rename_i s t hx hy
    have ex := fun ρ => hs.evs hx ρ
    have ey := fun ρ => hs.evs hy ρ
    simp only [sub_lit] at ex ey
    split at h
    · exact ⟨_, h, .lit fun ρ => .seql ho (ex ρ) (ey ρ)⟩
    · exact ⟨_, h, .lit fun ρ => .sneq ho (ex ρ) (ey ρ)⟩
    · cases h
  · rename_i p l c hx hy
    have ex := fun ρ => hs.evs hx ρ
    have ey := fun ρ => hs.evs hy ρ
    simp only [sub_lit] at ex ey
    split at h
    · rename_i hT
      exact ⟨_, h, .lit fun ρ => .eqNilL ho (ex ρ) (ey ρ) hT⟩
    · cases h
  · rename_i t l hx hy
    have ex := fun ρ => hs.evs hx ρ
    have ey := fun ρ => hs.evs hy ρ
    simp only [sub_lit] at ey
    simp only [sub_sl] at ex
    split at h
    · rename_i hT
      split at h
      · cases h
      · exact ⟨_, h, .lit fun ρ => .eqNilS ho (ex ρ) (ey ρ) hT (by simp)⟩
    · cases h
  · rename_i id hx hy
    have ex := fun ρ => hs.evs hx ρ
    have ey := fun ρ => hs.evs hy ρ
    simp only [sub_lit] at ey
    simp only [sub_own] at ex
    split at h
    · rename_i hT
      split at h
      · rename_i hr
        exact ⟨_, h, .lit fun ρ => by
          obtain ⟨i, hi⟩ := hs.row hr ρ
          exact .eqNilO ho (ex ρ) hi (ey ρ) hT (by simp)⟩
      · cases h
    · cases h
  · rename_i cs ds hx hy
    exact eqS_ok hs ho hx hy h
  · cases h

def unV (b : UnOp) (x : Option AV) (K : AV → Option α) : Option α := match b, x with
  | .not, some (.lit (.bool p)) => K (.b (!p))
  | .neg, some (.lit (.int k n)) => K (.n k (k.wrap (0 - n)))
  | _, _ => none
theorem unV_ok {b : UnOp} {T : TypeId} (hs : See ev rd nx E R) (ho : o.op = .unOp b T x) {K : AV → Option α} (h : unV b (ev x) K = some r) : ∃ d, K d = some r ∧ Pu P o E R nx d := by
  unfold unV at h
  split at h
  · rename_i p hx
    have ex := fun ρ => hs.evs hx ρ
    simp only [sub_lit] at ex
    exact ⟨_, h, .lit fun ρ => .not ho (ex ρ)⟩
  · rename_i p hx
    have ex := fun ρ => hs.evs hx ρ
    simp only [sub_lit] at ex
    exact ⟨_, h, .lit fun ρ => .neg ho (ex ρ)⟩
  · cases h

/-! ### addresses and loads -/

def nilV (x : Option AV) (K : AV → Option α) : Option α := match x with
  | some (.ptr id off) => K (.ptr id off)
  | some (.fp cs) => K (.fp cs)
  | some (.ra id t m off) => K (.ra id t m off)
  | _ => none
theorem nilV_ok (hs : See ev rd nx E R) (ho : o.op = .nilCheck x) {K : AV → Option α} (h : nilV (ev x) K = some r) : ∃ d, K d = some r ∧ Pu P o E R nx d := by
  unfold nilV at h
  split at h
  · rename_i hx
    exact ⟨_, h, hs.ltd hx, fun ρ => by have ex := hs.evs hx ρ; rw [sub_ptr] at ex ⊢; exact .nilCheckP ho ex⟩
  · rename_i hx
    exact ⟨_, h, hs.ltd hx, fun ρ => by have ex := hs.evs hx ρ; rw [sub_fp] at ex ⊢; exact .nilCheckF ho ex⟩
  · rename_i hx
    exact ⟨_, h, hs.ltd hx, fun ρ => by have ex := hs.evs hx ρ; rw [sub_ra] at ex ⊢; exact .nilCheckR ho ex⟩
  · cases h

theorem ltd_drop {n : Nat} {cs : List AV} (h : ∀ c ∈ cs, Ltd n c) (k : Nat) : ∀ c ∈ cs.drop k, Ltd n c := fun c hc => h c (List.mem_of_mem_drop hc)
theorem ltd_take {n : Nat} {cs : List AV} (h : ∀ c ∈ cs, Ltd n c) (k : Nat) : ∀ c ∈ cs.take k, Ltd n c := fun c hc => h c (List.mem_of_mem_take hc)
theorem Ltd.fpL {n : Nat} {cs : List AV} (h : Ltd n (.fp cs)) : ∀ c ∈ cs, Ltd n c := by cases h; assumption
theorem Ltd.aggL {n : Nat} {cs : List AV} (h : Ltd n (.agg cs)) : ∀ c ∈ cs, Ltd n c := by cases h; assumption
theorem Ltd.tupL {n : Nat} {cs : List AV} (h : Ltd n (.tup cs)) : ∀ c ∈ cs, Ltd n c := by cases h; assumption
theorem Ltd.fnL {n : Nat} {f : Go.Fn} {cs : List AV} (h : Ltd n (.fn f cs)) : ∀ c ∈ cs, Ltd n c := by cases h; assumption
theorem Ltd.ptrL {n id off : Nat} (h : Ltd n (.ptr id off)) : id < n := by cases h; assumption
theorem Ltd.raL {n id t m off : Nat} (h : Ltd n (.ra id t m off)) : id < n := by cases h; assumption
theorem Ltd.ownL {n id : Nat} (h : Ltd n (.own id)) : id < n := by cases h; assumption
theorem ltd_get {n : Nat} {cs : List AV} (h : ∀ c ∈ cs, Ltd n c) {k : Nat} (hk : cs[k]? = some d) : Ltd n d := h d (List.mem_of_getElem? hk)
theorem ltd_app {n : Nat} {cs ds : List AV} (h : ∀ c ∈ cs, Ltd n c) (h' : ∀ c ∈ ds, Ltd n c) : ∀ c ∈ cs ++ ds, Ltd n c := fun c hc => (List.mem_append.1 hc).elim (h c) (h' c)
theorem ltd_cells {n : Nat} (h : Ltd n d) : ∀ c ∈ acells d, Ltd n c := by
  cases d <;> first | exact h.aggL | (intro c hc; simp only [acells, List.mem_singleton] at hc; rw [hc]; exact h)
theorem ltd_lits (n : Nat) (zs : List Value) : ∀ c ∈ zs.map (AVq.lit (Dat := U.Dat)), Ltd n c := fun c hc => by
  obtain ⟨v, _, rfl⟩ := List.mem_map.1 hc
  exact .lit v

def fldV (P : Program) (T : TypeId) (i : Nat) (x : Option AV) (K : AV → Option α) : Option α := match P.underlying T with
  | some (.struct fs) => match fs[i]? with
    | some f => match (P.info? f.type).map (·.size) with
      | some (_ + 1) => match x with
        | some (.ptr id off) => K (.ptr id (off + f.offset))
        | some (.fp cs) => K (.fp (cs.drop f.offset))
        | some (.ra id t m off) => K (.ra id t m (off + f.offset))
        | _ => none
      | _ => none
    | none => none
  | _ => none
theorem fldV_ok {T : TypeId} {i : Nat} (hs : See ev rd nx E R) (ho : o.op = .fieldAddr T x i) {K : AV → Option α} (h : fldV P T i (ev x) K = some r) : ∃ d, K d = some r ∧ Pu P o E R nx d := by
  unfold fldV at h
  split at h
  case h_2 => cases h
  rename_i fs hT
  split at h
  case h_2 => cases h
  rename_i f hf
  split at h
  case h_2 => cases h
  rename_i sz hsz
  split at h
  · rename_i id off hx
    exact ⟨_, h, .ptr _ _ (hs.ltd hx).ptrL, fun ρ => by have ex := hs.evs hx ρ; rw [sub_ptr] at ex ⊢; exact .fieldP ho ex hT hf hsz⟩
  · rename_i cs hx
    exact ⟨_, h, .fp _ (ltd_drop (hs.ltd hx).fpL _), fun ρ => by have ex := hs.evs hx ρ; rw [sub_fp] at ex ⊢; rw [List.map_drop]; exact .fieldF ho ex hT hf hsz⟩
  · rename_i id t m off hx
    exact ⟨_, h, .ra _ _ _ _ (hs.ltd hx).raL, fun ρ => by have ex := hs.evs hx ρ; rw [sub_ra] at ex ⊢; rw [← Nat.add_assoc]; exact .fieldR ho ex hT hf hsz⟩
  · cases h

def idxV (P : Program) (rd : Nat → Option IR) (T : TypeId) (x y : Option AV) (K : AV → Option α) : Option α := match y with
  | some (.lit (.int _ m)) => match P.underlying T with
    | some (.slice e) => match x with
      | some (.sl t l) => match szIs P e (U.sz t) with
        | true => if 0 ≤ m ∧ m < (l.length : Int) then K (.fp (U.cells t l[m.toNat]!)) else none
        | false => none
      | some (.own id) => match rd id with
        | some (.row t l) => match szIs P e (U.sz t) with
          | true => if 0 ≤ m ∧ m < (l.length : Int) then K (.ra id t m.toNat 0) else none
          | false => none
        | _ => none
      | _ => none
    | some (.array n e) => match (P.info? e).map (·.size) with
      | some sz => if 0 ≤ m ∧ m < (n : Int) then (match x with
        | some (.ptr id off) => K (.ptr id (off + m.toNat * sz))
        | some (.fp cs) => K (.fp (cs.drop (m.toNat * sz)))
        | some (.ra id t j off) => K (.ra id t j (off + m.toNat * sz))
        | _ => none) else none
      | none => none
    | _ => none
  | _ => none
theorem idxV_ok {T : TypeId} (hs : See ev rd nx E R) (ho : o.op = .indexAddr T x y) {K : AV → Option α} (h : idxV P rd T (ev x) (ev y) K = some r) : ∃ d, K d = some r ∧ Pu P o E R nx d := by
  unfold idxV at h
  split at h
  case h_2 => cases h
  rename_i k m hy
  have ey := fun ρ => hs.evs hy ρ
  simp only [sub_lit] at ey
  split at h
  · rename_i e hT
    split at h
    · rename_i t l hx
      split at h
      case h_2 => cases h
      rename_i hsz
      split at h
      · rename_i hm
        exact ⟨_, h, .fp _ (L.ltd t _ nx), fun ρ => by have ex := hs.evs hx ρ; rw [sub_sl] at ex; rw [sub_fp, L.clo]; exact .indexSl ho ex (ey ρ) hT (szIs_ok hsz) hm⟩
      · cases h
    · rename_i id hx
      split at h
      case h_2 => cases h
      rename_i t l hr
      split at h
      case h_2 => cases h
      rename_i hsz
      split at h
      · rename_i hm
        refine ⟨_, h, .ra _ _ _ _ (hs.ltd hx).ownL, fun ρ => ?_⟩
        have ex := hs.evs hx ρ
        rw [sub_own] at ex
        obtain ⟨i, hi⟩ := hs.row hr ρ
        rw [sub_ra, Nat.add_zero]
        exact .indexRow i ho ex hi (ey ρ) hT (szIs_ok hsz) hm
      · cases h
    · cases h
  · rename_i n e hT
    split at h
    case h_2 => cases h
    rename_i sz hsz
    split at h
    case isFalse => cases h
    rename_i hm
    split at h
    · rename_i id off hx
      exact ⟨_, h, .ptr _ _ (hs.ltd hx).ptrL, fun ρ => by have ex := hs.evs hx ρ; rw [sub_ptr] at ex ⊢; exact .indexP ho ex (ey ρ) hT hsz hm⟩
    · rename_i cs hx
      exact ⟨_, h, .fp _ (ltd_drop (hs.ltd hx).fpL _), fun ρ => by have ex := hs.evs hx ρ; rw [sub_fp] at ex ⊢; rw [List.map_drop]; exact .indexF ho ex (ey ρ) hT hsz hm⟩
    · rename_i id t j off hx
      exact ⟨_, h, .ra _ _ _ _ (hs.ltd hx).raL, fun ρ => by have ex := hs.evs hx ρ; rw [sub_ra] at ex ⊢; rw [← Nat.add_assoc]; exact .indexR ho ex (ey ρ) hT hsz hm⟩
    · cases h
  · cases h

def ldV (P : Program) (rd : Nat → Option IR) (T : TypeId) (x : Option AV) (K : AV → Option α) : Option α := match oneB P T with
  | true => match x with
    | some (.fp cs) => (cs[0]?).bind K
    | some (.ptr id off) => match rd id with
      | some (.box _ cs) => (cs[off]?).bind K
      | _ => none
    | some (.ra id t m off) => match rd id with
      | some (.row t' l) => match L.arr t' with
        | true => if t = t' ∧ m < l.length ∧ off < U.sz t' then K (.lit (.bool (L.gtB t' l[m]! off))) else none
        | false => if t = t' ∧ m < l.length then ((U.cells t' l[m]!)[off]?).bind K else none
      | _ => none
    | _ => none
  | false => match manyB P T with
    | some n => match x with
      | some (.fp cs) => match Nat.ble n cs.length with
        | true => K (.agg (cs.take n))
        | false => none
      | some (.ptr id off) => match rd id with
        | some (.box _ cs) => match Nat.ble (off + n) cs.length with
          | true => K (.agg ((cs.drop off).take n))
          | false => none
        | _ => none
      | some (.ra id t m off) => match rd id with
        | some (.row t' l) => match Nat.ble (off + n) (U.sz t') with
          | true => if t = t' ∧ m < l.length then K (.agg (((U.cells t' l[m]!).drop off).take n)) else none
          | false => none
        | _ => none
      | _ => none
    | none => none
theorem ldV_ok {T : TypeId} (hs : See ev rd nx E R) (ho : o.op = .load T x) {K : AV → Option α} (h : ldV P rd T (ev x) K = some r) : ∃ d, K d = some r ∧ Pu P o E R nx d := by
  unfold ldV at h
  split at h
  · rename_i hT
    have hT := oneB_ok hT
    split at h
    · rename_i cs hx
      obtain ⟨d, hd, h⟩ := Option.bind_eq_some_iff.1 h
      exact ⟨d, h, ltd_get (hs.ltd hx).fpL hd, fun ρ => by have ex := hs.evs hx ρ; rw [sub_fp] at ex; exact .loadF1 ho ex hT (by rw [List.getElem?_map, hd]; rfl)⟩
    · rename_i id off hx
      split at h
      case h_2 => cases h
      rename_i t cs hr
      obtain ⟨d, hd, h⟩ := Option.bind_eq_some_iff.1 h
      refine ⟨d, h, ltd_get (hs.boxL hr) hd, fun ρ => ?_⟩
      have ex := hs.evs hx ρ
      rw [sub_ptr] at ex
      obtain ⟨i, hi⟩ := hs.box hr ρ
      exact .loadB1 i ho ex hi hT (by rw [List.getElem?_map, hd]; rfl)
    · rename_i id t m off hx
      split at h
      case h_2 => cases h
      rename_i t' l hr
      split at h
      · rename_i har
        split at h
        case isFalse => cases h
        rename_i hm
        obtain ⟨rfl, hm, hoff⟩ := hm
        refine ⟨_, h, .lit _, fun ρ => ?_⟩
        have ex := hs.evs hx ρ
        rw [sub_ra] at ex
        obtain ⟨i, hi⟩ := hs.row hr ρ
        rw [show (AVq.lit (.bool (L.gtB t l[m]! off)) : AV).sub ρ = .lit (.bool (L.gtB t l[m]! off)) by simp only [AVq.sub]]
        exact .loadR1 i m ho ex hi hT rfl hm (L.arr_get t har l[m]! off hoff)
      split at h
      case isFalse => cases h
      rename_i hm
      obtain ⟨rfl, hm⟩ := hm
      obtain ⟨d, hd, h⟩ := Option.bind_eq_some_iff.1 h
      refine ⟨d, h, ltd_get (L.ltd t _ nx) hd, fun ρ => ?_⟩
      have ex := hs.evs hx ρ
      rw [sub_ra] at ex
      obtain ⟨i, hi⟩ := hs.row hr ρ
      have hc : d.sub ρ = d := by
        have := L.clo t l[m]! ρ
        have h2 : ((U.cells t l[m]!).map (AVq.sub ρ))[off]? = some (d.sub ρ) := by rw [List.getElem?_map, hd]; rfl
        rw [this, hd] at h2
        exact (Option.some.inj h2).symm
      rw [hc]
      exact .loadR1 i m ho ex hi hT rfl hm hd
    · cases h
  · split at h
    case h_2 => cases h
    rename_i n hT
    have hT := manyB_ok hT
    split at h
    · rename_i cs hx
      split at h
      case h_2 => cases h
      rename_i hn
      exact ⟨_, h, .agg _ (ltd_take (hs.ltd hx).fpL _), fun ρ => by have ex := hs.evs hx ρ; rw [sub_fp] at ex; rw [sub_agg, List.map_take]; exact .loadFN ho ex hT (by rw [List.length_map]; exact Nat.le_of_ble_eq_true hn)⟩
    · rename_i id off hx
      split at h
      case h_2 => cases h
      rename_i t cs hr
      split at h
      case h_2 => cases h
      rename_i hn
      refine ⟨_, h, .agg _ (ltd_take (ltd_drop (hs.boxL hr) _) _), fun ρ => ?_⟩
      have ex := hs.evs hx ρ
      rw [sub_ptr] at ex
      obtain ⟨i, hi⟩ := hs.box hr ρ
      rw [sub_agg, List.map_take, List.map_drop]
      exact .loadBN i ho ex hi hT (by rw [List.length_map]; exact Nat.le_of_ble_eq_true hn)
    · rename_i id t m off hx
      split at h
      case h_2 => cases h
      rename_i t' l hr
      split at h
      case h_2 => cases h
      rename_i hn
      split at h
      case isFalse => cases h
      rename_i hm
      obtain ⟨rfl, hm⟩ := hm
      refine ⟨_, h, .agg _ (ltd_take (ltd_drop (L.ltd t _ nx) _) _), fun ρ => ?_⟩
      have ex := hs.evs hx ρ
      rw [sub_ra] at ex
      obtain ⟨i, hi⟩ := hs.row hr ρ
      rw [sub_agg, List.map_take, List.map_drop, L.clo]
      exact .loadRN i m ho ex hi hT rfl hm (Nat.le_of_ble_eq_true hn)
    · cases h
end
end Go.Iv
end
section
set_option linter.unusedSectionVars false
set_option linter.unusedVariables false
set_option linter.unusedSimpArgs false
namespace Go.Iv
variable [U : Uni] [L : UniL]
open Go Go.RowKit

section
variable {P : Program} {E : Env} {σ : List Res} {o : Oper} {T T' e : TypeId} {x y z : Operand} {av : AV} {m : Int} {k : IntKind}
theorem Yp.indexA {n' : Nat} {cs : List AV} (ho : o.op = .index T x y) (hx : E.ev x = some (.agg cs)) (hy : E.ev y = some (.n k m)) (hT : P.underlying T = some (.array n' e)) (h1 : isOne P e) (hs : (P.info? e).map (·.size) = some 1) (hm : 0 ≤ m ∧ m < n') (ha : cs[m.toNat]? = some av) : Yp P E σ o av := fun A w ρ _ hρ => by
  obtain ⟨j, hj, hj'⟩ := Option.map_eq_some_iff.1 hs
  obtain ⟨us, q1, q2⟩ := (hρ _ _ hx).aggInv
  have hy' := (hρ _ _ hy).litEq
  obtain ⟨v, q3, q4⟩ := q2.get ha
  refine ⟨v, q4, fun w' _ => ?_⟩
  have hp : (part e us.toArray m.toNat).run P w' = .ok v w' := by
    unfold part
    rw [Sem.run_bind, run_isAgg_one h1]
    simp [q3]
  simp [execOp, ho, Instr.index, q1, hy', run_underlying hT, sizeOf, typeInfo, hj, hj', asIntOf, hm, hp]

end


section
variable {α : Type} {r : α} {P : Program} {o : Oper} {E : Env} {R : IRs} {nx : Nat} {ev : Operand → Option AV} {rd : Nat → Option IR} {x y z : Operand} {d : AV} {A : Nat → Prop} {w : World} {ρ : Gh} {v : Value}

theorem sub_acells (ρ : Gh) (d : AV) : acells (d.sub ρ) = (acells d).map (AVq.sub ρ) := by
  cases d <;> simp only [AVq.sub, acells, List.map_cons, List.map_nil]
theorem sub_acell1 {d : AV} (h : acell1 d = true) (hn : ∀ id, d ≠ .own id) : acell1 (d.sub ρ) = true := by
  cases d <;> first | (exact absurd rfl (hn _)) | (cases h; done) | (simp only [AVq.sub, acell1] at h ⊢; done) | (simp only [AVq.sub, acell1] at h ⊢; first | exact h | rfl)

/-- what lies in a cell lies in one -/
theorem dcell1_one (hs : See ev rd nx E R) (h : dcell1 rd d = true) (hd : Hd A (IRs.res ρ R) w) (hr : Rel A w (d.sub ρ) v) : v.oneCell' = true := by
  unfold dcell1 at h
  split at h
  · rename_i id
    split at h
    · rename_i t l hrd
      obtain ⟨i, hi⟩ := hs.row hrd ρ
      rw [sub_own] at hr
      rw [hr.litEq]
      exact own_one i hi hd
    · cases h
  · rw [sub_ptr] at hr; rw [hr.litEq]; rfl
  · cases h
  · rename_i h1 _ _
    exact hr.one (sub_acell1 h (fun id e => h1 id e))
theorem dplain_cells (hs : See ev rd nx E R) (h : dplain rd d = true) (hd : Hd A (IRs.res ρ R) w) (hr : Rel A w (d.sub ρ) v) : RelL A w ((acells d).map (AVq.sub ρ)) v.cells.toList ∧ ∀ u ∈ v.cells.toList, u.oneCell' = true := by
  by_cases ha : ∃ cs, d = .agg cs
  · obtain ⟨cs, rfl⟩ := ha
    rw [sub_agg] at hr
    obtain ⟨us, rfl, h2⟩ := hr.aggInv
    refine ⟨by simpa [Value.cells, acells] using h2, fun u hu => ?_⟩
    simp only [Value.cells, List.toList_toArray] at hu
    obtain ⟨j, hj, rfl⟩ := List.getElem_of_mem hu
    have hlt : j < cs.length := by have := h2.1; rw [List.length_map] at this; omega
    have h3 := h2.2 j _ us[j] (by rw [List.getElem?_map, List.getElem?_eq_getElem hlt]; rfl) (List.getElem?_eq_getElem hj)
    exact dcell1_one hs (List.all_eq_true.1 h _ (List.getElem_mem hlt)) hd h3
  · have hc : dcell1 rd d = true := by
      cases d <;> first | exact h | (exact absurd ⟨_, rfl⟩ ha)
    have hac : acells d = [d] := by
      cases d <;> first | rfl | (exact absurd ⟨_, rfl⟩ ha)
    have h2 := dcell1_one hs hc hd hr
    rw [hac, oneCell_cells h2]
    exact ⟨RelL.cons hr RelL.nil, fun u hu => by simp at hu; rw [hu]; exact h2⟩
theorem dplain_pw (hs : See ev rd nx E R) (h : dplain rd d = true) : Pw (IRs.res ρ R) (d.sub ρ) := fun A w v hd hr => by
  rw [sub_acells]
  exact dplain_cells hs h hd hr

/-! ### literals -/

def dfill (rd : Nat → Option IR) (place : Nat → Option (Nat × Nat)) (cells : List AV) : List (Nat × AV) → Option (List AV)
  | [] => some cells
  | (i, a) :: rest =>
    match place i with
    | none => none
    | some (off, size) =>
      match Nat.beq (acells a).length size && Nat.ble (off + size) cells.length && dplain rd a with
      | true => dfill rd place (cells.take off ++ acells a ++ cells.drop (off + size)) rest
      | false => none

theorem dfill_ltd {place : Nat → Option (Nat × Nat)} : ∀ {ps : List (Nat × AV)} {cs cs' : List AV}, (∀ c ∈ cs, Ltd nx c) → (∀ p ∈ ps, Ltd nx p.2) → dfill rd place cs ps = some cs' → ∀ c ∈ cs', Ltd nx c
  | [], cs, cs', h1, _, hf => by cases hf; exact h1
  | (i, a) :: ps, cs, cs', h1, h2, hf => by
    unfold dfill at hf
    split at hf
    · cases hf
    · split at hf
      · exact dfill_ltd (ltd_app (ltd_app (ltd_take h1 _) (ltd_cells (h2 _ List.mem_cons_self))) (ltd_drop h1 _)) (fun p hp => h2 p (List.mem_cons_of_mem _ hp)) hf
      · cases hf

theorem dfill_rel (hs : See ev rd nx E R) (hd : Hd A (IRs.res ρ R) w) {place : Nat → Option (Nat × Nat)} : ∀ {ps : List (Nat × AV)} {qs : List (Nat × Value)} {cs cs' : List AV} {init : Array Value}, RelL A w (cs.map (AVq.sub ρ)) init.toList →
    F2 (fun (p : Nat × AV) (q : Nat × Value) => p.1 = q.1 ∧ Rel A w (p.2.sub ρ) q.2) ps qs → dfill rd place cs ps = some cs' → ∃ us : Array Value, Instr.fill place init qs = some us ∧ RelL A w (cs'.map (AVq.sub ρ)) us.toList
  | [], _, cs, cs', init, hi, hp, hf => by
    cases hp
    cases hf
    exact ⟨init, rfl, hi⟩
  | (i, a) :: ps, _, cs, cs', init, hi, hp, hf => by
    cases hp with
    | @cons _ q _ qs h1 h2 =>
      obtain ⟨j, v⟩ := q
      obtain ⟨h3, h4⟩ := h1
      simp only at h3 h4
      subst h3
      unfold dfill at hf
      unfold Instr.fill
      cases hpl : place i with
      | none => rw [hpl] at hf; cases hf
      | some os =>
        obtain ⟨off, size⟩ := os
        rw [hpl] at hf
        simp only at hf ⊢
        split at hf
        · rename_i hc
          simp only [Bool.and_eq_true, Nat.ble_eq] at hc
          obtain ⟨⟨hc1, hc2⟩, hc3⟩ := hc
          have hc1 := Nat.eq_of_beq_eq_true hc1
          obtain ⟨h5, h6⟩ := dplain_cells hs hc3 hd h4
          have hvs : v.cells.size = size := by rw [← Array.length_toList, h5.1, List.length_map, hc1]
          have his : init.size = cs.length := by rw [← Array.length_toList, hi.1, List.length_map]
          rw [if_neg (by simp [hvs]; omega)]
          refine dfill_rel hs hd (cs := cs.take off ++ acells a ++ cs.drop (off + size)) ?_ h2 hf
          have hvl : v.cells.toList.length = size := by rw [Array.length_toList, hvs]
          have e : (v.cells.zipIdx.foldl (fun cs (x : Value × Nat) => match x with | (c, j) => cs.setIfInBounds (off + j) c) init).toList = init.toList.take off ++ v.cells.toList ++ init.toList.drop (off + size) := by
            have := foldl_set v.cells.toList 0 off init (by rw [hvl]; omega)
            rw [hvl, Nat.add_zero] at this
            rw [← this, ← Array.foldl_toList, Array.toList_zipIdx]
          show RelL A w _ (v.cells.zipIdx.foldl _ init).toList
          rw [e, List.map_append, List.map_append, List.map_take, List.map_drop]
          exact ((hi.take off).app h5).app (hi.drop (off + size))
        · cases hf

def evp (ev : Operand → Option AV) : List (Nat × Operand) → Option (List (Nat × AV))
  | [] => some []
  | (i, x) :: xs => match ev x with
    | some a => (evp ev xs).map fun as0 => (i, a) :: as0
    | none => none
theorem evp_ltd (hs : See ev rd nx E R) : ∀ {xs : List (Nat × Operand)} {as0 : List (Nat × AV)}, evp ev xs = some as0 → ∀ p ∈ as0, Ltd nx p.2
  | [], as0, h => by cases h; simp
  | (i, x) :: xs, as0, h => by
    unfold evp at h
    split at h
    · rename_i a ha
      obtain ⟨as', h1, rfl⟩ := Option.map_eq_some_iff.1 h
      intro p hp
      rcases List.mem_cons.1 hp with rfl | hp
      · exact hs.ltd ha
      · exact evp_ltd hs h1 p hp
    · cases h
theorem evp_rel (hs : See ev rd nx E R) {ϱ : Operand → Value} (h : Ops A w (E.sub ρ) ϱ) : ∀ {xs : List (Nat × Operand)} {as0 : List (Nat × AV)}, evp ev xs = some as0 →
    F2 (fun (p : Nat × AV) (q : Nat × Value) => p.1 = q.1 ∧ Rel A w (p.2.sub ρ) q.2) as0 (xs.map fun p => (p.1, ϱ p.2))
  | [], as0, he => by cases he; exact .nil
  | (i, x) :: xs, as0, he => by
    unfold evp at he
    split at he
    · rename_i a ha
      obtain ⟨as', h1, rfl⟩ := Option.map_eq_some_iff.1 he
      exact .cons ⟨rfl, h x _ (hs.evs ha ρ)⟩ (evp_rel hs h h1)
    · cases he

def evl (ev : Operand → Option AV) : List Operand → Option (List AV)
  | [] => some []
  | x :: xs => match ev x with
    | some a => (evl ev xs).map fun as0 => a :: as0
    | none => none
theorem evl_ltd (hs : See ev rd nx E R) : ∀ {xs : List Operand} {as0 : List AV}, evl ev xs = some as0 → ∀ d ∈ as0, Ltd nx d
  | [], as0, h => by cases h; simp
  | x :: xs, as0, h => by
    unfold evl at h
    split at h
    · rename_i a ha
      obtain ⟨as', h1, rfl⟩ := Option.map_eq_some_iff.1 h
      intro p hp
      rcases List.mem_cons.1 hp with rfl | hp
      · exact hs.ltd ha
      · exact evl_ltd hs h1 p hp
    · cases h
theorem evl_sub (hs : See ev rd nx E R) (ρ : Gh) : ∀ {xs : List Operand} {as0 : List AV}, evl ev xs = some as0 → (E.sub ρ).evl xs = some (as0.map (AVq.sub ρ))
  | [], as0, he => by cases he; rfl
  | x :: xs, as0, he => by
    unfold evl at he
    split at he
    · rename_i a ha
      obtain ⟨as', h1, rfl⟩ := Option.map_eq_some_iff.1 he
      unfold Env.evl
      rw [hs.evs ha ρ, evl_sub hs ρ h1]
      rfl
    · cases he

/-- literals of structs and arrays -/
def bldV (P : Program) (ev : Operand → Option AV) (rd : Nat → Option IR) (T : TypeId) (ps : List (Nat × Operand)) (K : AV → Option α) : Option α :=
  match evp ev ps, zerosOf P T with
  | some as0, some zs => match P.underlying T with
    | some (.struct _) => match placesOf P T with
      | some places => (dfill rd (places[·]?) (zs.map .lit) as0).bind fun cs => K (.agg cs)
      | none => none
    | some (.array _ e) => match (P.info? e).map (·.size) with
      | some sz => (dfill rd (fun i => some (i * sz, sz)) (zs.map .lit) as0).bind fun cs => K (.agg cs)
      | none => none
    | _ => none
  | _, _ => none

theorem lits_sub (ρ : Gh) (zs : List Value) : (zs.map (AVq.lit (Dat := U.Dat))).map (AVq.sub ρ) = zs.map .lit := by
  rw [List.map_map]
  exact List.map_congr_left fun v _ => sub_lit ρ v

theorem bldV_ok {T : TypeId} {ps : Array (Nat × Operand)} (hs : See ev rd nx E R) (ho : o.op = .build T ps) {K : AV → Option α} (h : bldV P ev rd T ps.toList K = some r) : ∃ d, K d = some r ∧ Pu P o E R nx d := by
  unfold bldV at h
  split at h
  case h_2 => cases h
  rename_i as0 zs he hz
  have main : ∀ (place : Nat → Option (Nat × Nat)) (cs : List AV), dfill rd place (zs.map .lit) as0 = some cs → (∀ (vs : List (Nat × Value)) (us : Array Value), Instr.fill place zs.toArray vs = some us → P.built T vs = some us) → Pu P o E R nx (.agg cs) := fun place cs hf hb => by
    refine ⟨.agg _ (dfill_ltd (ltd_lits nx zs) (evp_ltd hs he) hf), fun ρ A w ϱ hd hρ => ?_⟩
    obtain ⟨it, hit, hz1⟩ := Option.bind_eq_some_iff.1 hz
    obtain ⟨zv, hz2, hz3⟩ := Option.map_eq_some_iff.1 hz1
    have hzr : RelL A w ((zs.map AVq.lit).map (AVq.sub ρ)) zs := by rw [lits_sub]; exact RelL.lits _
    obtain ⟨us, h1, h2⟩ := dfill_rel (init := zs.toArray) hs hd hzr (evp_rel hs hρ he) hf
    rw [sub_agg]
    refine ⟨.agg us, by simpa using Rel.aggL h2, fun w' _ => ?_⟩
    have := run_build (P := P) w' T _ us (hb _ us h1)
    rw [← map_pair] at this
    simp [execOp, ho, this]
  split at h
  · rename_i fs hT
    split at h
    case h_2 => cases h
    rename_i places hp
    obtain ⟨cs, hf, h⟩ := Option.bind_eq_some_iff.1 h
    refine ⟨_, h, main _ cs hf fun vs us hu => ?_⟩
    obtain ⟨it, hit, hz1⟩ := Option.bind_eq_some_iff.1 hz
    obtain ⟨zv, hz2, hz3⟩ := Option.map_eq_some_iff.1 hz1
    unfold Program.built
    unfold placesOf at hp
    rw [hit, hT] at *
    simp only at hp
    simp only [hz2, hp]
    have : zv.cells = zs.toArray := by rw [← hz3]
    rw [this]
    simpa using hu
  · rename_i n e hT
    split at h
    case h_2 => cases h
    rename_i sz hsz
    obtain ⟨cs, hf, h⟩ := Option.bind_eq_some_iff.1 h
    refine ⟨_, h, main _ cs hf fun vs us hu => ?_⟩
    obtain ⟨it, hit, hz1⟩ := Option.bind_eq_some_iff.1 hz
    obtain ⟨zv, hz2, hz3⟩ := Option.map_eq_some_iff.1 hz1
    obtain ⟨ie, hie, hse⟩ := Option.map_eq_some_iff.1 hsz
    unfold Program.built
    rw [hit, hT]
    simp only [hz2, hie, hse]
    have : zv.cells = zs.toArray := by rw [← hz3]
    rw [this]
    exact hu
  · cases h

/-! ### conversions, functions, parts -/

def cnvV (P : Program) (rd : Nat → Option IR) (T T' : TypeId) (x : Option AV) (K : AV → Option α) : Option α := match P.underlying T, P.underlying T' with
  | some (.int _), some (.int k') => match x with
    | some (.lit (.int k n)) => match P.underlying T with
      | some (.int k0) => if k0 = k then K (.n k' (k'.wrap n)) else none
      | _ => none
    | _ => none
  | some (.slice e), some .string => match P.underlying e with
    | some (.int .u8) => match x with
      | some (.sl t l) => (L.nums t l).bind fun ns => K (.s (strOfNums ns))
      | some (.own id) => match rd id with
        | some (.row t l) => (L.nums t l).bind fun ns => K (.s (strOfNums ns))
        | _ => none
      | _ => none
    | _ => none
  | _, _ => none
theorem cnvV_ok {T T' : TypeId} (hs : See ev rd nx E R) (ho : o.op = .convert T T' x) {K : AV → Option α} (h : cnvV P rd T T' (ev x) K = some r) : ∃ d, K d = some r ∧ Pu P o E R nx d := by
  unfold cnvV at h
  split at h
  · rename_i k0 k' hT hT'
    split at h
    case h_2 => cases h
    rename_i k n hx
    have ex := fun ρ => hs.evs hx ρ
    simp only [sub_lit] at ex
    split at h
    case h_2 => cases h
    rename_i k1 hk1
    split at h
    case isFalse => cases h
    rename_i hk
    subst hk
    exact ⟨_, h, .lit fun ρ => .conv hk1 hT' ho (ex ρ)⟩
  · rename_i e hT hT'
    split at h
    case h_2 => cases h
    rename_i he
    split at h
    · rename_i t l hx
      obtain ⟨ns, hn, h⟩ := Option.bind_eq_some_iff.1 h
      exact ⟨_, h, .lit fun ρ => .b2s ho (.inr (.inl (by have ex := hs.evs hx ρ; rw [sub_sl] at ex; exact ex))) (L.nums_ok t l ns hn).1 (L.nums_ok t l ns hn).2 hT he hT'⟩
    · rename_i id hx
      split at h
      case h_2 => cases h
      rename_i t l hr
      obtain ⟨ns, hn, h⟩ := Option.bind_eq_some_iff.1 h
      refine ⟨_, h, .lit fun ρ => ?_⟩
      have ex := hs.evs hx ρ
      rw [sub_own] at ex
      obtain ⟨i, hi⟩ := hs.row hr ρ
      exact .b2s ho (.inr (.inr ⟨i, _, ex, hi⟩)) (L.nums_ok t l ns hn).1 (L.nums_ok t l ns hn).2 hT he hT'
    · cases h
  · cases h

def extV (i : Nat) (x : Option AV) (K : AV → Option α) : Option α := match x with
  | some (.tup cs) => (cs[i]?).bind K
  | _ => none
theorem extV_ok {i : Nat} (hs : See ev rd nx E R) (ho : o.op = .extract x i) {K : AV → Option α} (h : extV i (ev x) K = some r) : ∃ d, K d = some r ∧ Pu P o E R nx d := by
  unfold extV at h
  split at h
  · rename_i cs hx
    obtain ⟨d, hd, h⟩ := Option.bind_eq_some_iff.1 h
    exact ⟨d, h, ltd_get (hs.ltd hx).tupL hd, fun ρ => by have ex := hs.evs hx ρ; rw [sub_tup] at ex; exact .extract ho ex (by rw [List.getElem?_map, hd]; rfl)⟩
  · cases h

def mkfV (ev : Operand → Option AV) (f : Go.Fn) (fs cs : List Operand) (K : AV → Option α) : Option α := match fs with
  | [] => (evl ev cs).bind fun as0 => K (.fn f as0)
  | _ => none
theorem mkfV_ok {f : Go.Fn} {fs cs : Array Operand} (hs : See ev rd nx E R) (ho : o.op = .makeFunc f fs cs) {K : AV → Option α} (h : mkfV ev f fs.toList cs.toList K = some r) : ∃ d, K d = some r ∧ Pu P o E R nx d := by
  unfold mkfV at h
  split at h
  · rename_i h0
    obtain ⟨as0, ha, h⟩ := Option.bind_eq_some_iff.1 h
    refine ⟨_, h, .fn _ _ (evl_ltd hs ha), fun ρ => ?_⟩
    rw [sub_fn]
    exact .func ho (by rw [← Array.toList_eq_nil_iff]; exact h0) (evl_sub hs ρ ha)
  · cases h

/-- byte i of s -/
def byteAt (s : ByteArray) (i : Nat) : Int := ((s.data[i]!).toNat : Int)
theorem Yp.indexS {T : TypeId} {E : Env} {σ : List Res} {s : ByteArray} {k : IntKind} {m : Int} (ho : o.op = .index T x y) (hx : E.ev x = some (.s s)) (hy : E.ev y = some (.n k m)) (hT : P.underlying T = some .string) (hm : 0 ≤ m ∧ m < (s.size : Int)) : Yp P E σ o (.n .u8 (byteAt s m.toNat)) := fun A w ρ _ hρ => by
  refine ⟨_, .lit _, fun w' _ => ?_⟩
  have hx' := (hρ _ _ hx).litEq
  have hy' := (hρ _ _ hy).litEq
  have h := run_index_string (P := P) w' T s k m hT
  rw [dif_pos hm] at h
  have e : byteAt s m.toNat = ((s[m.toNat]'(by omega)).toNat : Int) := by
    unfold byteAt
    have hlt : m.toNat < s.data.size := by have : s.data.size = s.size := rfl; omega
    rw [getElem!_pos s.data m.toNat hlt]
    rfl
  rw [← e] at h
  simp [execOp, ho, hx', hy', h]

/-- the element of an array that is a value; the byte of a string -/
def ixaV (P : Program) (T : TypeId) (x y : Option AV) (K : AV → Option α) : Option α := match P.underlying T with
  | some (.array n e) => match oneB P e && szIs P e 1 with
    | true => match x, y with
      | some (.agg cs), some (.lit (.int _ m)) => if 0 ≤ m ∧ m < (n : Int) then (cs[m.toNat]?).bind K else none
      | _, _ => none
    | false => none
  | some .string => match x, y with
    | some (.lit (.string s)), some (.lit (.int _ m)) => if 0 ≤ m ∧ m < (s.size : Int) then K (.n .u8 (byteAt s m.toNat)) else none
    | _, _ => none
  | _ => none
theorem ixaV_ok {T : TypeId} (hs : See ev rd nx E R) (ho : o.op = .index T x y) {K : AV → Option α} (h : ixaV P T (ev x) (ev y) K = some r) : ∃ d, K d = some r ∧ Pu P o E R nx d := by
  unfold ixaV at h
  split at h
  case h_3 => cases h
  case h_2 =>
    rename_i hT
    split at h
    case h_2 => cases h
    rename_i s k m hx hy
    split at h
    case isFalse => cases h
    rename_i hm
    have ex := fun ρ => hs.evs hx ρ
    have ey := fun ρ => hs.evs hy ρ
    simp only [sub_lit] at ex ey
    exact ⟨_, h, .lit fun ρ => .indexS ho (ex ρ) (ey ρ) hT hm⟩
  rename_i n e hT
  split at h
  case h_2 => cases h
  rename_i he
  simp only [Bool.and_eq_true] at he
  split at h
  case h_2 => cases h
  rename_i cs k m hx hy
  split at h
  case isFalse => cases h
  rename_i hm
  obtain ⟨d, hd, h⟩ := Option.bind_eq_some_iff.1 h
  refine ⟨d, h, ltd_get (hs.ltd hx).aggL hd, fun ρ => ?_⟩
  have ex := hs.evs hx ρ
  have ey := hs.evs hy ρ
  rw [sub_agg] at ex
  rw [sub_lit] at ey
  exact .indexA ho ex ey hT (oneB_ok he.1) (szIs_ok he.2) hm (by rw [List.getElem?_map, hd]; rfl)

/-- a cut of a slice that reads as0 a list -/
def cutV (P : Program) (T : TypeId) (x : Option AV) (lo hi : Option (Option AV)) (K : AV → Option α) : Option α := match P.underlying T with
  | some (.slice e) => match x with
    | some (.sl t l) => match szIs P e (U.sz t) with
      | true => match lo, hi with
        | some (some (.lit (.int _ a))), some (some (.lit (.int _ b))) => if 0 ≤ a ∧ a ≤ b ∧ b ≤ (l.length : Int) then K (.sl t ((l.take b.toNat).drop a.toNat)) else none
        | none, some (some (.lit (.int _ b))) => if 0 ≤ b ∧ b ≤ (l.length : Int) then K (.sl t (l.take b.toNat)) else none
        | some (some (.lit (.int _ a))), none => if 0 ≤ a ∧ a ≤ (l.length : Int) then K (.sl t (l.drop a.toNat)) else none
        | _, _ => none
      | false => none
    | _ => none
  | _ => none
theorem cutV_ok {T : TypeId} {lo hi : Option Operand} (hs : See ev rd nx E R) (ho : o.op = .slice T x lo hi none) {K : AV → Option α} (h : cutV P T (ev x) (lo.map ev) (hi.map ev) K = some r) : ∃ d, K d = some r ∧ Pu P o E R nx d := by
  unfold cutV at h
  split at h
  case h_2 => cases h
  rename_i e hT
  split at h
  case h_2 => cases h
  rename_i t l hx
  split at h
  case h_2 => cases h
  rename_i hsz
  have hsz := szIs_ok hsz
  have ex := fun ρ => hs.evs hx ρ
  simp only [sub_sl] at ex
  split at h
  · rename_i k a k' b hlo hhi
    split at h
    case isFalse => cases h
    rename_i hc
    cases lo with
    | none => cases hlo
    | some lo =>
      cases hi with
      | none => cases hhi
      | some hi =>
        have e1 := fun ρ => hs.evs (Option.some.inj hlo) ρ
        have e2 := fun ρ => hs.evs (Option.some.inj hhi) ρ
        simp only [sub_lit] at e1 e2
        exact ⟨_, h, .sl _ _, fun ρ => by rw [sub_sl]; exact .slice2 ho (ex ρ) (e1 ρ) (e2 ρ) hT hsz hc⟩
  · rename_i k' b hlo hhi
    split at h
    case isFalse => cases h
    rename_i hc
    cases lo with
    | some lo => cases hlo
    | none =>
      cases hi with
      | none => cases hhi
      | some hi =>
        have e2 := fun ρ => hs.evs (Option.some.inj hhi) ρ
        simp only [sub_lit] at e2
        exact ⟨_, h, .sl _ _, fun ρ => by rw [sub_sl]; exact .sliceHi ho (ex ρ) (e2 ρ) hT hsz hc⟩
  · rename_i k a hlo hhi
    split at h
    case isFalse => cases h
    rename_i hc
    cases lo with
    | none => cases hlo
    | some lo =>
      cases hi with
      | some hi => cases hhi
      | none =>
        have e1 := fun ρ => hs.evs (Option.some.inj hlo) ρ
        simp only [sub_lit] at e1
        exact ⟨_, h, .sl _ _, fun ρ => by rw [sub_sl]; exact .sliceLo ho (ex ρ) (e1 ρ) hT hsz hc⟩
  · cases h

/-! ### builtins that only look -/

def lenV (P : Program) (rd : Nat → Option IR) (T : TypeId) (x : Option AV) (K : AV → Option α) : Option α := match P.underlying T with
  | some (.slice _) => match x with
    | some (.sl _ l) => K (.i (l.length : Int))
    | some (.own id) => match rd id with
      | some (.row _ l) => K (.i (l.length : Int))
      | _ => none
    | some (.lit (.slice none 0 0)) => K (.i 0)
    | _ => none
  | some .string => match x with
    | some (.lit (.string s)) => K (.i (s.size : Int))
    | _ => none
  | _ => none
theorem lenV_ok {T : TypeId} (hs : See ev rd nx E R) (ho : o.op = .call { callee := .builtin .len, args := #[x], argTypes := #[T] }) {K : AV → Option α} (h : lenV P rd T (ev x) K = some r) : ∃ d, K d = some r ∧ Pu P o E R nx d := by
  unfold lenV at h
  split at h
  · rename_i e hT
    split at h
    · rename_i t l hx
      exact ⟨_, h, .lit fun ρ => .lenSl ho (by have ex := hs.evs hx ρ; rw [sub_sl] at ex; exact ex) hT⟩
    · rename_i id hx
      split at h
      case h_2 => cases h
      rename_i t l hr
      refine ⟨_, h, .lit fun ρ => ?_⟩
      have ex := hs.evs hx ρ
      rw [sub_own] at ex
      obtain ⟨i, hi⟩ := hs.row hr ρ
      exact .lenRow i ho ex hi hT
    · rename_i hx
      exact ⟨_, h, .lit fun ρ => .lenNil ho (by have ex := hs.evs hx ρ; rw [sub_lit] at ex; exact ex) hT⟩
    · cases h
  · rename_i hT
    split at h
    · rename_i s hx
      exact ⟨_, h, .lit fun ρ => .lenStr ho (by have ex := hs.evs hx ρ; rw [sub_lit] at ex; exact ex) hT⟩
    · cases h
  · cases h
end
end Go.Iv
end
section
set_option linter.unusedSectionVars false
set_option linter.unusedVariables false
set_option linter.unusedSimpArgs false
namespace Go.Iv
variable [U : Uni]
open Go Go.RowKit

theorem zeroCells_list {zs : List Value} {sz : Nat} (hsz : zs.length = sz) (nn : Nat) : (Builtin.zeroCells zs.toArray nn).toList = (List.replicate nn zs).flatten := by
  apply List.ext_getElem?
  intro j
  have hfl : (List.replicate nn zs).flatten.length = nn * sz := by simp [hsz]
  have hq : ∀ (q : Nat) (j : Nat), j < q * sz → (List.replicate q zs).flatten[j]? = zs[j % sz]? := by
    intro q
    induction q with
    | zero => intro j hj; simp at hj
    | succ q ih =>
      intro j hj
      rw [List.replicate_succ, List.flatten_cons, List.getElem?_append]
      split
      · rename_i h; rw [hsz] at h; rw [Nat.mod_eq_of_lt h]
      · rename_i h
        rw [hsz] at h
        rw [hsz, ih _ (by rw [Nat.succ_mul] at hj; omega), Nat.mod_eq_sub_mod (by omega : sz ≤ j)]
  by_cases hj : j < nn * sz
  · rw [hq nn j hj]
    have h0 : 0 < sz := by
      rcases Nat.eq_zero_or_pos sz with h | h
      · rw [h] at hj; omega
      · exact h
    have hlt : j % sz < zs.length := by rw [hsz]; exact Nat.mod_lt _ h0
    rw [List.getElem?_eq_getElem hlt]
    simp [Builtin.zeroCells, hsz, hj, List.getElem?_eq_getElem hlt]
  · rw [List.getElem?_eq_none (l := (List.replicate nn zs).flatten) (by rw [hfl]; omega), List.getElem?_eq_none]
    simp [Builtin.zeroCells, hsz]; omega

theorem run_append_rowz {P : Program} {w : World} {T tn ty e : TypeId} {kn : IntKind} {i : TypeInfo} {zz v : Value} {sz by' nn mm : Nat} {us : List Value} (ht : P.underlying T = some (.slice e)) (htn : P.underlying tn = some (.int kn)) (hi : P.info? e = some i) (hz : i.zero = some zz) (hs : i.size = sz) (hby : i.bytes = by') (hzs : zz.cells.size = sz) (hpos : 0 < sz)
    (hrow : RowIs w v e sz nn us) (h1 : ∀ u ∈ (Builtin.zeroCells zz.cells mm).toList, u.oneCell' = true) (h63 : nn + mm ≤ maxLen) (hb : (nn + mm) * by' ≤ 140737488355328) :
    ∃ v' w', (Builtin.append_ #[T, tn] ty #[v, .int .i64 mm]).run P w = .ok v' w' ∧ RowIs w' v' e sz (nn + mm) (us ++ (Builtin.zeroCells zz.cells mm).toList) ∧ Kp (rblk v).toList w w' ∧ (rblk v' = rblk v ∨ rblk v' = some w.heap.size) := by
  subst hs hby
  have h63' : ((nn + mm : Nat) : Int) ≤ 9223372036854775807 := by unfold maxLen at h63; omega
  have hw : IntKind.i64.wrap (mm : Int) = mm := by rw [IntKind.wrap_i64]; omega
  have hneg : ¬ ((mm : Int) < 0) := by omega
  have hmb : mm * i.bytes ≤ 140737488355328 := Nat.le_trans (Nat.mul_le_mul_right _ (by omega)) hb
  have h48i : ¬ (281474976710656 < (mm : Int) * (i.bytes : Int)) := by rw [← Int.natCast_mul]; omega
  have hzl : (Builtin.zeroCells zz.cells mm).toList.length = mm * i.size := by rw [Array.length_toList, size_zeroCells, hzs]
  by_cases hm : mm = 0
  · subst hm
    obtain ⟨q, cap, rfl, hcap⟩ := hrow.len
    have hrun : (Builtin.append_ #[T, tn] ty #[.slice q nn cap, .int .i64 (0 : Nat)]).run P w = .ok (.slice q nn cap) w := by
      cases q <;> simp [Builtin.append_, run_underlying ht, run_underlying htn, sizeOf, typeInfo, hi, asInt, asIntOf, hw, hcap, storeCells, IntKind.wrap_i64]
    exact ⟨_, w, hrun, by simpa [Builtin.zeroCells] using hrow, Kp.refl _ _, .inl rfl⟩
  · have hfit : ∀ old, Builtin.nextslicecap (nn + mm) old * i.bytes ≤ 281474976710656 ∨ ¬ old < nn + mm := fun old => by
      by_cases h : old < nn + mm
      · exact .inl (growslice_fits (by omega) hb)
      · exact .inr h
    have grown : ∀ (olds : List Value) (old : Nat), olds.length = nn * i.size → old < nn + mm → us = olds →
        RowIs (w.drew.alloc (.cells (olds.toArray ++ Builtin.zeroCells zz.cells mm ++ Builtin.zeroCells zz.cells (grownCap w (nn + mm) old e - (nn + mm))) e)) (.slice (some ⟨w.heap.size, 0, none⟩) (nn + mm) (grownCap w (nn + mm) old e)) e i.size (nn + mm) (us ++ (Builtin.zeroCells zz.cells mm).toList) := by
      intro olds old hol hlt hus
      subst hus
      have hge := grownCap_ge w (nn + mm) old e
      have hcm := grownCap_le_maxLen w (nn + mm) old e h63
      obtain ⟨ck, hck⟩ : ∃ ck, grownCap w (nn + mm) old e = ck + 1 := ⟨grownCap w (nn + mm) old e - 1, by omega⟩
      refine ⟨by rw [List.length_append, hol, hzl, Nat.add_mul], .inr ⟨w.heap.size, ck, _, by rw [hck], heap_alloc_new w.drew _, by omega, by omega, ?_, ?_⟩⟩
      · rw [← hck]
        simp only [Array.size_append, List.size_toArray, size_zeroCells, hzs, hol, ← Nat.add_mul]
        congr 1
        omega
      · simp only [Array.toList_append]
        rw [show (nn + mm) * i.size = (us ++ (Builtin.zeroCells zz.cells mm).toList).length from by rw [List.length_append, hol, hzl, Nat.add_mul]]
        exact List.take_left
    have grow : ∀ (base : Option Addr) (old : Nat), (Builtin.firstCells i.size nn (.slice base nn old)).run P w.drew = .ok us.toArray w.drew → us.length = nn * i.size → old < nn + mm →
        ∃ v' w', (Builtin.append_ #[T, tn] ty #[.slice base nn old, .int .i64 mm]).run P w = .ok v' w' ∧ RowIs w' v' e i.size (nn + mm) (us ++ (Builtin.zeroCells zz.cells mm).toList) ∧ Kp [] w w' ∧ rblk v' = some w.heap.size := fun base old hf hul hlt => by
      have hr := Lib.run_append_grow_zeros (P := P) w T tn ty e i zz .i64 kn ht htn hi hz base nn old us hf mm (by omega) hpos hlt h63' (by omega) ((hfit old).resolve_right (by omega))
      refine ⟨_, _, hr, grown us old hul hlt rfl, ⟨rfl, rfl, rfl, by simp, fun k hk _ => heap_alloc_old w.drew _ hk⟩, ?_⟩
      have hge := grownCap_ge w (nn + mm) old e
      obtain ⟨ck, hck⟩ : ∃ ck, grownCap w (nn + mm) old e = ck + 1 := ⟨grownCap w (nn + mm) old e - 1, by omega⟩
      rw [hck]; rfl
    rcases hrow.2 with ⟨q, rfl, rfl⟩ | ⟨g, cap, cur, rfl, hg, hnc, hcm, hcs, htake⟩
    · have hu : us = [] := List.eq_nil_of_length_eq_zero (by simpa using hrow.1)
      subst hu
      obtain ⟨v', w', r1, r2, r3, r4⟩ := grow q 0 (by cases q <;> simp [Builtin.firstCells, loadCells, loadCellsFrom]) (by simp) (by omega)
      exact ⟨v', w', r1, r2, ⟨r3.os, r3.tape, r3.output, r3.size, fun k hk _ => r3.block k hk (by simp)⟩, .inr r4⟩
    · by_cases hroom : nn + mm ≤ cap + 1
      · have hcl : nn * i.size + (Builtin.zeroCells zz.cells mm).toList.length ≤ cur.size := by rw [hzl, hcs, ← Nat.add_mul]; exact Nat.mul_le_mul_right _ hroom
        have hst := run_storeCells_at P g (nn * i.size) e (Builtin.zeroCells zz.cells mm).toList 0 cur w hg (by simpa using hcl) h1
        simp only [Nat.add_zero] at hst
        have hns : ¬ (mm * i.size = 0) := Nat.mul_ne_zero hm (by omega)
        have hr : (Builtin.append_ #[T, tn] ty #[.slice (some ⟨g, 0, none⟩) nn (cap + 1), .int .i64 mm]).run P w = .ok (.slice (some ⟨g, 0, none⟩) (nn + mm) (cap + 1)) (w.setRow g (cur.toList.take (nn * i.size) ++ (Builtin.zeroCells zz.cells mm).toList ++ cur.toList.drop (nn * i.size + (Builtin.zeroCells zz.cells mm).toList.length)).toArray) := by
          simp [Builtin.append_, run_underlying ht, run_underlying htn, sizeOf, typeInfo, zeroValue, hi, hz, asInt, asIntOf, hw, hneg, hns, h48i, hroom, Addr.add_lit, hst]
        refine ⟨_, _, hr, ⟨by rw [List.length_append, hrow.1, hzl, Nat.add_mul], .inr ⟨g, cap, _, rfl, setRow_heap w g cur _ e _ hg, hroom, hcm, ?_, ?_⟩⟩, kp_setRow w g _, .inl rfl⟩
        · simp only [List.size_toArray, List.length_append, List.length_take, List.length_drop, Array.length_toList] at hcl ⊢
          omega
        · rw [htake, show (nn + mm) * i.size = (us ++ (Builtin.zeroCells zz.cells mm).toList).length from by rw [List.length_append, hrow.1, hzl, Nat.add_mul]]
          exact List.take_left
      · have holds : ∀ j v, us[j]? = some v → w.cell? ((⟨g, 0, none⟩ : Addr).add j) = some v := fun j v hj => by
          rw [add0, Nat.zero_add]; exact hrow.cells rfl j v hj
        obtain ⟨v', w', r1, r2, r3, r4⟩ := grow (some ⟨g, 0, none⟩) (cap + 1) (run_firstCells_some (P := P) w.drew i.size nn ⟨g, 0, none⟩ nn (cap + 1) us hrow.1 (by simpa using holds)) hrow.1 (by omega)
        exact ⟨v', w', r1, r2, ⟨r3.os, r3.tape, r3.output, r3.size, fun k hk _ => r3.block k hk (by simp)⟩, .inr r4⟩

theorem relL_zeros {A : Nat → Prop} {w : World} {q : Nat} {d : U.Dat q} {zs : List Value} (hd : ∀ A w, RelL A w (U.cells q d) zs) : ∀ n, RelL A w ((List.replicate n d).flatMap (U.cells q)) (List.replicate n zs).flatten
  | 0 => RelL.nil
  | n + 1 => by
    rw [List.replicate_succ, List.replicate_succ, List.flatMap_cons, List.flatten_cons]
    exact (hd A w).app (relL_zeros hd n)

section
variable {P : Program} {C : Cx} {E : Env} {σ : List Res} {o : Oper} {x y : Operand} {T tn e : TypeId} {v : Value}
theorem Yv.appz {by' : Nat} {kn : IntKind} {l : List (U.Dat e)} {zs : List Value} {m : Int} (i : Nat) (d : U.Dat e) (ho : o.op = .call { callee := .builtin .append, args := #[x, y], argTypes := #[T, tn] }) (hx : E.ev x = some (.lit v)) (hσ : σ[i]? = some (.row v e l)) (hy : E.ev y = some (.i m)) (hT : P.underlying T = some (.slice e)) (htn : P.underlying tn = some (.int kn)) (hs : (P.info? e).map (fun i => (i.size, i.bytes)) = some ((U.sz e), by')) (hz : zerosOf P e = some zs) (hzl : zs.length = (U.sz e)) (hpos : 0 < (U.sz e)) (hb : Nat.ble by' 4096 = true)
    (hd : ∀ A w, RelL A w (U.cells e d) zs) (hone : zs.all Value.oneCell' = true) (hlen : 0 ≤ m ∧ (l ++ List.replicate m.toNat d).length ≤ 1073741824) : Yv P E σ o C (Option.toList (rblk v)) (fun a σ' => ∃ v', a = .lit v' ∧ σ' = σ.set i (.row v' e (l ++ List.replicate m.toNat d))) := fun w ρ hg hρ => by
  obtain ⟨it, hit, hz1⟩ := Option.bind_eq_some_iff.1 hz
  obtain ⟨zv, hz2, hz3⟩ := Option.map_eq_some_iff.1 hz1
  obtain ⟨ie, hie, hse⟩ := Option.map_eq_some_iff.1 hs
  have hee : it = ie := by rw [hit] at hie; exact Option.some.inj hie
  subst hee
  simp only [Prod.mk.injEq] at hse
  obtain ⟨s1, s2⟩ := hse
  have hby : by' ≤ 4096 := by simpa using hb
  obtain ⟨us, g1, g2, g3⟩ := row_flat (hg.res _ (List.mem_of_getElem? hσ))
  have hx' := (hρ _ _ hx).litEq
  have hy' := (hρ _ _ hy).litEq
  obtain ⟨mm, rfl⟩ : ∃ mm : Nat, m = mm := ⟨m.toNat, by omega⟩
  rw [Int.toNat_natCast] at hlen ⊢
  obtain ⟨_, hlen⟩ := hlen
  rw [List.length_append, List.length_replicate] at hlen
  have hbytes : (l.length + mm) * by' ≤ 140737488355328 := by
    have : (l.length + mm) * by' ≤ 1073741824 * 4096 := Nat.mul_le_mul hlen hby
    omega
  have hzc : zv.cells = zs.toArray := by rw [← hz3]
  have hzt : (Builtin.zeroCells zv.cells mm).toList = (List.replicate mm zs).flatten := by rw [hzc]; exact zeroCells_list hzl mm
  obtain ⟨v', w', r1, r2, r3, r4⟩ := run_append_rowz (P := P) (T := T) (tn := tn) (ty := o.type) hT htn hit hz2 s1 s2 (by rw [hzc, List.size_toArray, hzl]) hpos g1 (mm := mm) (by
    rw [hzt]
    intro u hu
    obtain ⟨q, hq, hu⟩ := List.mem_flatten.1 hu
    rw [List.eq_of_mem_replicate hq] at hu
    exact List.all_eq_true.1 hone u hu) (by unfold maxLen; omega) hbytes
  rw [hzt] at r2
  refine ⟨v', w', _, _, ⟨v', rfl, rfl⟩, tr_upd (r := .row v e l) hg hσ r3 r4 (row_ok (by rw [List.length_append, List.length_replicate]; exact r2) (unif_app g2 (fun j hj => ?_)) ?_), ?_, .lit _⟩
  · rw [List.length_replicate] at hj
    rw [getElem!_pos _ j (by simpa using hj), List.getElem_replicate, ← (hd (fun _ => True) w).1, hzl]
  · rw [List.flatMap_append]
    refine RelL.app (g3.mono fun b hb hA => ⟨⟨hA.1, fun hx => ?_⟩, r3.block b hb (fun hx => hA.2 (mem_blks.2 ⟨_, List.mem_of_getElem? hσ, by simpa [Res.blk] using hx⟩))⟩) (relL_zeros hd mm)
    obtain ⟨s, hs1, hs2⟩ := mem_blks.1 hx
    rcases List.mem_or_eq_of_mem_set hs1 with h | h
    · exact hA.2 (mem_blks.2 ⟨s, h, hs2⟩)
    · rw [h] at hs2
      rcases r4 with r4 | r4
      · exact hA.2 (mem_blks.2 ⟨_, List.mem_of_getElem? hσ, by rw [← hs2]; exact r4.symm⟩)
      · have hs2' : rblk v' = some b := hs2
        rw [r4] at hs2'
        cases hs2'
        omega
  · simp [execOp, ho, resolve, invoke, builtin, hx', hy', r1]
end
end Go.Iv
end
section
set_option linter.unusedSectionVars false
set_option linter.unusedVariables false
set_option linter.unusedSimpArgs false
namespace Go.Iv
open Go Go.RowKit
variable [U : Uni] {P : Program} {C : Cx} {E : Env} {σ : List Res} {o : Oper} {T T' : TypeId} {x y : Operand} {v : Value}
theorem Yv.copyR {q : Nat} {l l2 : List (U.Dat q)} (i : Nat) (ho : o.op = .call { callee := .builtin .copy, args := #[x, y], argTypes := #[T, T'] }) (hx : E.ev x = some (.lit v)) (hσ : σ[i]? = some (.row v q l)) (hs : Src σ E y q l2)
    (hT : P.underlying T = some (.slice q)) (hz : (P.info? q).map (·.size) = some 1) (hsz : U.sz q = 1) (hlen : l2.length = l.length) (h0 : 0 < l.length) (hone : ∀ a, (U.cells q a).all acell1 = true) :
    Yv P E σ o C (Option.toList (rblk v)) (fun a σ' => a = .i (l.length : Int) ∧ σ' = σ.set i (.row v q l2)) := fun w ρ hg hρ => by
  obtain ⟨j, hj, hj'⟩ := Option.map_eq_some_iff.1 hz
  obtain ⟨us, h1, h2, h3⟩ := hg.res _ (List.mem_of_getElem? hσ)
  obtain ⟨g, cap, cur, hv, hgb, hB, q1, q2, q3, q4⟩ := h1.at h0
  obtain ⟨p, cap2, news, r1, r2, r3, r4, r5, r6⟩ := Src.spec hs hg.hd hρ
  have hx' := (hρ _ _ hx).litEq
  rcases r2 with r2 | ⟨a, rfl, r2⟩
  · omega
  rw [hsz, Nat.mul_one] at r3 q3
  have hone' : (l2.flatMap (U.cells q)).all acell1 = true := List.all_eq_true.2 fun c hc => by
    obtain ⟨z, _, hz⟩ := List.mem_flatMap.1 hc
    exact List.all_eq_true.1 (hone z) c hz
  have hl := run_loadCells_list (P := P) w a news r2
  have hst := run_storeCells_at P g 0 q news 0 cur w hB (by rw [r3, q3]; omega) (r5.one hone')
  simp only [Nat.add_zero, Nat.zero_add, List.take_zero, List.nil_append] at hst
  have hpart : ∀ b, al C (σ.set i (.row v q l2)) b ↔ al C σ b := fun b => by
    have hbk := blks_set (r' := Res.row v q l2) hσ rfl
    unfold al
    rw [hbk]
  have hal : ∀ b, b < w.heap.size → al C σ b → al C (σ.set i (.row v q l2)) b ∧ (w.setRow g (news ++ cur.toList.drop news.length).toArray).heap[b]? = w.heap[b]? := fun b hb hA =>
    ⟨(hpart b).2 hA, setRow_other w g b _ (fun e => hA.2 (mem_blks.2 ⟨_, List.mem_of_getElem? hσ, by rw [e]; exact hgb⟩))⟩
  refine ⟨.int .i64 l.length, w.setRow g (news ++ cur.toList.drop news.length).toArray, _, _, ⟨rfl, rfl⟩, tr_upd (r := .row v q l) hg hσ (by show Kp (Option.toList (rblk v)) _ _; rw [hgb]; exact kp_setRow w g _) (.inl rfl) (row_ok (us := news) ⟨by rw [hsz, Nat.mul_one, r3], .inr ⟨g, cap, _, by rw [hlen]; exact hv, setRow_heap w g cur _ q (0, 0) hB, by rw [hlen]; exact q1, q2, ?_, ?_⟩⟩ r4 (r5.mono hal)), ?_, .lit _⟩
  · have hc : cur.toList.length = cap + 1 := by rw [Array.length_toList]; exact q3
    simp only [List.size_toArray, List.length_append, List.length_drop, hc, hsz, Nat.mul_one, r3, hlen]
    omega
  · rw [hsz, Nat.mul_one, ← r3]
    simp
  · have hmin : min l2.length l.length = news.length := by rw [r3]; omega
    have hmin' : Nat.min l2.length l.length = news.length := hmin
    have hnl : news.length = l.length := by rw [r3, hlen]
    rw [← hnl]
    simp [execOp, ho, resolve, invoke, builtin, hx', hv, r1, Builtin.copy_, run_underlying hT, Builtin.lenOf, Builtin.firstCells, sizeOf, typeInfo, hj, hj', hmin', hl, hst, goInt]
end Go.Iv
end
section
set_option linter.unusedSectionVars false
set_option linter.unusedVariables false
set_option linter.unusedSimpArgs false
namespace Go.Iv
variable [U : Uni] [L : UniL]
open Go Go.RowKit

/-- What an operation does: it yields d; it makes something new, with the next name, and yields d; it changes what id names; what id names is given up for something new, which it yields; it yields d, and what is owned is R. -/
inductive Eff : Type
  | val (d : AV)
  | new (d : AV) (r : IR)
  | set (id : Nat) (r : IR)
  | grow (id : Nat) (r : IR)
  | all (d : AV) (R : IRs) (nx : Nat)
noncomputable def Eff.R (R : IRs) (nx : Nat) : Eff → IRs
  | .val _ => R
  | .new _ r => (nx, r) :: R
  | .set id r => rset id r R
  | .grow id r => (nx, r) :: rdel id R
  | .all _ R' _ => R'
def Eff.nx (nx : Nat) : Eff → Nat
  | .val _ => nx
  | .new _ _ => nx + 1
  | .set _ _ => nx
  | .grow _ _ => nx + 1
  | .all _ _ m => m
def Eff.vl (nx : Nat) : Eff → Option AV
  | .val d => some d
  | .new d _ => some d
  | .set _ _ => none
  | .grow _ _ => some (.own nx)
  | .all d _ _ => some d

section
variable {P : Program} {C : Cx} {E : Env} {σ σ' : List Res} {o : Oper} {N : Option AV → List Res → Prop} {X : List Nat} {N0 : AV → List Res → Prop} {av : AV}

/-- The operation yields something or nothing, by itself or by a call; what and what is owned then is of N. -/
def Ye (P : Program) (E : Env) (σ : List Res) (o : Oper) (C : Cx) (N : Option AV → List Res → Prop) : Prop := ∀ (w : World) (ϱ : Operand → Value), Good C σ w → Ops (al C σ) w E ϱ →
  (∃ v w' av σ', N (some av) σ' ∧ Tr C (blks σ) σ w σ' w' ∧ (execOp ϱ o).run P w = .ok (.value v) w' ∧ Rel (al C σ') w' av v) ∨
  (∃ w' σ', N none σ' ∧ Tr C (blks σ) σ w σ' w' ∧ (execOp ϱ o).run P w = .ok .skip w') ∨
  (∃ f args, (execOp ϱ o).run P w = .ok (.enter f args) w ∧ Calls P f args w fun e w' => ∃ v av σ', e = .returned v ∧ N (some av) σ' ∧ Tr C (blks σ) σ w σ' w' ∧ Rel (al C σ') w' av v)

theorem Tr.wide {w w' : World} (h : Tr C X σ w σ' w') (hX : ∀ b ∈ X, b ∈ blks σ) : Tr C (blks σ) σ w σ' w' :=
  ⟨h.good, ⟨h.kp.os, h.kp.tape, h.kp.output, h.kp.size, fun k hk hn => h.kp.block k hk fun hx => hn (hX k hx)⟩, fun b hb hA => ⟨(h.al b hb hA).1, hA.2⟩⟩
theorem Tr.none {w : World} (h : Good C σ w) : Tr C (blks σ) σ w σ w := ⟨h, Kp.refl _ _, fun _ _ hA => ⟨hA, hA.2⟩⟩
theorem Ye.ofP (h : Yp P E σ o av) (hN : N (some av) σ) : Ye P E σ o C N := fun w ϱ hg hρ => by
  obtain ⟨v, h1, h2⟩ := h _ w ϱ hg.hd hρ
  exact .inl ⟨v, w, av, σ, hN, .none hg, h2 w (fun _ _ _ => rfl), h1⟩
theorem Ye.ofV (h : Yv P E σ o C X N0) (hX : ∀ b ∈ X, b ∈ blks σ) (hN : ∀ a σ', N0 a σ' → N (some a) σ') : Ye P E σ o C N := fun w ϱ hg hρ => by
  obtain ⟨v, w', av, σ', h1, h2, h3, h4⟩ := h w ϱ hg hρ
  exact .inl ⟨v, w', av, σ', hN _ _ h1, h2.wide hX, h3, h4⟩
theorem Ye.ofU (h : Yu P E σ o C X σ') (hX : ∀ b ∈ X, b ∈ blks σ) (hN : N none σ') : Ye P E σ o C N := fun w ϱ hg hρ => by
  obtain ⟨w', h2, h3⟩ := h w ϱ hg hρ
  exact .inr (.inl ⟨w', σ', hN, h2.wide hX, h3⟩)
theorem Ye.ofC (h : Yc P E σ o C X N0) (hX : ∀ b ∈ X, b ∈ blks σ) (hN : ∀ a σ', N0 a σ' → N (some a) σ') : Ye P E σ o C N := fun w ϱ hg hρ => by
  obtain ⟨f, args, h1, h2⟩ := h w ϱ hg hρ
  exact .inr (.inr ⟨f, args, h1, h2.mono fun e w' ⟨v, av, σ', q1, q2, q3, q4⟩ => ⟨v, av, σ', q1, hN _ _ q2, q3.wide hX, q4⟩⟩)
end

/-- What follows an operation of effect eff. -/
def Nx {α : Type} (R : IRs) (nx : Nat) (K : Eff → Option α) (r : α) (ρ : Gh) : Option AV → List Res → Prop := fun a σ' => ∃ eff : Eff, K eff = some r ∧ nx ≤ eff.nx nx ∧ IRs.Ltd (eff.nx nx) (eff.R R nx) ∧ (∀ d, eff.vl nx = some d → Ltd (eff.nx nx) d) ∧
  ∃ ρ', Agr nx ρ ρ' ∧ a = (eff.vl nx).map (AVq.sub ρ') ∧ List.Perm σ' (IRs.res ρ' (eff.R R nx))
def Stp {α : Type} (P : Program) (o : Oper) (E : Env) (R : IRs) (nx : Nat) (K : Eff → Option α) (r : α) : Prop := ∀ ρ C, Ye P (E.sub ρ) (IRs.res ρ R) o C (Nx R nx K r ρ)

def Gh.putV (ρ : Gh) (n : Nat) (v : Value) : Gh := ⟨fun i => if i = n then v else ρ.v i, ρ.b⟩
def Gh.putB (ρ : Gh) (n b : Nat) : Gh := ⟨ρ.v, fun i => if i = n then b else ρ.b i⟩
theorem Agr.putV (ρ : Gh) (n : Nat) (v : Value) : Agr n ρ (ρ.putV n v) := fun i hi => ⟨by simp [Gh.putV, Nat.ne_of_lt hi], rfl⟩
theorem Agr.putB (ρ : Gh) (n b : Nat) : Agr n ρ (ρ.putB n b) := fun i hi => ⟨rfl, by simp [Gh.putB, Nat.ne_of_lt hi]⟩

section
variable {α : Type} {r : α} {P : Program} {o : Oper} {E : Env} {R : IRs} {nx : Nat} {ev : Operand → Option AV} {rd : Nat → Option IR} {x y z : Operand} {d : AV} {K : Eff → Option α}

theorem Stp.pu (hs : See ev rd nx E R) (h : ∃ d, K (.val d) = some r ∧ Pu P o E R nx d) : Stp P o E R nx K r := fun ρ C => by
  obtain ⟨d, h1, h2, h3⟩ := h
  exact .ofP (h3 ρ) ⟨.val d, h1, Nat.le_refl _, hs.lr, fun d' hd => by cases hd; exact h2, ρ, .refl _ _, rfl, .refl _⟩

theorem nxNew (hs : See ev rd nx E R) {d : AV} {rr : IR} {ρ ρ' : Gh} {σ' : List Res} {a : AV} (hK : K (.new d rr) = some r) (hd : Ltd (nx + 1) d) (hr : rr.Ltd (nx + 1)) (hρ : Agr nx ρ ρ') (ha : a = d.sub ρ') (hσ : σ' = rr.res ρ' nx :: IRs.res ρ R) : Nx R nx K r ρ (some a) σ' := by
  refine ⟨.new d rr, hK, Nat.le_succ nx, fun p hp => ?_, fun d' h => by cases h; exact hd, ρ', hρ, by rw [ha]; rfl, ?_⟩
  · rcases List.mem_cons.1 hp with rfl | hp
    · exact ⟨Nat.lt_succ_self _, hr⟩
    · exact (hs.lr.mono (Nat.le_succ nx)) p hp
  · rw [hσ, hs.lr.res hρ]
    exact .refl _

/-! ### variables -/

def aloE (P : Program) (nx : Nat) (T : TypeId) (K : Eff → Option α) : Option α := ((P.info? T).bind fun i => i.zero).bind fun z => K (.new (.ptr nx 0) (.box T (z.cells.toList.map .lit)))
theorem aloE_ok {T : TypeId} (hs : See ev rd nx E R) (ho : o.op = .alloc T) (h : aloE P nx T K = some r) : Stp P o E R nx K r := fun ρ C => by
  obtain ⟨z, h1, h⟩ := Option.bind_eq_some_iff.1 h
  obtain ⟨i, h2, h3⟩ := Option.bind_eq_some_iff.1 h1
  refine .ofV (.alloc (zs := z.cells.toList) ho (by rw [h2]; simp [h3])) (by simp) fun a σ' ⟨b, ha, hσ⟩ => ?_
  refine nxNew hs (ρ' := ρ.putB nx b) h (.ptr _ _ (Nat.lt_succ_self _)) (fun c hc => ltd_lits _ _ c hc) (.putB ρ nx b) ?_ ?_
  · rw [ha, sub_ptr]; simp [Gh.putB]
  · rw [hσ]; simp only [IR.res, lits_sub]; simp [Gh.putB]

def boxE (rd : Nat → Option IR) (nx : Nat) (T : TypeId) (x : Option AV) (K : Eff → Option α) : Option α := match x with
  | some d => match dplain rd d with
    | true => K (.new (.ptr nx 0) (.box T (acells d)))
    | false => none
  | none => none
theorem boxE_ok {T : TypeId} (hs : See ev rd nx E R) (ho : o.op = .box T x) (h : boxE rd nx T (ev x) K = some r) : Stp P o E R nx K r := fun ρ C => by
  unfold boxE at h
  split at h
  case h_2 => cases h
  rename_i d hx
  split at h
  case h_2 => cases h
  rename_i hp
  refine .ofV (.box ho (hs.evs hx ρ) (dplain_pw hs hp)) (by simp) fun a σ' ⟨b, ha, hσ⟩ => ?_
  have hl := ltd_cells (hs.ltd hx)
  refine nxNew hs (ρ' := ρ.putB nx b) h (.ptr _ _ (Nat.lt_succ_self _)) (fun c hc => (hl c hc).mono (Nat.le_succ nx)) (.putB ρ nx b) ?_ ?_
  · rw [ha, sub_ptr]; simp [Gh.putB]
  · rw [hσ, sub_acells, Ltd.subL hl (.putB ρ nx b)]; simp [IR.res, Gh.putB]

/-! ### stores -/

def dat1 : AV → Bool
  | .lit v => v.oneCell'
  | .sl _ _ => true
  | _ => false
def datB : AV → Bool
  | .agg cs => cs.all dat1
  | d => dat1 d
theorem dat1_sub {d : AV} (h : dat1 d = true) (ρ : Gh) : d.sub ρ = d := by
  cases d <;> first | (cases h; done) | simp only [AVq.sub]
theorem datL_sub {cs : List AV} (h : cs.all dat1 = true) (ρ : Gh) : cs.map (AVq.sub ρ) = cs := by
  have : cs.map (AVq.sub ρ) = cs.map id := List.map_congr_left fun c hc => dat1_sub (List.all_eq_true.1 h c hc) ρ
  rw [this, List.map_id]
theorem datB_sub {d : AV} (h : datB d = true) (ρ : Gh) : d.sub ρ = d := by
  by_cases ha : ∃ cs, d = .agg cs
  · obtain ⟨cs, rfl⟩ := ha
    rw [sub_agg, datL_sub h]
  · exact dat1_sub (by cases d <;> first | exact h | (exact absurd ⟨_, rfl⟩ ha)) ρ
theorem dat1_one {d : AV} (h : dat1 d = true) : acell1 d = true := by
  cases d <;> first | (cases h; done) | exact h | rfl
theorem datB_plain {d : AV} (h : datB d = true) : aplain d = true := by
  by_cases ha : ∃ cs, d = .agg cs
  · obtain ⟨cs, rfl⟩ := ha
    exact List.all_eq_true.2 fun c hc => dat1_one (List.all_eq_true.1 h c hc)
  · have := dat1_one (d := d) (by cases d <;> first | exact h | (exact absurd ⟨_, rfl⟩ ha))
    cases d <;> first | exact this | (exact absurd ⟨_, rfl⟩ ha)

/-- one truth value -/
def boolOf (d : AV) : Option Bool := match acells d with
  | [.lit (.bool b)] => some b
  | _ => none
theorem boolOf_ok {d : AV} {b : Bool} (h : boolOf d = some b) : acells d = [.lit (.bool b)] := by
  unfold boolOf at h
  split at h
  · rename_i b' e; cases h; exact e
  · cases h
def stoE (P : Program) (rd : Nat → Option IR) (T : TypeId) (x y : Option AV) (K : Eff → Option α) : Option α := match y with
  | some d => match (P.info? T).map (·.size) with
    | some n => match Nat.beq (acells d).length n && dplain rd d with
      | true => match x with
        | some (.ptr id off) => match rd id with
          | some (.box T' cs) => match Nat.ble (off + n) cs.length with
            | true => K (.set id (.box T' (cs.take off ++ acells d ++ cs.drop (off + n))))
            | false => none
          | _ => none
        | some (.ra id t m off) => match rd id with
          | some (.row t' l) => match bif L.arr t' && datB d then boolOf d else none with
           | some b => if t = t' ∧ m < l.length ∧ off < U.sz t' then K (.set id (.row t' (l.set m (L.stB t' l[m]! off b)))) else none
           | none => match Nat.ble (off + n) (U.sz t') && datB d with
            | true => if t = t' ∧ m < l.length then (L.parse t' ((U.cells t' l[m]!).take off ++ acells d ++ (U.cells t' l[m]!).drop (off + n))).bind fun q => K (.set id (.row t' (l.set m q))) else none
            | false => none
          | _ => none
        | _ => none
      | false => none
    | none => none
  | none => none

theorem stoE_ok {T : TypeId} (hs : See ev rd nx E R) (ho : o.op = .store T x y) (h : stoE P rd T (ev x) (ev y) K = some r) : Stp P o E R nx K r := fun ρ C => by
  unfold stoE at h
  split at h
  case h_2 => cases h
  rename_i d hy
  split at h
  case h_2 => cases h
  rename_i n hn
  split at h
  case h_2 => cases h
  rename_i hdn
  simp only [Bool.and_eq_true] at hdn
  obtain ⟨hlen, hp⟩ := hdn
  have hlen := beqT hlen
  split at h
  · rename_i id off hx
    split at h
    case h_2 => cases h
    rename_i T' cs hr
    split at h
    case h_2 => cases h
    rename_i hle
    have hle := Nat.le_of_ble_eq_true hle
    have ex := hs.evs hx ρ
    rw [sub_ptr] at ex
    obtain ⟨i, hi1, hi2, _⟩ := rget_idx (hs.r _ _ hr)
    have hres := res_get (ρ := ρ) hi1
    have hl : ∀ c ∈ cs.take off ++ acells d ++ cs.drop (off + n), Ltd nx c := ltd_app (ltd_app (ltd_take (hs.boxL hr) _) (ltd_cells (hs.ltd hy))) (ltd_drop (hs.boxL hr) _)
    refine .ofU (.storeB (cs := cs.map (AVq.sub ρ)) i ho ex (hs.evs hy ρ) hres hn (dplain_pw hs hp) (by rw [sub_acells, List.length_map, hlen]) (by rw [List.length_map]; exact hle)) (fun b hb => ?_) ⟨_, h, Nat.le_refl _, rset_ltd (hs.r _ _ hr) hs.lr hl, fun d' hd => (by cases hd), ρ, .refl _ _, rfl, ?_⟩
    · rw [List.mem_singleton] at hb
      exact mem_blks.2 ⟨_, List.mem_of_getElem? hres, by rw [hb]; rfl⟩
    · show List.Perm _ (IRs.res ρ (rset id _ R))
      rw [hi2, res_set]
      simp only [IR.res, List.map_append, List.map_take, List.map_drop, sub_acells]
      exact .refl _
  · rename_i id t m off hx
    split at h
    case h_2 => cases h
    rename_i t' l hr
    split at h
    · rename_i b hbb
      cases har : L.arr t' && datB d with
      | false => rw [har] at hbb; cases hbb
      | true =>
        rw [har] at hbb
        simp only [Bool.and_eq_true] at har
        obtain ⟨har, hap⟩ := har
        have hab := boolOf_ok hbb
        rw [hab] at hlen
        have hn1 : n = 1 := by simpa using hlen.symm
        split at h
        case isFalse => cases h
        rename_i hm
        obtain ⟨rfl, hm, hoff⟩ := hm
        have ex := hs.evs hx ρ
        rw [sub_ra] at ex
        obtain ⟨i, hi1, hi2, _⟩ := rget_idx (hs.r _ _ hr)
        have hres := res_get (ρ := ρ) hi1
        have hds := datB_sub hap ρ
        have hpl : aplain (d.sub ρ) = true := by rw [hds]; exact datB_plain hap
        refine .ofU (.storeR (of := off) i (L.stB t l[m]! off b) ho ex (hs.evs hy ρ) hres hn hpl (by rw [hds, hab, hn1]; rfl) rfl hm (by omega) (L.len _ _) (fun A w us hr => ?_)) (fun b hb => ?_) ⟨_, h, Nat.le_refl _, rset_ltd (hs.r _ _ hr) hs.lr trivial, fun d' hd => (by cases hd), ρ, .refl _ _, rfl, ?_⟩
        · rw [hds, hab, hn1] at hr
          rw [L.arr_set t har _ off b hoff]
          exact hr
        · obtain ⟨g, hg⟩ : ∃ g, rblk (ρ.v id) = some g := by
            cases hb' : rblk (ρ.v id) with
            | none => rw [hb'] at hb; simp at hb
            | some g => exact ⟨g, rfl⟩
          rw [hg] at hb
          simp only [Option.toList_some, List.mem_singleton] at hb
          exact mem_blks.2 ⟨_, List.mem_of_getElem? hres, by rw [hb]; exact hg⟩
        · show List.Perm _ (IRs.res ρ (rset id _ R))
          rw [hi2, res_set]
          exact .refl _
    split at h
    case h_2 => cases h
    rename_i hle
    simp only [Bool.and_eq_true] at hle
    obtain ⟨hle, hap⟩ := hle
    have hle := Nat.le_of_ble_eq_true hle
    split at h
    case isFalse => cases h
    rename_i hm
    obtain ⟨rfl, hm⟩ := hm
    obtain ⟨q, hq, h⟩ := Option.bind_eq_some_iff.1 h
    have ex := hs.evs hx ρ
    rw [sub_ra] at ex
    obtain ⟨i, hi1, hi2, _⟩ := rget_idx (hs.r _ _ hr)
    have hres := res_get (ρ := ρ) hi1
    have hds := datB_sub hap ρ
    have hpl : aplain (d.sub ρ) = true := by rw [hds]; exact datB_plain hap
    refine .ofU (.storeR (of := off) i q ho ex (hs.evs hy ρ) hres hn hpl (by rw [sub_acells, List.length_map, hlen]) rfl hm hle (L.len _ _) (fun A w us hr => ?_)) (fun b hb => ?_) ⟨_, h, Nat.le_refl _, rset_ltd (hs.r _ _ hr) hs.lr trivial, fun d' hd => (by cases hd), ρ, .refl _ _, rfl, ?_⟩
    · refine L.parse_ok _ _ _ hq A w us ?_
      rw [hds] at hr
      exact hr
    · obtain ⟨g, hg⟩ : ∃ g, rblk (ρ.v id) = some g := by
        cases hb' : rblk (ρ.v id) with
        | none => rw [hb'] at hb; simp at hb
        | some g => exact ⟨g, rfl⟩
      rw [hg] at hb
      simp only [Option.toList_some, List.mem_singleton] at hb
      exact mem_blks.2 ⟨_, List.mem_of_getElem? hres, by rw [hb]; exact hg⟩
    · show List.Perm _ (IRs.res ρ (rset id _ R))
      rw [hi2, res_set]
      exact .refl _
  · cases h

/-! ### rows -/

/-- n elements, as0 cells -/
def prs (t : Nat) : Nat → List AV → Option (List (U.Dat t))
  | 0, [] => some []
  | 0, _ => none
  | n + 1, cs => (L.parse t (cs.take (U.sz t))).bind fun x => (prs t n (cs.drop (U.sz t))).map fun l => x :: l
theorem prs_ok {t : Nat} : ∀ {n : Nat} {cs : List AV} {l : List (U.Dat t)}, prs t n cs = some l → cs.length = n * U.sz t → l.length = n ∧ ∀ A w us, RelL A w cs us → RelL A w (l.flatMap (U.cells t)) us
  | 0, [], l, h, _ => by
    cases h
    exact ⟨rfl, fun A w us h => h⟩
  | 0, _ :: _, l, h, _ => by cases h
  | n + 1, cs, l, h, hl => by
    unfold prs at h
    obtain ⟨x, h1, h⟩ := Option.bind_eq_some_iff.1 h
    obtain ⟨l', h2, rfl⟩ := Option.map_eq_some_iff.1 h
    rw [Nat.succ_mul] at hl
    obtain ⟨h3, h4⟩ := prs_ok h2 (by rw [List.length_drop]; omega)
    refine ⟨by simp [h3], fun A w us hr => ?_⟩
    rw [List.flatMap_cons, ← List.take_append_drop (U.sz t) us]
    exact (L.parse_ok _ _ _ h1 A w _ (hr.take _)).app (h4 A w _ (hr.drop _))

def litE (P : Program) (ev : Operand → Option AV) (rd : Nat → Option IR) (nx : Nat) (T : TypeId) (n : Nat) (ps : List (Nat × Operand)) (K : Eff → Option α) : Option α := match P.underlying T with
  | some (.slice e) => match szIs P e (U.sz e) with
    | true => match n with
      | 0 => match ps with
        | [] => K (.new (.own nx) (.row e []))
        | _ => none
      | n + 1 => match evp ev ps, zerosOf P e with
        | some as0, some zs => match Nat.beq zs.length (U.sz e) && Nat.blt 0 (U.sz e) && Nat.ble ((n + 1) * U.sz e) 16777216 with
          | true => (dfill rd (fun i => some (i * U.sz e, U.sz e)) ((List.replicate (n + 1) zs).flatten.map .lit) as0).bind fun cs => match cs.all dat1 && Nat.beq cs.length ((n + 1) * U.sz e) with
            | true => (prs e (n + 1) cs).bind fun l => K (.new (.own nx) (.row e l))
            | false => none
          | false => none
        | _, _ => none
    | false => none
  | _ => none

theorem nxRow (hs : See ev rd nx E R) {t : Nat} {l : List (U.Dat t)} {ρ : Gh} {σ' : List Res} {a : AV} (hK : K (.new (.own nx) (.row t l)) = some r) (h : ∃ v, a = .lit v ∧ σ' = .row v t l :: IRs.res ρ R) : Nx R nx K r ρ (some a) σ' := by
  obtain ⟨v, ha, hσ⟩ := h
  refine nxNew hs (ρ' := ρ.putV nx v) hK (.own _ (Nat.lt_succ_self _)) trivial (.putV ρ nx v) ?_ ?_
  · rw [ha, sub_own]; simp [Gh.putV]
  · rw [hσ]; simp [IR.res, Gh.putV]

theorem litE_ok {T : TypeId} {n : Nat} {ps : Array (Nat × Operand)} (hs : See ev rd nx E R) (ho : o.op = .buildSlice T n ps) (h : litE P ev rd nx T n ps.toList K = some r) : Stp P o E R nx K r := fun ρ C => by
  unfold litE at h
  split at h
  case h_2 => cases h
  rename_i e hT
  split at h
  case h_2 => cases h
  rename_i hsz
  have hsz := szIs_ok hsz
  split at h
  · split at h
    case h_2 => cases h
    rename_i h0
    have h0 : ps = #[] := by rw [← Array.toList_eq_nil_iff]; exact h0
    subst h0
    exact .ofV (.lit0 ho hT hsz) (by simp) fun a σ' hN => nxRow hs h hN
  · rename_i n
    split at h
    case h_2 => cases h
    rename_i as0 zs he hz
    split at h
    case h_2 => cases h
    rename_i hc
    simp only [Bool.and_eq_true] at hc
    obtain ⟨⟨hc1, hc2⟩, hc3⟩ := hc
    have hc1 := beqT hc1
    have hc2 : 0 < U.sz e := by simpa [Nat.blt_eq] using hc2
    have hc3 := Nat.le_of_ble_eq_true hc3
    obtain ⟨cs, hf, h⟩ := Option.bind_eq_some_iff.1 h
    split at h
    case h_2 => cases h
    rename_i hd
    simp only [Bool.and_eq_true] at hd
    obtain ⟨hd1, hd2⟩ := hd
    have hd2 := beqT hd2
    obtain ⟨l, hl, h⟩ := Option.bind_eq_some_iff.1 h
    obtain ⟨hl1, hl2⟩ := prs_ok hl hd2
    refine .ofV (.lit l ho hT hsz hz hc1 (fun A w ϱ hd hρ => ?_) hl1 (fun i hi => L.len _ _) (Nat.mul_pos (Nat.succ_pos _) hc2) hc3) (by simp) fun a σ' hN => nxRow hs h hN
    obtain ⟨us, h1, h2⟩ := dfill_rel (init := (List.replicate (n + 1) zs).flatten.toArray) hs hd (by rw [lits_sub]; exact RelL.lits _) (evp_rel hs hρ he) hf
    rw [datL_sub hd1] at h2
    exact ⟨us, h1, hl2 _ _ _ h2⟩

def mkE (P : Program) (nx : Nat) (T : TypeId) (x y : Option AV) (K : Eff → Option α) : Option α := match P.underlying T, x, y with
  | some (.slice e), some (.lit (.int .i64 m)), some (.lit (.int .i64 n)) => match (P.info? e).map (fun i => (i.size, i.bytes)), zerosOf P e with
    | some (sz, by'), some zs => match Nat.beq sz (U.sz e) && Nat.ble by' 4096 && Nat.beq zs.length (U.sz e) && Nat.blt 0 (U.sz e) with
      | true => (L.parse e (zs.map .lit)).bind fun d => if 0 ≤ m ∧ m ≤ n ∧ n ≤ 1073741824 then K (.new (.own nx) (.row e (List.replicate m.toNat d))) else none
      | false => none
    | _, _ => none
  | _, _, _ => none
theorem mkE_ok {T : TypeId} (hs : See ev rd nx E R) (ho : o.op = .makeSlice T x y) (h : mkE P nx T (ev x) (ev y) K = some r) : Stp P o E R nx K r := fun ρ C => by
  unfold mkE at h
  split at h
  case h_2 => cases h
  rename_i e m n hT hx hy
  split at h
  case h_2 => cases h
  rename_i sz by' zs hb hz
  split at h
  case h_2 => cases h
  rename_i hc
  simp only [Bool.and_eq_true] at hc
  obtain ⟨⟨⟨hc1, hc2⟩, hc3⟩, hc4⟩ := hc
  have hc1 := beqT hc1
  have hc3 := beqT hc3
  have hc4 : 0 < U.sz e := by simpa [Nat.blt_eq] using hc4
  subst hc1
  obtain ⟨d, hd, h⟩ := Option.bind_eq_some_iff.1 h
  split at h
  case isFalse => cases h
  rename_i hm
  have ex := hs.evs hx ρ
  have ey := hs.evs hy ρ
  rw [sub_lit] at ex ey
  exact .ofV (.make d ho ex ey hT hb hz hc2 hc3 (fun A w => L.parse_ok _ _ _ hd A w _ (RelL.lits _)) hc4 hm) (by simp) fun a σ' hN => nxRow hs h hN

/-- x[:0:0] -/
def emE (P : Program) (nx : Nat) (T : TypeId) (x : Option AV) (K : Eff → Option α) : Option α := match P.underlying T with
  | some (.slice e) => match P.info? e with
    | some _ => match x with
      | some (.sl _ _) => K (.new (.own nx) (.row e []))
      | some (.lit (.slice none 0 0)) => K (.new (.own nx) (.row e []))
      | _ => none
    | none => none
  | _ => none
theorem emE_ok {T : TypeId} {k k' : IntKind} (hs : See ev rd nx E R) (ho : o.op = .slice T x none (some (.const (.int k 0))) (some (.const (.int k' 0)))) (h : emE P nx T (ev x) K = some r) : Stp P o E R nx K r := fun ρ C => by
  unfold emE at h
  split at h
  case h_2 => cases h
  rename_i e hT
  split at h
  case h_2 => cases h
  rename_i i hi
  split at h
  · rename_i t l hx
    have ex := hs.evs hx ρ
    rw [sub_sl] at ex
    exact .ofV (.slice00 ho (.inl ex) hT (by rw [hi]; rfl)) (by simp) fun a σ' hN => nxRow hs h hN
  · rename_i hx
    have ex := hs.evs hx ρ
    rw [sub_lit] at ex
    exact .ofV (.slice00 (q := 0) (l := []) ho (.inr ex) hT (by rw [hi]; rfl)) (by simp) fun a σ' hN => nxRow hs h hN
  · cases h

/-! ### append -/

/-- the elements of an operand -/
def srcD (rd : Nat → Option IR) (e : Nat) (x : Option AV) : Option (List (U.Dat e)) := match x with
  | some (.lit (.slice _ 0 _)) => some []
  | some (.sl t l) => castL t e l
  | some (.own id) => match rd id with
    | some (.row t l) => castL t e l
    | _ => none
  | _ => none
theorem srcD_ok {e : Nat} {l : List (U.Dat e)} (hs : See ev rd nx E R) (h : srcD rd e (ev x) = some l) (ρ : Gh) : Src (IRs.res ρ R) (E.sub ρ) x e l := by
  unfold srcD at h
  split at h
  · rename_i hx
    cases h
    have ex := hs.evs hx ρ
    rw [sub_lit] at ex
    exact .inl ⟨_, _, ex, rfl⟩
  · rename_i t l' hx
    obtain ⟨rfl, rfl⟩ := castL_ok h
    have ex := hs.evs hx ρ
    rw [sub_sl] at ex
    exact .inr (.inl ex)
  · rename_i id hx
    split at h
    case h_2 => cases h
    rename_i t l' hr
    obtain ⟨rfl, rfl⟩ := castL_ok h
    have ex := hs.evs hx ρ
    rw [sub_own] at ex
    obtain ⟨i, hi⟩ := hs.row hr ρ
    exact .inr (.inr ⟨i, _, ex, hi⟩)
  · cases h

theorem Src.cons {P : Program} {σ : List Res} {E : Env} {rr : Res} {q : Nat} {l : List (U.Dat q)} (h : Src σ E x q l) : Src (rr :: σ) E x q l := by
  rcases h with h | h | ⟨i, v, h1, h2⟩
  · exact .inl h
  · exact .inr (.inl h)
  · exact .inr (.inr ⟨i + 1, v, h1, h2⟩)

/-- what is known of the elements' type -/
def appT (P : Program) (T : TypeId) (K : Nat → List Value → Option α) : Option α := match P.underlying T with
  | some (.slice e) => match (P.info? e).map (fun i => (i.size, i.bytes)), zerosOf P e with
    | some (sz, by'), some zs => match Nat.beq sz (U.sz e) && Nat.ble by' 4096 && Nat.beq zs.length (U.sz e) with
      | true => K e zs
      | false => none
    | _, _ => none
  | _ => none
theorem appT_ok {T : TypeId} {K : Nat → List Value → Option α} (h : appT P T K = some r) : ∃ e zs by', K e zs = some r ∧ P.underlying T = some (.slice e) ∧ (P.info? e).map (fun i => (i.size, i.bytes)) = some (U.sz e, by') ∧ zerosOf P e = some zs ∧ Nat.ble by' 4096 = true ∧ zs.length = U.sz e := by
  unfold appT at h
  split at h
  case h_2 => cases h
  rename_i e hT
  split at h
  case h_2 => cases h
  rename_i sz by' zs hb hz
  split at h
  case h_2 => cases h
  rename_i hc
  simp only [Bool.and_eq_true] at hc
  obtain ⟨⟨hc1, hc2⟩, hc3⟩ := hc
  have hc1 := beqT hc1
  subst hc1
  exact ⟨e, zs, by', h, hT, hb, hz, hc2, beqT hc3⟩

/-- what is added: elements, or so many zeros -/
def addD (P : Program) (rd : Nat → Option IR) (e : Nat) (zs : List Value) (T' : TypeId) (T : TypeId) (y : Option AV) (K : List (U.Dat e) → Option α) : Option α := match Nat.beq T T' with
  | true => (srcD rd e y).bind K
  | false => match P.underlying T', y with
    | some (.int _), some (.lit (.int .i64 m)) => match Nat.blt 0 (U.sz e) && zs.all Value.oneCell' with
      | true => (L.parse e (zs.map .lit)).bind fun d => if 0 ≤ m then K (List.replicate m.toNat d) else none
      | false => none
    | _, _ => none

def appE (P : Program) (rd : Nat → Option IR) (nx : Nat) (T T' : TypeId) (x y : Option AV) (K : Eff → Option α) : Option α := appT P T fun e zs => match x with
  | some (.lit (.slice none 0 0)) => addD P rd e zs T' T y fun l2 => if l2.length ≤ 1073741824 then K (.new (.own nx) (.row e l2)) else none
  | some (.own id) => match rd id with
    | some (.row t l) => (castL t e l).bind fun l => addD P rd e zs T' T y fun l2 => if (l ++ l2).length ≤ 1073741824 then K (.grow id (.row e (l ++ l2))) else none
    | _ => none
  | _ => none

/-- copy into an own slice of one-cell elements, from one of the same length -/
noncomputable def cpyE (P : Program) (rd : Nat → Option IR) (R : IRs) (nx : Nat) (T : TypeId) (x y : Option AV) (K : Eff → Option α) : Option α := match P.underlying T with
  | some (.slice e) => match szIs P e 1 && Nat.beq (U.sz e) 1 with
    | true => match x with
      | some (.own id) => match rd id with
        | some (.row t l) => (castL t e l).bind fun l => (srcD rd e y).bind fun l2 => if 0 < l.length ∧ l2.length = l.length then K (.all (.i (l.length : Int)) (rset id (.row e l2) R) nx) else none
        | _ => none
      | _ => none
    | false => none
  | _ => none
theorem cpyE_ok {T T' : TypeId} (hs : See ev rd nx E R) (ho : o.op = .call { callee := .builtin .copy, args := #[x, y], argTypes := #[T, T'] }) (h : cpyE P rd R nx T (ev x) (ev y) K = some r) : Stp P o E R nx K r := fun ρ C => by
  unfold cpyE at h
  split at h
  case h_2 => cases h
  rename_i e hT
  split at h
  case h_2 => cases h
  rename_i hc
  rw [Bool.and_eq_true] at hc
  split at h
  case h_2 => cases h
  rename_i id hx
  split at h
  case h_2 => cases h
  rename_i t l hr
  obtain ⟨l', h1, h⟩ := Option.bind_eq_some_iff.1 h
  obtain ⟨rfl, rfl⟩ := castL_ok h1
  obtain ⟨l2, h2, h⟩ := Option.bind_eq_some_iff.1 h
  split at h
  case isFalse => cases h
  rename_i hl
  have ex := hs.evs hx ρ
  rw [sub_own] at ex
  obtain ⟨i, hi1, hi2, _⟩ := rget_idx (hs.r _ _ hr)
  have hres := res_get (ρ := ρ) hi1
  refine .ofV (.copyR i ho ex hres (srcD_ok hs h2 ρ) hT (szIs_ok hc.1) (beqT hc.2) hl.2 hl.1 (L.one _)) (fun b hb => ?_) fun a σ' ⟨ha, hσ⟩ => ⟨_, h, Nat.le_refl _, rset_ltd (hs.r _ _ hr) hs.lr trivial, fun d' hd => (by cases hd; exact .lit _), ρ, .refl _ _, by rw [ha]; simp only [Eff.vl, Option.map_some, AVq.sub], ?_⟩
  · obtain ⟨g, hg⟩ : ∃ g, rblk (ρ.v id) = some g := by
      cases hb' : rblk (ρ.v id) with
      | none => rw [hb'] at hb; simp at hb
      | some g => exact ⟨g, rfl⟩
    rw [hg] at hb
    simp only [Option.toList_some, List.mem_singleton] at hb
    exact mem_blks.2 ⟨_, List.mem_of_getElem? hres, by rw [hb]; exact hg⟩
  · show List.Perm _ (IRs.res ρ (rset id _ R))
    rw [hσ, hi2, res_set]
    exact .refl _

theorem set_perm {β : Type} {l : List β} {i : Nat} {a b : β} (h : l[i]? = some b) : List.Perm (l.set i a) (a :: l.eraseIdx i) := by
  have hi := (List.getElem?_eq_some_iff.1 h).1
  rw [List.eraseIdx_eq_take_drop_succ, List.set_eq_take_append_cons_drop, if_pos hi]
  exact List.perm_middle

/-- append's own law, whatever is added -/
theorem addD_ok {T T' : TypeId} {e by' : Nat} {zs : List Value} {K' : List (U.Dat e) → Option α} {rs : List Res} {ρ : Gh} {C : Cx} (hs : See ev rd nx E R) (ho : o.op = .call { callee := .builtin .append, args := #[x, y], argTypes := #[T, T'] }) (h : addD P rd e zs T' T (ev y) K' = some r)
    (hT : P.underlying T = some (.slice e)) (hb : (P.info? e).map (fun i => (i.size, i.bytes)) = some (U.sz e, by')) (hz : zerosOf P e = some zs) (hb4 : Nat.ble by' 4096 = true) (hzl : zs.length = U.sz e) :
    ∃ l2, K' l2 = some r ∧ ∀ (σ : List Res) (v : Value) (i : Nat) (l : List (U.Dat e)), (σ = IRs.res ρ R ∨ ∃ rr, σ = rr :: IRs.res ρ R) → (E.sub ρ).ev x = some (.lit v) → σ[i]? = some (.row v e l) → (l ++ l2).length ≤ 1073741824 →
      Yv P (E.sub ρ) σ o C (Option.toList (rblk v)) (fun a σ' => ∃ v', a = .lit v' ∧ σ' = σ.set i (.row v' e (l ++ l2))) := by
  unfold addD at h
  split at h
  · rename_i hTT
    have := beqT hTT
    subst this
    obtain ⟨l2, h1, h⟩ := Option.bind_eq_some_iff.1 h
    refine ⟨l2, h, fun σ v i l hσ hx hi hlen => ?_⟩
    have hsrc : Src σ (E.sub ρ) y e l2 := by
      rcases hσ with rfl | ⟨rr, rfl⟩
      · exact srcD_ok hs h1 ρ
      · exact Src.cons (P := P) (srcD_ok hs h1 ρ)
    exact .app i ho hx hi hsrc hT hb hz hzl hb4 (L.one e) hlen
  · split at h
    case h_2 => cases h
    rename_i kn m hT' hy
    split at h
    case h_2 => cases h
    rename_i hc
    simp only [Bool.and_eq_true] at hc
    obtain ⟨hc1, hc2⟩ := hc
    obtain ⟨d, hd, h⟩ := Option.bind_eq_some_iff.1 h
    split at h
    case isFalse => cases h
    rename_i hm
    refine ⟨_, h, fun σ v i l hσ hx hi hlen => ?_⟩
    have ey := hs.evs hy ρ
    rw [sub_lit] at ey
    exact .appz i d ho hx hi ey hT hT' hb hz hzl (by simpa [Nat.blt_eq] using hc1) hb4 (fun A w => L.parse_ok _ _ _ hd A w _ (RelL.lits _)) hc2 ⟨hm, hlen⟩

theorem appE_ok {T T' : TypeId} (hs : See ev rd nx E R) (ho : o.op = .call { callee := .builtin .append, args := #[x, y], argTypes := #[T, T'] }) (h : appE P rd nx T T' (ev x) (ev y) K = some r) : Stp P o E R nx K r := fun ρ C => by
  obtain ⟨e, zs, by', h, hT, hb, hz, hb4, hzl⟩ := appT_ok h
  split at h
  · rename_i hx
    obtain ⟨l2, h, hY⟩ := addD_ok (rs := []) (ρ := ρ) (C := C) hs ho h hT hb hz hb4 hzl
    split at h
    case isFalse => cases h
    rename_i hlen
    have ex := hs.evs hx ρ
    rw [sub_lit] at ex
    intro w ϱ hg hρ
    have ht : Tr C [] (IRs.res ρ R) w (.row (.slice none 0 0) e [] :: IRs.res ρ R) w := tr_own none e hg
    have hal : ∀ b, al C (IRs.res ρ R) b → al C (.row (.slice none 0 0) e [] :: IRs.res ρ R) b := fun b hA => ⟨hA.1, fun hx => hA.2 (by
      rw [blks_cons] at hx
      simpa [Res.blk, rblk] using hx)⟩
    obtain ⟨v, w', av, σ', ⟨v', ha, hσ⟩, h2, h3, h4⟩ := hY _ (.slice none 0 0) 0 [] (.inr ⟨_, rfl⟩) ex rfl (by simpa using hlen) w ϱ ht.good (fun u d hu => (hρ u d hu).mono fun b _ hA => ⟨hal b hA, rfl⟩)
    refine .inl ⟨v, w', av, σ', nxRow hs h ⟨v', ha, by rw [hσ]; rfl⟩, ⟨h2.good, ⟨h2.kp.os, h2.kp.tape, h2.kp.output, h2.kp.size, fun k hk _ => h2.kp.block k hk (by simp [rblk])⟩, fun b hb hA => ⟨(h2.al b hb (hal b hA)).1, hA.2⟩⟩, h3, h4⟩
  · rename_i id hx
    split at h
    case h_2 => cases h
    rename_i t l0 hr
    obtain ⟨l, hl, h⟩ := Option.bind_eq_some_iff.1 h
    obtain ⟨rfl, rfl⟩ := castL_ok hl
    obtain ⟨l2, h, hY⟩ := addD_ok (rs := []) (ρ := ρ) (C := C) hs ho h hT hb hz hb4 hzl
    split at h
    case isFalse => cases h
    rename_i hlen
    have ex := hs.evs hx ρ
    rw [sub_own] at ex
    obtain ⟨i, hi1, _, hi3⟩ := rget_idx (hs.r _ _ hr)
    have hres := res_get (ρ := ρ) hi1
    refine .ofV (hY _ _ i _ (.inl rfl) ex hres hlen) (fun b hb => ?_) fun a σ' ⟨v', ha, hσ⟩ => ?_
    · obtain ⟨g, hg⟩ : ∃ g, rblk (ρ.v id) = some g := by
        cases hb' : rblk (ρ.v id) with
        | none => rw [hb'] at hb; simp at hb
        | some g => exact ⟨g, rfl⟩
      rw [hg] at hb
      simp only [Option.toList_some, List.mem_singleton] at hb
      exact mem_blks.2 ⟨_, List.mem_of_getElem? hres, by rw [hb]; exact hg⟩
    · have hdl := rdel_ltd (id := id) hs.lr
      refine ⟨_, h, Nat.le_succ nx, fun p hp => ?_, fun d' hd => by cases hd; exact .own _ (Nat.lt_succ_self _), ρ.putV nx v', .putV ρ nx v', ?_, ?_⟩
      · rcases List.mem_cons.1 hp with rfl | hp
        · exact ⟨Nat.lt_succ_self _, trivial⟩
        · exact (hdl.mono (Nat.le_succ nx)) p hp
      · rw [ha]; simp [Eff.vl, sub_own, Gh.putV]
      · rw [hσ]
        show List.Perm _ (IRs.res _ ((nx, _) :: rdel id R))
        have e1 : IRs.res (ρ.putV nx v') ((nx, IR.row t (l0 ++ l2)) :: rdel id R) = Res.row v' t (l0 ++ l2) :: (IRs.res ρ R).eraseIdx i := by
          show _ :: IRs.res _ (rdel id R) = _
          rw [← hdl.res (.putV ρ nx v'), hi3, res_erase]
          simp [IR.res, Gh.putV]
        rw [e1]
        exact set_perm hres
  · cases h

def mnV (mx : Bool) (xs : List (Option AV)) (K : AV → Option α) : Option α := match xs with
  | [some (.lit (.int k m)), some (.lit (.int k' n))] => if k = k' then (match mx with
    | true => K (.n k (if m < n then n else m))
    | false => K (.n k (if n < m then n else m))) else none
  | _ => none

/-! ### calls -/

abbrev Orc := (α : Type) → FuncId → List AV → IRs → Nat → (AV → IRs → Nat → Option α) → Option α
/-- What oracle F says of calls is so. -/
def OrcOk (P : Program) (F : Orc) : Prop := ∀ (α : Type) f args R nx (k : AV → IRs → Nat → Option α) r, F α f args R nx k = some r → (∀ d ∈ args, Ltd nx d) → IRs.Ltd nx R → fnOk P f ∧
  ∀ ρ, Fn P f (args.map (AVq.sub ρ)) (IRs.res ρ R) fun a s => ∃ d R' nx', k d R' nx' = some r ∧ nx ≤ nx' ∧ Ltd nx' d ∧ IRs.Ltd nx' R' ∧ ∃ ρ', Agr nx ρ ρ' ∧ a = d.sub ρ' ∧ List.Perm s (IRs.res ρ' R')

def calE (F : Orc) (ev : Operand → Option AV) (R : IRs) (nx : Nat) (x : Option AV) (xs : List Operand) (K : Eff → Option α) : Option α := match x with
  | some (.fn (.func f) caps) => (evl ev xs).bind fun as0 => F α f (as0 ++ caps) R nx fun d R' nx' => K (.all d R' nx')
  | _ => none
theorem calE_ok {F : Orc} {xs : Array Operand} {ts : Array TypeId} (hF : OrcOk P F) (hs : See ev rd nx E R) (ho : o.op = .call { callee := .value x, args := xs, argTypes := ts }) (h : calE F ev R nx (ev x) xs.toList K = some r) : Stp P o E R nx K r := fun ρ C => by
  unfold calE at h
  split at h
  case h_2 => cases h
  rename_i f caps hx
  obtain ⟨as0, ha, h⟩ := Option.bind_eq_some_iff.1 h
  have ex := hs.evs hx ρ
  rw [sub_fn] at ex
  obtain ⟨hf, hfn⟩ := hF _ _ _ _ _ _ _ h (ltd_app (evl_ltd hs ha) (hs.ltd hx).fnL) hs.lr
  refine .ofC (.fn (σr := []) ho ex hf (evl_sub hs ρ ha) (by rw [List.map_append]) (List.append_nil _).symm (hfn ρ)) (fun b hb => hb) fun a σ' ⟨σo, hN, hσ⟩ => ?_
  obtain ⟨d, R', nx', h1, h2, h3, h4, ρ', h5, h6, h7⟩ := hN
  rw [List.append_nil] at hσ
  exact ⟨.all d R' nx', h1, h2, h4, fun d' hd => by cases hd; exact h3, ρ', h5, by rw [h6]; rfl, by rw [hσ]; exact h7⟩
end
end Go.Iv
end
section
set_option linter.unusedSectionVars false
set_option linter.unusedVariables false
set_option linter.unusedSimpArgs false
namespace Go.Iv
variable [U : Uni] [L : UniL]
open Go Go.RowKit

/-! ### one operation -/

def pureK {α : Type} (K : Eff → Option α) (d : AV) : Option α := K (.val d)

noncomputable def stepOp {α : Type} (P : Program) (F : Orc) (ev : Operand → Option AV) (rd : Nat → Option IR) (R : IRs) (nx : Nat) (o : Op) (K : Eff → Option α) : Option α := match o with
  | .move x => (ev x).bind (pureK K)
  | .assign x => (ev x).bind (pureK K)
  | .pick c a b => match ev c with
    | some (.lit (.bool true)) => (ev a).bind (pureK K)
    | some (.lit (.bool false)) => (ev b).bind (pureK K)
    | _ => none
  | .binOp b T x y _ => binV P rd b T (ev x) (ev y) (pureK K)
  | .unOp b _ x => unV b (ev x) (pureK K)
  | .convert T T' x => cnvV P rd T T' (ev x) (pureK K)
  | .nilCheck x => nilV (ev x) (pureK K)
  | .fieldAddr T x i => fldV P T i (ev x) (pureK K)
  | .indexAddr T x y => idxV P rd T (ev x) (ev y) (pureK K)
  | .index T x y => ixaV P T (ev x) (ev y) (pureK K)
  | .load T x => ldV P rd T (ev x) (pureK K)
  | .store T x y => stoE P rd T (ev x) (ev y) K
  | .makeFunc f fs cs => mkfV ev f fs.toList cs.toList (pureK K)
  | .extract x i => extV i (ev x) (pureK K)
  | .build T ps => bldV P ev rd T ps.toList (pureK K)
  | .buildSlice T n ps => litE P ev rd nx T n ps.toList K
  | .makeSlice T x y => mkE P nx T (ev x) (ev y) K
  | .alloc T => aloE P nx T K
  | .box T x => boxE rd nx T (ev x) K
  | .slice T x lo hi mx => match mx with
    | none => cutV P T (ev x) (lo.map ev) (hi.map ev) (pureK K)
    | some (.const (.int _ 0)) => match lo, hi with
      | none, some (.const (.int _ 0)) => emE P nx T (ev x) K
      | _, _ => none
    | _ => none
  | .call { callee := .builtin .len, args := as0, argTypes := ts } => match as0.toList, ts.toList with
    | [x], [T] => lenV P rd T (ev x) (pureK K)
    | _, _ => none
  | .call { callee := .builtin .max, args := as0, argTypes := ts } => match as0.toList, ts.toList with
    | [x, y], [_, _] => mnV true [ev x, ev y] (pureK K)
    | _, _ => none
  | .call { callee := .builtin .min, args := as0, argTypes := ts } => match as0.toList, ts.toList with
    | [x, y], [_, _] => mnV false [ev x, ev y] (pureK K)
    | _, _ => none
  | .call { callee := .builtin .append, args := as0, argTypes := ts } => match as0.toList, ts.toList with
    | [x, y], [T, T'] => appE P rd nx T T' (ev x) (ev y) K
    | _, _ => none
  | .call { callee := .builtin .copy, args := as0, argTypes := ts } => match as0.toList, ts.toList with
    | [x, y], [T, _] => cpyE P rd R nx T (ev x) (ev y) K
    | _, _ => none
  | .call { callee := .value x, args := as0, argTypes := _ } => calE F ev R nx (ev x) as0.toList K
  | _ => none

/-! ### the same, quickly: each operation's own term is small -/

section
variable {α : Type}
def stMov (x : Operand) (_ : Program) (_ : Orc) (ev : Operand → Option AV) (_ : Nat → Option IR) (_ : IRs) (_ : Nat) (K : Eff → Option α) : Option α := (ev x).bind (pureK K)
def stPic (c a b : Operand) (_ : Program) (_ : Orc) (ev : Operand → Option AV) (_ : Nat → Option IR) (_ : IRs) (_ : Nat) (K : Eff → Option α) : Option α := match ev c with
  | some (.lit (.bool true)) => (ev a).bind (pureK K)
  | some (.lit (.bool false)) => (ev b).bind (pureK K)
  | _ => none
def stBin (b : BinOp) (T : TypeId) (x y : Operand) (P : Program) (_ : Orc) (ev : Operand → Option AV) (rd : Nat → Option IR) (_ : IRs) (_ : Nat) (K : Eff → Option α) : Option α := binV P rd b T (ev x) (ev y) (pureK K)
def stUn (b : UnOp) (x : Operand) (_ : Program) (_ : Orc) (ev : Operand → Option AV) (_ : Nat → Option IR) (_ : IRs) (_ : Nat) (K : Eff → Option α) : Option α := unV b (ev x) (pureK K)
def stCnv (T T' : TypeId) (x : Operand) (P : Program) (_ : Orc) (ev : Operand → Option AV) (rd : Nat → Option IR) (_ : IRs) (_ : Nat) (K : Eff → Option α) : Option α := cnvV P rd T T' (ev x) (pureK K)
def stNil (x : Operand) (_ : Program) (_ : Orc) (ev : Operand → Option AV) (_ : Nat → Option IR) (_ : IRs) (_ : Nat) (K : Eff → Option α) : Option α := nilV (ev x) (pureK K)
def stFld (T : TypeId) (x : Operand) (i : Nat) (P : Program) (_ : Orc) (ev : Operand → Option AV) (_ : Nat → Option IR) (_ : IRs) (_ : Nat) (K : Eff → Option α) : Option α := fldV P T i (ev x) (pureK K)
def stIdx (T : TypeId) (x y : Operand) (P : Program) (_ : Orc) (ev : Operand → Option AV) (rd : Nat → Option IR) (_ : IRs) (_ : Nat) (K : Eff → Option α) : Option α := idxV P rd T (ev x) (ev y) (pureK K)
def stIxa (T : TypeId) (x y : Operand) (P : Program) (_ : Orc) (ev : Operand → Option AV) (_ : Nat → Option IR) (_ : IRs) (_ : Nat) (K : Eff → Option α) : Option α := ixaV P T (ev x) (ev y) (pureK K)
def stLd (T : TypeId) (x : Operand) (P : Program) (_ : Orc) (ev : Operand → Option AV) (rd : Nat → Option IR) (_ : IRs) (_ : Nat) (K : Eff → Option α) : Option α := ldV P rd T (ev x) (pureK K)
def stSto (T : TypeId) (x y : Operand) (P : Program) (_ : Orc) (ev : Operand → Option AV) (rd : Nat → Option IR) (_ : IRs) (_ : Nat) (K : Eff → Option α) : Option α := stoE P rd T (ev x) (ev y) K
def stMkf (f : Go.Fn) (fs cs : Array Operand) (_ : Program) (_ : Orc) (ev : Operand → Option AV) (_ : Nat → Option IR) (_ : IRs) (_ : Nat) (K : Eff → Option α) : Option α := mkfV ev f fs.toList cs.toList (pureK K)
def stExt (x : Operand) (i : Nat) (_ : Program) (_ : Orc) (ev : Operand → Option AV) (_ : Nat → Option IR) (_ : IRs) (_ : Nat) (K : Eff → Option α) : Option α := extV i (ev x) (pureK K)
def stBld (T : TypeId) (ps : Array (Nat × Operand)) (P : Program) (_ : Orc) (ev : Operand → Option AV) (rd : Nat → Option IR) (_ : IRs) (_ : Nat) (K : Eff → Option α) : Option α := bldV P ev rd T ps.toList (pureK K)
def stLit (T : TypeId) (n : Nat) (ps : Array (Nat × Operand)) (P : Program) (_ : Orc) (ev : Operand → Option AV) (rd : Nat → Option IR) (_ : IRs) (nx : Nat) (K : Eff → Option α) : Option α := litE P ev rd nx T n ps.toList K
def stMk (T : TypeId) (x y : Operand) (P : Program) (_ : Orc) (ev : Operand → Option AV) (_ : Nat → Option IR) (_ : IRs) (nx : Nat) (K : Eff → Option α) : Option α := mkE P nx T (ev x) (ev y) K
def stAlo (T : TypeId) (P : Program) (_ : Orc) (_ : Operand → Option AV) (_ : Nat → Option IR) (_ : IRs) (nx : Nat) (K : Eff → Option α) : Option α := aloE P nx T K
def stBox (T : TypeId) (x : Operand) (_ : Program) (_ : Orc) (ev : Operand → Option AV) (rd : Nat → Option IR) (_ : IRs) (nx : Nat) (K : Eff → Option α) : Option α := boxE rd nx T (ev x) K
def stSli (T : TypeId) (x : Operand) (lo hi mx : Option Operand) (P : Program) (_ : Orc) (ev : Operand → Option AV) (_ : Nat → Option IR) (_ : IRs) (nx : Nat) (K : Eff → Option α) : Option α := match mx with
  | none => cutV P T (ev x) (lo.map ev) (hi.map ev) (pureK K)
  | some (.const (.int _ 0)) => match lo, hi with
    | none, some (.const (.int _ 0)) => emE P nx T (ev x) K
    | _, _ => none
  | _ => none
noncomputable def stBui (b : Builtin) (as0 : Array Operand) (ts : Array TypeId) (P : Program) (ev : Operand → Option AV) (rd : Nat → Option IR) (R : IRs) (nx : Nat) (K : Eff → Option α) : Option α := match b with
  | .len => match as0.toList, ts.toList with
    | [x], [T] => lenV P rd T (ev x) (pureK K)
    | _, _ => none
  | .max => match as0.toList, ts.toList with
    | [x, y], [_, _] => mnV true [ev x, ev y] (pureK K)
    | _, _ => none
  | .min => match as0.toList, ts.toList with
    | [x, y], [_, _] => mnV false [ev x, ev y] (pureK K)
    | _, _ => none
  | .append => match as0.toList, ts.toList with
    | [x, y], [T, T'] => appE P rd nx T T' (ev x) (ev y) K
    | _, _ => none
  | .copy => match as0.toList, ts.toList with
    | [x, y], [T, _] => cpyE P rd R nx T (ev x) (ev y) K
    | _, _ => none
  | _ => none
noncomputable def stCal (c : Call) (P : Program) (F : Orc) (ev : Operand → Option AV) (rd : Nat → Option IR) (R : IRs) (nx : Nat) (K : Eff → Option α) : Option α := match c.callee with
  | .value x => calE F ev R nx (ev x) c.args.toList K
  | .builtin b => stBui b c.args c.argTypes P ev rd R nx K
  | _ => none
def stNo (_ : Program) (_ : Orc) (_ : Operand → Option AV) (_ : Nat → Option IR) (_ : IRs) (_ : Nat) (_ : Eff → Option α) : Option α := none

noncomputable def stepF (o : Op) : Program → Orc → (Operand → Option AV) → (Nat → Option IR) → IRs → Nat → (Eff → Option α) → Option α := match o with
  | .move x => stMov x
  | .assign x => stMov x
  | .pick c a b => stPic c a b
  | .binOp b T x y _ => stBin b T x y
  | .unOp b _ x => stUn b x
  | .convert T T' x => stCnv T T' x
  | .nilCheck x => stNil x
  | .fieldAddr T x i => stFld T x i
  | .indexAddr T x y => stIdx T x y
  | .index T x y => stIxa T x y
  | .load T x => stLd T x
  | .store T x y => stSto T x y
  | .makeFunc f fs cs => stMkf f fs cs
  | .extract x i => stExt x i
  | .build T ps => stBld T ps
  | .buildSlice T n ps => stLit T n ps
  | .makeSlice T x y => stMk T x y
  | .alloc T => stAlo T
  | .box T x => stBox T x
  | .slice T x lo hi mx => stSli T x lo hi mx
  | .call c => stCal c
  | _ => stNo

theorem stepF_eq (P : Program) (F : Orc) (ev : Operand → Option AV) (rd : Nat → Option IR) (R : IRs) (nx : Nat) (o : Op) (K : Eff → Option α) : stepF o P F ev rd R nx K = stepOp P F ev rd R nx o K := by
  cases o <;> first | rfl | skip
  case call c =>
    obtain ⟨cal, as0, ts⟩ := c
    cases cal with
    | builtin b => cases b <;> rfl
    | _ => rfl
end

section
variable {α : Type} {r : α} {P : Program} {F : Orc} {o : Oper} {E : Env} {R : IRs} {nx : Nat} {ev : Operand → Option AV} {rd : Nat → Option IR} {K : Eff → Option α} {C : Cx} {n : Nat}

theorem arr1 {β : Type} {a : Array β} {x : β} (h : a.toList = [x]) : a = #[x] := by rw [← Array.toArray_toList (xs := a), h]
theorem arr2 {β : Type} {a : Array β} {x y : β} (h : a.toList = [x, y]) : a = #[x, y] := by rw [← Array.toArray_toList (xs := a), h]

theorem stepOp_ok (hF : OrcOk P F) (hs : See ev rd nx E R) {op : Op} (ho : o.op = op) (h : stepOp P F ev rd R nx op K = some r) : Stp P o E R nx K r := by
  unfold stepOp at h
  split at h
  · obtain ⟨d, hd, h⟩ := Option.bind_eq_some_iff.1 h
    exact .pu hs ⟨d, h, hs.ltd hd, fun ρ => .move ho (hs.evs hd ρ)⟩
  · obtain ⟨d, hd, h⟩ := Option.bind_eq_some_iff.1 h
    exact .pu hs ⟨d, h, hs.ltd hd, fun ρ => .assign ho (hs.evs hd ρ)⟩
  · split at h
    · rename_i hc
      obtain ⟨d, hd, h⟩ := Option.bind_eq_some_iff.1 h
      exact .pu hs ⟨d, h, hs.ltd hd, fun ρ => .pickT ho (by have := hs.evs hc ρ; rw [sub_lit] at this; exact this) (hs.evs hd ρ)⟩
    · rename_i hc
      obtain ⟨d, hd, h⟩ := Option.bind_eq_some_iff.1 h
      exact .pu hs ⟨d, h, hs.ltd hd, fun ρ => .pickF ho (by have := hs.evs hc ρ; rw [sub_lit] at this; exact this) (hs.evs hd ρ)⟩
    · cases h
  · exact .pu hs (binV_ok hs ho h)
  · exact .pu hs (unV_ok hs ho h)
  · exact .pu hs (cnvV_ok hs ho h)
  · exact .pu hs (nilV_ok hs ho h)
  · exact .pu hs (fldV_ok hs ho h)
  · exact .pu hs (idxV_ok hs ho h)
  · exact .pu hs (ixaV_ok hs ho h)
  · exact .pu hs (ldV_ok hs ho h)
  · exact stoE_ok hs ho h
  · exact .pu hs (mkfV_ok hs ho h)
  · exact .pu hs (extV_ok hs ho h)
  · exact .pu hs (bldV_ok hs ho h)
  · exact litE_ok hs ho h
  · exact mkE_ok hs ho h
  · exact aloE_ok hs ho h
  · exact boxE_ok hs ho h
  · split at h
    · exact .pu hs (cutV_ok hs ho h)
    · split at h
      · exact emE_ok hs ho h
      · cases h
    · cases h
  · split at h
    · rename_i h1 h2
      rw [arr1 h1, arr1 h2] at ho
      exact .pu hs (lenV_ok hs ho h)
    · cases h
  · split at h
    · rename_i h1 h2
      rw [arr2 h1, arr2 h2] at ho
      unfold mnV at h
      split at h
      · rename_i q1
        split at h
        · rename_i hk
          subst hk
          simp only [List.cons.injEq, and_true] at q1
          obtain ⟨q1, q2⟩ := q1
          exact .pu hs ⟨_, h, .lit fun ρ => .max ho (by have := hs.evs q1 ρ; rw [sub_lit] at this; exact this) (by have := hs.evs q2 ρ; rw [sub_lit] at this; exact this)⟩
        · cases h
      · cases h
    · cases h
  · split at h
    · rename_i h1 h2
      rw [arr2 h1, arr2 h2] at ho
      unfold mnV at h
      split at h
      · rename_i q1
        split at h
        · rename_i hk
          subst hk
          simp only [List.cons.injEq, and_true] at q1
          obtain ⟨q1, q2⟩ := q1
          exact .pu hs ⟨_, h, .lit fun ρ => .min ho (by have := hs.evs q1 ρ; rw [sub_lit] at this; exact this) (by have := hs.evs q2 ρ; rw [sub_lit] at this; exact this)⟩
        · cases h
      · cases h
    · cases h
  · split at h
    · rename_i h1 h2
      rw [arr2 h1, arr2 h2] at ho
      exact appE_ok hs ho h
    · cases h
  · split at h
    · rename_i h1 h2
      rw [arr2 h1, arr2 h2] at ho
      exact cpyE_ok hs ho h
    · cases h
  · exact calE_ok hF hs ho h
  · cases h

/-! ### what a state becomes -/

noncomputable def St.app (s : St) (dst : Option Nat) (e : Eff) : St :=
  { E := match dst with
      | none => s.E
      | some t => match e.vl s.nx with
        | some d => eput t d s.E
        | none => eput t (.lit undef) s.E
    R := e.R s.R s.nx
    nx := e.nx s.nx }

def dstOk (n : Nat) : Option Nat → Bool
  | none => true
  | some t => Nat.blt t n

theorem See.of {s : St} (hh : Hold s.E E) (hE : E.Ltd s.nx) (hR : IRs.Ltd s.nx s.R) : See (evF s.E) (rget s.R) s.nx E s.R := ⟨fun x d h => hh.ev x d h, fun _ _ h => h, hE, hR⟩

/-- An operation is carried out. -/
theorem stp_wp {C : Cg} {s : St} {a : Act} {w : World} {Q : Exit → Act → World → Prop} (hm : Mt C n s a w) (hd : dstOk n o.dst = true) (h : ∀ E, See (evF s.E) (rget s.R) s.nx E s.R → Stp P o E s.R s.nx K r) {K' : Act → World → Prop}
    (hK : ∀ a' w' e, a'.defers = a.defers → K e = some r → s.nx ≤ e.nx s.nx → Mt C n (s.app o.dst e) a' w' → K' a' w') : o.wp P a w K' Q := by
  obtain ⟨E, hh, hE, hR, ρ, hag, hsim⟩ := hm
  have h := h E (See.of hh hE hR)
  unfold Oper.wp
  have fin : ∀ (e : Eff) (ρ' : Gh) (σ' : List Res) (w' : World) (v : Value), s.nx ≤ e.nx s.nx → IRs.Ltd (e.nx s.nx) (e.R s.R s.nx) → (∀ d, e.vl s.nx = some d → Ltd (e.nx s.nx) d) → Agr s.nx ρ ρ' → List.Perm σ' (IRs.res ρ' (e.R s.R s.nx)) →
      Tr C.C (blks (IRs.res ρ s.R)) (IRs.res ρ s.R) w σ' w' → (∀ d, e.vl s.nx = some d → Rel (al C.C σ') w' (d.sub ρ') v) → (e.vl s.nx = none → v = undef) → Mt C n (s.app o.dst e) (a.put o.dst v) w' := fun e ρ' σ' w' v h1 h2 h3 h4 h5 h6 h7 h8 => by
    have hs1 := (hsim.tr h6).perm h5
    rw [hE.sub h4] at hs1
    have hE' : E.Ltd (e.nx s.nx) := hE.mono h1
    have hag' : Agr C.n C.ρ ρ' ∧ C.n ≤ e.nx s.nx := ⟨hag.1.trans h4 hag.2, Nat.le_trans hag.2 h1⟩
    have hput : ∀ (t : Nat) (d : AV), o.dst = some t → Ltd (e.nx s.nx) d → Rel (al C.C (IRs.res ρ' (e.R s.R s.nx))) w' (d.sub ρ') v → Mt C n { E := eput t d s.E, R := e.R s.R s.nx, nx := e.nx s.nx } (a.put (some t) v) w' := fun t d ht hd' hr =>
      ⟨(t, d) :: E, hh.put t d, Env.cons_ltd hE' hd', h2, ρ', hag', hs1.put (by rw [ht] at hd; exact hd) hr⟩
    have hsub : ∀ d, e.vl s.nx = some d → Rel (al C.C (IRs.res ρ' (e.R s.R s.nx))) w' (d.sub ρ') v := fun d hd' => (h7 d hd').mono fun b _ hA => ⟨al_perm h5 b hA, rfl⟩
    unfold St.app
    cases hdst : o.dst with
    | none => exact ⟨E, hh, hE', h2, ρ', hag', hs1⟩
    | some t =>
      cases hv : e.vl s.nx with
      | some d => exact hput t d hdst (h3 d hv) (hsub d hv)
      | none =>
        refine hput t (.lit undef) hdst (.lit _) ?_
        rw [h8 hv, sub_lit]
        exact .lit _
  rcases h ρ C.C w a.eval hsim.good hsim.slots.ops with ⟨v, w', av, σ', ⟨e, q1, q2, q3, q4, ρ', q5, q6, q7⟩, h2, h3, h4⟩ | ⟨w', σ', ⟨e, q1, q2, q3, q4, ρ', q5, q6, q7⟩, h2, h3⟩ | ⟨f, args, h1, h2⟩
  · rw [h3]
    refine hK _ _ e (by cases o.dst <;> rfl) q1 q2 (fin e ρ' σ' w' v q2 q3 q4 q5 q7 h2 (fun d hd' => ?_) (fun hn => ?_))
    · rw [hd', Option.map_some, Option.some.injEq] at q6; rw [← q6]; exact h4
    · rw [hn] at q6; cases q6
  · rw [h3]
    refine hK _ _ e (by cases o.dst <;> rfl) q1 q2 (fin e ρ' σ' w' undef q2 q3 q4 q5 q7 h2 (fun d hd' => ?_) (fun hn => rfl))
    rw [hd'] at q6; cases q6
  · rw [h1]
    refine Calls.mono h2 fun ee w' ⟨v, av, σ', q0, ⟨e, q1, q2, q3, q4, ρ', q5, q6, q7⟩, h2, h4⟩ => ?_
    subst q0
    refine hK _ _ e (by cases o.dst <;> rfl) q1 q2 (fin e ρ' σ' w' v q2 q3 q4 q5 q7 h2 (fun d hd' => ?_) (fun hn => ?_))
    · rw [hd', Option.map_some, Option.some.injEq] at q6; rw [← q6]; exact h4
    · rw [hn] at q6; cases q6
end

/-! ### what was owned becomes data -/

def frz1 (id t : Nat) (l : List (U.Dat t)) : AV → AV
  | .own i => match Nat.beq i id with
    | true => .sl t l
    | false => .own i
  | d => d
def frzN (id t : Nat) (l : List (U.Dat t)) : Nat → AV → AV
  | 0, d => d
  | n + 1, .agg cs => .agg (cs.map (frzN id t l n))
  | n + 1, .tup cs => .tup (cs.map (frzN id t l n))
  | n + 1, .fn f cs => .fn f (cs.map (frzN id t l n))
  | _ + 1, d => frz1 id t l d
def frzR (id t : Nat) (l : List (U.Dat t)) : IR → IR
  | .box T cs => .box T (cs.map (frzN id t l 3))
  | r => r
noncomputable def St.frz (s : St) (id : Nat) : St := match rget s.R id with
  | some (.row t l) => { E := emap (frzN id t l 3) s.E, R := (rdel id s.R).map fun p => (p.1, frzR id t l p.2), nx := s.nx }
  | _ => s

theorem frz1_rel {A : Nat → Prop} {w : World} {id t : Nat} {l : List (U.Dat t)} {ρ : Gh} (hd : Hd A [.row (ρ.v id) t l] w) {d : AV} {v : Value} (h : Rel A w (d.sub ρ) v) : Rel (fun b => A b ∨ b ∈ blks [.row (ρ.v id) t l]) w ((frz1 id t l d).sub ρ) v := by
  unfold frz1
  split
  · rename_i i
    split
    · rename_i hi
      have := beqT hi
      subst this
      rw [sub_own] at h
      rw [sub_sl]
      exact Vw.row 0 rfl A w v hd h
    · exact h.mono fun b _ hA => ⟨.inl hA, rfl⟩
  · exact h.mono fun b _ hA => ⟨.inl hA, rfl⟩
theorem frzN_rel {A : Nat → Prop} {w : World} {id t : Nat} {l : List (U.Dat t)} {ρ : Gh} (hd : Hd A [.row (ρ.v id) t l] w) : ∀ (n : Nat) {d : AV} {v : Value}, Rel A w (d.sub ρ) v → Rel (fun b => A b ∨ b ∈ blks [.row (ρ.v id) t l]) w ((frzN id t l n d).sub ρ) v
  | 0, d, v, h => h.mono fun b _ hA => ⟨.inl hA, rfl⟩
  | n + 1, d, v, h => by
    have hL : ∀ {cs : List AV} {us : List Value}, RelL A w (cs.map (AVq.sub ρ)) us → RelL (fun b => A b ∨ b ∈ blks [.row (ρ.v id) t l]) w ((cs.map (frzN id t l n)).map (AVq.sub ρ)) us := fun {cs us} h => by
      refine ⟨by simpa using h.1, fun j a v h1 h2 => ?_⟩
      rw [List.map_map, List.getElem?_map] at h1
      obtain ⟨c, hc, rfl⟩ := Option.map_eq_some_iff.1 h1
      exact frzN_rel hd n (h.2 j _ v (by rw [List.getElem?_map, hc]; rfl) h2)
    unfold frzN
    split
    · rename_i h0; cases h0
    · rename_i cs h0
      cases h0
      rw [sub_agg] at h ⊢
      obtain ⟨us, rfl, h2⟩ := h.aggInv
      exact Rel.aggL (hL h2)
    · rename_i cs h0
      cases h0
      rw [sub_tup] at h ⊢
      obtain ⟨us, rfl, h2⟩ := h.tupInv
      exact Rel.tupL (hL h2)
    · rename_i f cs h0
      cases h0
      rw [sub_fn] at h ⊢
      obtain ⟨us, rfl, h2⟩ := h.fnInv
      exact .fn f _ us (hL h2).1 (hL h2).2
    · rename_i h0 _ _ _
      exact frz1_rel hd h
end Go.Iv
end
section
set_option linter.unusedSectionVars false
set_option linter.unusedVariables false
set_option linter.unusedSimpArgs false
namespace Go.Iv
variable [U : Uni] [L : UniL]
open Go Go.RowKit

section
variable {α β : Type} (D : α → Option β)
theorem binI_nat {b : BinOp} {k : IntKind} {m n : Int} {K : AV → Option α} : (binI b k m n K).bind D = binI b k m n (fun d => (K d).bind D) := by
  unfold binI
  cases b <;> first | rfl | (dsimp only; split <;> rfl)
theorem eqS_nat {P : Program} {b : BinOp} {T : TypeId} {cs ds : List AV} {K : AV → Option α} : (eqS P b T cs ds K).bind D = eqS P b T cs ds (fun d => (K d).bind D) := by
  unfold eqS
  split
  · split
    · cases b <;> first | rfl | exact Option.bind_assoc ..
    · rfl
  · rfl
theorem binV_nat {P : Program} {rd : Nat → Option IR} {b : BinOp} {T : TypeId} {x y : Option AV} {K : AV → Option α} : (binV P rd b T x y K).bind D = binV P rd b T x y (fun d => (K d).bind D) := by
  unfold binV
  repeat' split
  all_goals first | rfl | exact binI_nat D | exact eqS_nat D | simp_all
theorem unV_nat {b : UnOp} {x : Option AV} {K : AV → Option α} : (unV b x K).bind D = unV b x (fun d => (K d).bind D) := by
  unfold unV
  repeat' split
  all_goals first | rfl | simp_all
theorem nilV_nat {x : Option AV} {K : AV → Option α} : (nilV x K).bind D = nilV x (fun d => (K d).bind D) := by
  unfold nilV
  repeat' split
  all_goals first | rfl | simp_all
theorem fldV_nat {P : Program} {T : TypeId} {i : Nat} {x : Option AV} {K : AV → Option α} : (fldV P T i x K).bind D = fldV P T i x (fun d => (K d).bind D) := by
  unfold fldV
  repeat' split
  all_goals first | rfl | simp_all
theorem idxV_nat {P : Program} {rd : Nat → Option IR} {T : TypeId} {x y : Option AV} {K : AV → Option α} : (idxV P rd T x y K).bind D = idxV P rd T x y (fun d => (K d).bind D) := by
  unfold idxV
  repeat' split
  all_goals first | rfl | simp_all
theorem ldV_nat {P : Program} {rd : Nat → Option IR} {T : TypeId} {x : Option AV} {K : AV → Option α} : (ldV P rd T x K).bind D = ldV P rd T x (fun d => (K d).bind D) := by
  unfold ldV
  repeat' split
  all_goals first | rfl | exact Option.bind_assoc .. | simp_all
theorem bldV_nat {P : Program} {ev : Operand → Option AV} {rd : Nat → Option IR} {T : TypeId} {ps : List (Nat × Operand)} {K : AV → Option α} : (bldV P ev rd T ps K).bind D = bldV P ev rd T ps (fun d => (K d).bind D) := by
  unfold bldV
  repeat' split
  all_goals first | rfl | exact Option.bind_assoc .. | simp_all
theorem cnvV_nat {P : Program} {rd : Nat → Option IR} {T T' : TypeId} {x : Option AV} {K : AV → Option α} : (cnvV P rd T T' x K).bind D = cnvV P rd T T' x (fun d => (K d).bind D) := by
  unfold cnvV
  repeat' split
  all_goals first | rfl | exact Option.bind_assoc .. | simp_all
theorem extV_nat {i : Nat} {x : Option AV} {K : AV → Option α} : (extV i x K).bind D = extV i x (fun d => (K d).bind D) := by
  unfold extV
  repeat' split
  all_goals first | rfl | exact Option.bind_assoc .. | simp_all
theorem mkfV_nat {ev : Operand → Option AV} {f : Go.Fn} {fs cs : List Operand} {K : AV → Option α} : (mkfV ev f fs cs K).bind D = mkfV ev f fs cs (fun d => (K d).bind D) := by
  unfold mkfV
  repeat' split
  all_goals first | rfl | exact Option.bind_assoc .. | simp_all
theorem ixaV_nat {P : Program} {T : TypeId} {x y : Option AV} {K : AV → Option α} : (ixaV P T x y K).bind D = ixaV P T x y (fun d => (K d).bind D) := by
  unfold ixaV
  repeat' split
  all_goals first | rfl | exact Option.bind_assoc .. | simp_all
theorem cutV_nat {P : Program} {T : TypeId} {x : Option AV} {lo hi : Option (Option AV)} {K : AV → Option α} : (cutV P T x lo hi K).bind D = cutV P T x lo hi (fun d => (K d).bind D) := by
  unfold cutV
  repeat' split
  all_goals first | rfl | exact Option.bind_assoc .. | simp_all
theorem lenV_nat {P : Program} {rd : Nat → Option IR} {T : TypeId} {x : Option AV} {K : AV → Option α} : (lenV P rd T x K).bind D = lenV P rd T x (fun d => (K d).bind D) := by
  unfold lenV
  repeat' split
  all_goals first | rfl | exact Option.bind_assoc .. | simp_all
theorem aloE_nat {P : Program} {nx : Nat} {T : TypeId} {K : Eff → Option α} : (aloE P nx T K).bind D = aloE P nx T (fun d => (K d).bind D) := by
  unfold aloE
  exact Option.bind_assoc ..
theorem boxE_nat {rd : Nat → Option IR} {nx : Nat} {T : TypeId} {x : Option AV} {K : Eff → Option α} : (boxE rd nx T x K).bind D = boxE rd nx T x (fun d => (K d).bind D) := by
  unfold boxE
  repeat' split
  all_goals first | rfl | exact Option.bind_assoc .. | simp_all
theorem stoE_nat {P : Program} {rd : Nat → Option IR} {T : TypeId} {x y : Option AV} {K : Eff → Option α} : (stoE P rd T x y K).bind D = stoE P rd T x y (fun d => (K d).bind D) := by
  unfold stoE
  repeat' split
  all_goals first | rfl | exact Option.bind_assoc .. | simp_all
theorem cpyE_nat {P : Program} {rd : Nat → Option IR} {R : IRs} {nx : Nat} {T : TypeId} {x y : Option AV} {K : Eff → Option α} : (cpyE P rd R nx T x y K).bind D = cpyE P rd R nx T x y (fun d => (K d).bind D) := by
  unfold cpyE
  split
  · split
    · split
      · split
        · rw [Option.bind_assoc]
          congr 1
          funext l
          rw [Option.bind_assoc]
          congr 1
          funext l2
          split <;> rfl
        · rfl
      · rfl
    · rfl
  · rfl
theorem litE_nat {P : Program} {ev : Operand → Option AV} {rd : Nat → Option IR} {nx : Nat} {T : TypeId} {n : Nat} {ps : List (Nat × Operand)} {K : Eff → Option α} : (litE P ev rd nx T n ps K).bind D = litE P ev rd nx T n ps (fun d => (K d).bind D) := by
  unfold litE
  split
  · split
    · split
      · split <;> rfl
      · split
        · split
          · rw [Option.bind_assoc]
            congr 1
            funext cs
            split
            · exact Option.bind_assoc ..
            · rfl
          · rfl
        · rfl
    · rfl
  · rfl
theorem mkE_nat {P : Program} {nx : Nat} {T : TypeId} {x y : Option AV} {K : Eff → Option α} : (mkE P nx T x y K).bind D = mkE P nx T x y (fun d => (K d).bind D) := by
  unfold mkE
  split
  · split
    · split
      · rw [Option.bind_assoc]
        congr 1
        funext d
        split <;> rfl
      · rfl
    · rfl
  · rfl
theorem emE_nat {P : Program} {nx : Nat} {T : TypeId} {x : Option AV} {K : Eff → Option α} : (emE P nx T x K).bind D = emE P nx T x (fun d => (K d).bind D) := by
  unfold emE
  repeat' split
  all_goals first | rfl | simp_all
theorem appT_nat {P : Program} {T : TypeId} {K : Nat → List Value → Option α} : (appT P T K).bind D = appT P T (fun e zs => (K e zs).bind D) := by
  unfold appT
  repeat' split
  all_goals first | rfl | simp_all
theorem addD_nat {P : Program} {rd : Nat → Option IR} {e : Nat} {zs : List Value} {T' T : TypeId} {y : Option AV} {K : List (U.Dat e) → Option α} : (addD P rd e zs T' T y K).bind D = addD P rd e zs T' T y (fun d => (K d).bind D) := by
  unfold addD
  split
  · exact Option.bind_assoc ..
  · split
    · split
      · rw [Option.bind_assoc]
        congr 1
        funext d
        split <;> rfl
      · rfl
    · rfl
theorem appE_nat {P : Program} {rd : Nat → Option IR} {nx : Nat} {T T' : TypeId} {x y : Option AV} {K : Eff → Option α} : (appE P rd nx T T' x y K).bind D = appE P rd nx T T' x y (fun d => (K d).bind D) := by
  unfold appE
  rw [appT_nat]
  congr 1
  funext e zs
  split
  · rw [addD_nat]
    congr 1
    funext l2
    split <;> rfl
  · split
    · rw [Option.bind_assoc]
      congr 1
      funext l
      rw [addD_nat]
      congr 1
      funext l2
      split <;> rfl
    · rfl
  · rfl
theorem mnV_nat {mx : Bool} {xs : List (Option AV)} {K : AV → Option α} : (mnV mx xs K).bind D = mnV mx xs (fun d => (K d).bind D) := by
  unfold mnV
  split
  · split
    · cases mx <;> rfl
    · rfl
  · rfl
/-- What is done with the answer of a call may be put into the call. -/
def OrcNat (F : Orc) : Prop := ∀ (α β : Type) f args R nx (k : AV → IRs → Nat → Option α) (D : α → Option β), (F α f args R nx k).bind D = F β f args R nx (fun d R nx => (k d R nx).bind D)
/-- What oracle F says is so, and it answers what it is asked. -/
structure OrcG (P : Program) (F : Orc) : Prop where
  ok : OrcOk P F
  nat : OrcNat F
theorem calE_nat {F : Orc} (hF : OrcNat F) {ev : Operand → Option AV} {R : IRs} {nx : Nat} {x : Option AV} {xs : List Operand} {K : Eff → Option α} : (calE F ev R nx x xs K).bind D = calE F ev R nx x xs (fun d => (K d).bind D) := by
  unfold calE
  split
  · rw [Option.bind_assoc]
    congr 1
    funext as0
    exact hF ..
  · rfl
theorem stepF_nat {F : Orc} (hF : OrcNat F) (o : Op) (P : Program) (ev : Operand → Option AV) (rd : Nat → Option IR) (R : IRs) (nx : Nat) (K : Eff → Option α) : (stepF o P F ev rd R nx K).bind D = stepF o P F ev rd R nx (fun e => (K e).bind D) := by
  have hP : (fun d => (pureK K d).bind D) = pureK (fun e => (K e).bind D) := rfl
  cases o <;> first | rfl | exact Option.bind_assoc .. | exact unV_nat D | exact cnvV_nat D | exact nilV_nat D | exact fldV_nat D | exact idxV_nat D | exact ixaV_nat D | exact ldV_nat D | exact stoE_nat D | exact mkfV_nat D | exact extV_nat D | exact bldV_nat D | exact litE_nat D | exact mkE_nat D | exact aloE_nat D | exact boxE_nat D | skip
  case pick c a b =>
    show (stPic c a b P F ev rd R nx K).bind D = stPic c a b P F ev rd R nx _
    unfold stPic
    split
    · exact Option.bind_assoc ..
    · exact Option.bind_assoc ..
    · rfl
  case binOp b T x y t => exact binV_nat D
  case slice T x lo hi mx =>
    show (stSli T x lo hi mx P F ev rd R nx K).bind D = stSli T x lo hi mx P F ev rd R nx _
    unfold stSli
    split
    · exact cutV_nat D
    · split
      · exact emE_nat D
      · rfl
    · rfl
  case call c =>
    show (stCal c P F ev rd R nx K).bind D = stCal c P F ev rd R nx _
    unfold stCal
    split
    · exact calE_nat D hF
    · unfold stBui
      split
      · split
        · exact lenV_nat D
        · rfl
      · split
        · exact mnV_nat D
        · rfl
      · split
        · exact mnV_nat D
        · rfl
      · split
        · exact appE_nat D
        · rfl
      · split
        · exact cpyE_nat D
        · rfl
      · rfl
    · rfl
end
end Go.Iv
end
section
set_option linter.unusedSectionVars false
set_option linter.unusedVariables false
set_option linter.unusedSimpArgs false
namespace Go.Iv
variable [U : Uni]
open Go Go.RowKit Go.Shelf Go.Proofs

/-! ### Code in a round -/

/-- no operation of the list defers a call -/
def plainOp (o : Oper) : Bool := match o.op with
  | .defer _ => false
  | _ => true

theorem plainOp.ne {o : Oper} (h : plainOp o = true) : ∀ c, o.op ≠ .defer c := fun c e => by
  unfold plainOp at h
  rw [e] at h
  cases h

theorem operIn_of {P : Program} {l m : Nat} {o : Oper} {a : Act} {w : World} {K K' : Act → World → Prop} {Q : Exit → Act → World → Prop} (hp : plainOp o = true) (h : o.wp P a w K Q) (hK : ∀ a w, K a w → K' a w) : o.wpIn (Fence.wide.inRound l) m P a w K' Q := by
  refine ⟨fun _ _ => trivial, ?_⟩
  rw [Fence.inRound_round, Oper.semAt_some l _ _ (plainOp.ne hp)]
  unfold Oper.wp at h
  generalize (execOp a.eval o).run P w = r at h
  cases r with
  | ok x w' =>
    cases x with
    | value v => exact hK _ _ h
    | skip => exact hK _ _ h
    | defer d => exact hK _ _ h
    | enter f args =>
      refine ⟨fun h => by simp [Fence.inRound, Fence.wide] at h, CallsIn.inRound l (callsIn_wide.2 (Calls.mono h fun e w'' he => ?_))⟩
      cases e with
      | returned v => exact hK _ _ he
      | panicked ch => exact he
      | outgrown => exact he
    | row row args =>
      refine ⟨fun h => by simp [Fence.inRound, Fence.wide] at h, fun c cs _ => ?_⟩
      obtain ⟨v, w'', q1, q2⟩ := h c cs
      exact ⟨v, w'', hK _ _ q1, stepsIn_wide.2 q2⟩
    | _ => exact h.elim
  | halt x w' =>
    cases x with
    | panic v => exact h
    | _ => exact h.elim

theorem wpListIn_of {P : Program} {l m : Nat} {ops : Array Oper} {Q : Exit → Act → World → Prop} (hQ : ¬ LetsOut Q) : ∀ (rest : List Oper) (a : Act) (w : World), rest.all plainOp = true → wpList P ops Q rest a w → wpListIn (Fence.wide.inRound l) m P ops Q rest a w
  | [], _, _, _, h => h
  | o :: rest, a, w, hp, h => by
    rw [List.all_cons, Bool.and_eq_true] at hp
    unfold wpList at h
    unfold wpListIn
    by_cases hw : Region.wanted o (yielded ops a.tmps) = true
    · rw [if_pos hw] at h ⊢
      rcases h with h | h
      · exact operIn_of hp.1 h fun a' w' h' => wpListIn_of hQ rest a' w' hp.2 h'
      · exact absurd h.2 hQ
    · rw [if_neg hw] at h ⊢
      exact ⟨fun _ _ => trivial, wpListIn_of hQ rest _ _ hp.2 h⟩

def CWR (P : Program) (C : Cx) (n : Nat) (c : Code) (Q : Exit → Env → List Res → Prop) (E : Env) (σ : List Res) : Prop :=
  ∀ lp m a w, Sim C n E σ a w → a.defers = [] → c.wpIn (Fence.wide.inRound lp) m P (fun e a' w' => a'.defers = [] ∧ ∃ E' σ', Sim C n E' σ' a' w' ∧ Q e E' σ') a w

def SeqR (P : Program) (C : Cx) (n : Nat) (y : Code) (Q : Exit → Env → List Res → Prop) : Exit → Env → List Res → Prop
  | .normal, E, σ => CWR P C n y Q E σ
  | e, E, σ => Q e E σ

section
variable {P : Program} {C : Cx} {n : Nat} {c x y : Code} {Q Q' : Exit → Env → List Res → Prop} {E E' : Env} {σ σ' : List Res}

theorem CWR.mono (h : CWR P C n c Q E σ) (hq : ∀ e E σ, Q e E σ → Q' e E σ) : CWR P C n c Q' E σ := fun lp m a w ha hd =>
  wpIn_mono (h lp m a w ha hd) fun _ _ _ ⟨hd', E', σ', h1, h2⟩ => ⟨hd', E', σ', h1, hq _ _ _ h2⟩

theorem CWR.seq (h : CWR P C n x (SeqR P C n y Q) E σ) : CWR P C n (.seq x y) Q E σ := fun lp m a w ha hd => by
  refine wpIn_seq (wpIn_mono (h lp m a w ha hd) fun e a' w' ⟨hd', E', σ', h1, h2⟩ => ?_)
  cases e with
  | normal => exact h2 lp m a' w' h1 hd'
  | _ => exact ⟨hd', E', σ', h1, h2⟩

theorem CWR.block {id : Nat} (h : CWR P C n c (BlockQ id Q) E σ) : CWR P C n (.block id c) Q E σ := fun lp m a w ha hd => by
  refine wpIn_block (wpIn_mono (h lp m a w ha hd) fun e a' w' ⟨hd', E', σ', h1, h2⟩ => ?_)
  cases e with
  | exit id' =>
    simp only [BlockQ] at h2
    simp only [Exit.inBlock]
    split
    · rename_i he
      subst he
      have hb : Nat.beq id' id' = true := Nat.beq_refl _
      simp only [hb] at h2
      exact ⟨hd', E', σ', h1, h2⟩
    · rename_i he
      have hb : Nat.beq id' id = false := by
        cases hb : Nat.beq id' id with
        | false => rfl
        | true => exact absurd (Nat.eq_of_beq_eq_true hb) he
      simp only [hb] at h2
      exact ⟨hd', E', σ', h1, h2⟩
  | _ => exact ⟨hd', E', σ', h1, h2⟩

theorem CWR.exit {id : Nat} (h : Q (.exit id) E σ) : CWR P C n (.exit id) Q E σ := fun _ _ _ _ ha hd => wpIn_exit ⟨hd, E, σ, ha, h⟩
theorem CWR.ret (h : Q .ret E σ) : CWR P C n .ret Q E σ := fun _ _ _ _ ha hd => wpIn_ret ⟨hd, E, σ, ha, h⟩
theorem CWR.skip (h : Q .normal E σ) : CWR P C n .skip Q E σ := fun _ _ _ _ ha hd => wpIn_skip ⟨hd, E, σ, ha, h⟩
theorem CWR.cond {cnd : Operand} {b : Bool} (hc : E.ev cnd = some (.lit (.bool b))) (ht : b = true → CWR P C n x Q E σ) (hf : b = false → CWR P C n y Q E σ) : CWR P C n (.cond cnd x y) Q E σ := fun lp m a w ha hd =>
  wpIn_cond_split (ev_bool ha hc) (fun h => ht h lp m a w ha hd) (fun h => hf h lp m a w ha hd)
theorem CWR.region {id : Nat} {l : List Oper} (hp : l.all plainOp = true) (h : RW P C n l.toArray (fun E' σ' => Q .normal E' σ') l E σ) : CWR P C n (.region id l.toArray false) Q E σ := fun lp m a w ha hd => by
  refine wpIn_mono (wpIn_region_lit (wpListIn_of (fun ⟨_, _, h⟩ => by cases h.1) l a w hp (h a w ha))) fun e a' w' ⟨he, hd', E', σ', h1, h2⟩ => ?_
  subst he
  exact ⟨hd'.trans hd, E', σ', h1, h2⟩
theorem CWR.sel {cd : Code} {Q : Exit → Env → List Res → Prop} (is : List Nat) (hs : Iv.sel σ is = some σ') (h : CWR P C n cd Q E σ') : CWR P C n cd Q E σ := fun lp m a w ha hd => h lp m a w (ha.sel is hs) hd
end

theorem CWR.weak {P : Program} {C : Cx} {n : Nat} {c : Code} {Q : Exit → Env → List Res → Prop} {E E' : Env} {σ : List Res} (h : CWR P C n c Q E σ) (hs : Sub E E') : CWR P C n c Q E' σ := fun lp m a w ha hd => h lp m a w (ha.sub hs) hd
theorem CWR.cut {P : Program} {C : Cx} {n : Nat} {c : Code} {Q : Exit → Env → List Res → Prop} {E : Env} {σ : List Res} (K : Env → List Res → Prop) (first : CWR P C n c (CutQ K Q) E σ) (rest : ∀ E σ, K E σ → Q .normal E σ) : CWR P C n c Q E σ :=
  CWR.mono first fun e E σ h => by cases e <;> first | exact rest E σ h | exact h

/-- A box that is not written any more is data. -/
theorem Vw.box {σ : List Res} {b : Nat} {T : TypeId} {cs : List AV} (i : Nat) (hσ : σ[i]? = some (.box b T cs)) : Vw σ (.lit (.pointer (some ⟨b, 0, none⟩))) (.fp cs) := fun A w v hd hr => by
  have hv := hr.litEq
  subst hv
  have hm := List.mem_of_getElem? hσ
  obtain ⟨us, h1, h2⟩ := hd.1 _ hm
  exact .fp cs b 0 us h1.lt (.inr (mem_blks.2 ⟨_, hm, rfl⟩)) h2.1 (fun j v hj => by rw [Nat.zero_add]; exact h1.cell (by simpa using hj)) (fun j a v q1 q2 => (h2.2 j a v q1 q2).mono fun b _ hA => ⟨.inl hA, rfl⟩)
theorem Vw.fn {σ : List Res} {f : Go.Fn} {cs cs' : List AV} (h : VwL σ cs cs') : Vw σ (.fn f cs) (.fn f cs') := fun A w v hd hr => by
  obtain ⟨us, rfl, h1⟩ := hr.fnInv
  have := h A w us hd h1
  exact .fn f _ us this.1 this.2

/-! ### The rule -/

/-- Function gf, with caps captured, calls yield with the values es, one after the other, as0 long as0 yield says so; it reads data that is not written. -/
def Iter (P : Program) (gf : FuncId) (caps : List AV) (es : List (List AV)) : Prop :=
  ∀ (A : Nat → Prop) (w : World) (lb : List Value), RelL A w caps lb → ∃ us : List (List Value), us.length = es.length ∧ (∀ i, i < es.length → RelL A w es[i]! us[i]!) ∧
    SeqStopsK Fence.wide 1 P gf lb.toArray (fun i : Fin es.length => us[i.1]!.toArray) (fun W W' => ∀ b, b < w.heap.size → A b → W'.heap[b]? = W.heap[b]?) (fun xs => xs = List.finRange es.length) (fun pre => pre <+: List.finRange es.length) es.length w

/-- the parameters of a round -/
def penv : List Tmp → List AV → Env → Env
  | p :: ps, e :: es, E => penv ps es ((p, e) :: E)
  | _, _, E => E

theorem Slots.penv {A : Nat → Prop} {w : World} : ∀ (ps : List Tmp) (es : List AV) (us : List Value) (E : Env) (tmps : Array Value), Slots A w E tmps → RelL A w es us → (∀ p ∈ ps, p < tmps.size) → ps.length = es.length →
    Slots A w (penv ps es E) ((ps.zip us).foldl (fun t (p, v) => t.setIfInBounds p v) tmps)
  | [], [], us, E, tmps, h, _, _, _ => by simpa [Iv.penv] using h
  | [], _ :: _, _, _, _, _, _, _, hl => by cases hl
  | _ :: _, [], _, _, _, _, _, _, hl => by cases hl
  | p :: ps, e :: es, [], E, tmps, h, hr, _, _ => by have := hr.1; simp at this
  | p :: ps, e :: es, u :: us, E, tmps, h, hr, hp, hl => by
    have h1 : Slots A w ((p, e) :: E) (tmps.setIfInBounds p u) := Slots.put (a := { tmps := tmps, defers := [] }) h (hp p List.mem_cons_self) (hr.2 0 e u rfl rfl)
    exact Slots.penv ps es us _ _ h1 ⟨by have := hr.1; simpa using this, fun j a v q1 q2 => hr.2 (j + 1) a v (by simpa using q1) (by simpa using q2)⟩ (fun q hq => by simpa using hp q (List.mem_cons_of_mem _ hq)) (by simpa using hl)

def setAll (tmps : Array Value) (zs : List (Tmp × Value)) : Array Value := zs.foldl (fun t (p, v) => t.setIfInBounds p v) tmps
theorem setAll_size : ∀ (zs : List (Tmp × Value)) (tmps : Array Value), (setAll tmps zs).size = tmps.size
  | [], _ => rfl
  | z :: zs, tmps => (setAll_size zs (tmps.setIfInBounds z.1 z.2)).trans (by simp)
theorem setAll_eq (ps : Array Tmp) (us : List Value) (tmps : Array Value) : (ps.zip us.toArray).foldl (fun t (p, v) => t.setIfInBounds p v) tmps = setAll tmps (ps.toList.zip us) := by
  rw [← Array.foldl_toList, Array.toList_zip]
  rfl

/-- What a stretch of code did, seen from its own beginning, seen from the function's. -/
theorem tr_out {C : Cx} {σ σ1 : List Res} {W W' : World} (h : Good C σ W) (h' : Good ⟨W, al C σ, blks σ⟩ σ1 W') : Tr C (blks σ) σ W σ1 W' := by
  have hal : ∀ b, al ⟨W, al C σ, blks σ⟩ σ1 b → al C σ1 b := fun b hb => by
    refine ⟨?_, hb.2⟩
    rcases hb.1 with q | q | q
    · exact q.1
    · rcases h.own b q with q | q
      · exact .inr (.inl q)
      · exact .inr (.inr q)
    · exact .inr (.inr (Nat.le_trans h.kept.size q))
  refine ⟨⟨h.kept.trans h'.kept (fun b hb hlt => (h.own b hb).elim id (fun q => by omega)), fun r hr => (h'.res r hr).mono (fun b _ hA => ⟨hal b hA, rfl⟩) (fun _ _ => rfl), h'.dis, fun b hb => ?_⟩, h'.kept, fun b hb hA => ⟨⟨hA.1, fun hx => ?_⟩, hA.2⟩⟩
  · rcases h'.own b hb with q | q
    · exact h.own b q
    · exact .inr (Nat.le_trans h.kept.size q)
  · rcases h'.own b hx with q | q
    · exact hA.2 q
    · have q' : W.heap.size ≤ b := q
      omega
theorem al_out {C : Cx} {σ σ1 : List Res} {W : World} (h : Good C σ W) : ∀ b, al ⟨W, al C σ, blks σ⟩ σ1 b → al C σ1 b := fun b hb => by
  refine ⟨?_, hb.2⟩
  rcases hb.1 with q | q | q
  · exact q.1
  · rcases h.own b q with q | q
    · exact .inr (.inl q)
    · exact .inr (.inr q)
  · exact .inr (.inr (Nat.le_trans h.kept.size q))

/-- A function's state, seen afresh. -/
theorem Good.fresh {C : Cx} {σ : List Res} {W : World} (h : Good C σ W) : Good ⟨W, al C σ, blks σ⟩ σ W :=
  ⟨Kp.refl _ _, fun r hr => (h.res r hr).mono (fun b _ hA => ⟨⟨.inl hA, hA.2⟩, rfl⟩) (fun _ _ => rfl), h.dis, fun b hb => .inl hb⟩

theorem Good.less {C : Cx} {σ σ' : List Res} {W : World} (h : Good C σ W) (hs : List.Sublist σ' σ) : Good C σ' W := by
  have hm : ∀ r ∈ σ', r ∈ σ := fun r hr => hs.subset hr
  exact ⟨h.kept, fun r hr => (h.res r (hm r hr)).mono (fun b _ hA => ⟨⟨hA.1, fun hx => hA.2 (blks_sub hm b hx)⟩, rfl⟩) (fun _ _ => rfl), h.dis.sublist (hs.filterMap _), fun b hb => h.own b (blks_sub hm b hb)⟩

/-- what the loop began with lies as0 it lay -/
def Lay (C : Cx) (σ : List Res) (w : World) (σ' : List Res) (W : World) : Prop := ∀ b, b < w.heap.size → al C σ b → al C σ' b ∧ W.heap[b]? = w.heap[b]?

theorem Lay.less {C : Cx} {σ σ' σ'' : List Res} {w W : World} (h : Lay C σ w σ' W) (hs : List.Sublist σ'' σ') : Lay C σ w σ'' W := fun b hb hA =>
  ⟨⟨(h b hb hA).1.1, fun hx => (h b hb hA).1.2 (blks_sub (fun _ hr => hs.subset hr) b hx)⟩, (h b hb hA).2⟩
theorem Lay.tr {C : Cx} {X : List Nat} {σ σ' σ'' : List Res} {w W W' : World} (h : Lay C σ w σ' W) (t : Tr C X σ' W σ'' W') (hs : w.heap.size ≤ W.heap.size) : Lay C σ w σ'' W' := fun b hb hA =>
  have q := t.keep b (Nat.lt_of_lt_of_le hb hs) (h b hb hA).1
  ⟨q.1, q.2.trans (h b hb hA).2⟩

theorem tn_grown {C : Cx} {W W' : World} {row : Option Nat} (hg : W.grownBy W' row) (hw : ∀ r, row = some r → C.w0.heap.size ≤ r ∧ ∃ o : Obj, W.heap[r]? = some o ∧ o.isCells = false) (h0 : C.w0.heap.size ≤ W.heap.size) : Tn C W W' :=
  ⟨hg.os, hg.tape, hg.output, hg.size, fun k hk => hg.block k (by omega) (fun e => by have := (hw k e.symm).1; omega), fun b cs T m hx => hg.block b (Array.getElem?_eq_some_iff.1 hx).1 (fun e => by
    obtain ⟨_, o, h1, h2⟩ := hw b e.symm
    rw [hx] at h1
    cases h1
    cases h2)⟩

/-- What holds between two rounds. -/
def Mid (C : Cx) (σ : List Res) (w : World) (J : List Res → Prop) (W : World) : Prop :=
  ∃ σ', J σ' ∧ Good C σ' W ∧ Lay C σ w σ' W ∧ w.heap.size ≤ W.heap.size

theorem Mid.own {α : Type} {C : Cx} {σ : List Res} {w : World} (hw : C.w0.heap.size ≤ w.heap.size) (J : α → List Res → Prop) : OwnFrom w.heap.size (fun pre => Mid C σ w (J pre)) := fun pre W W' row ⟨σ', h1, h2, h3, h4⟩ hg hr => by
  refine ⟨σ', h1, h2.turn (tn_grown hg (fun r e => ⟨by have := (hr r e).1; omega, (hr r e).2⟩) h2.kept.size), fun b hb hA => ⟨(h3 b hb hA).1, ?_⟩, Nat.le_trans h4 hg.size⟩
  exact (hg.block b (by omega) (fun e => by have := (hr b e.symm).1; omega)).trans (h3 b hb hA).2

/-- what is no cells is not written -/
theorem keepsFrom_tr {C : Cx} {σ σ' : List Res} {W W' : World} (B : Nat) (h : Good C σ W) (t : Tr C (blks σ) σ W σ' W') : KeepsFrom B W W' :=
  ⟨t.kp.size, fun k o _ hk ho => (t.kp.block k (Array.getElem?_eq_some_iff.1 hk).1 (fun hx => by
    obtain ⟨r, h1, h2⟩ := mem_blks.1 hx
    obtain ⟨cs, T, m, h3⟩ := (h.res r h1).cells h2
    rw [hk] at h3
    cases h3
    cases ho)).trans hk⟩

/-- A round's frame, its variables set. -/
def Rnd (C : Cx) (n : Nat) (σ : List Res) (w : World) (KA : Env → List Res → Prop) (a : Act) (W : World) : Prop :=
  ∃ E1 σ1, KA E1 σ1 ∧ Sim C n E1 σ1 a W ∧ a.defers = [] ∧ Lay C σ w σ1 W ∧ w.heap.size ≤ W.heap.size

theorem Rnd.own {C : Cx} {n : Nat} {σ : List Res} {w : World} (hw : C.w0.heap.size ≤ w.heap.size) (KA : Env → List Res → Prop) (a : Act) : OwnFrom w.heap.size (fun (_ : Unit) => Rnd C n σ w KA a) := fun _ W W' row ⟨E1, σ1, h1, h2, h5, h3, h4⟩ hg hr => by
  have ht := tn_grown (C := C) hg (fun r e => ⟨by have := (hr r e).1; omega, (hr r e).2⟩) h2.good.kept.size
  refine ⟨E1, σ1, h1, ⟨.nil h5, h2.size, h2.slots.turn ht, h2.good.turn ht⟩, h5, fun b hb hA => ⟨(h3 b hb hA).1, ?_⟩, Nat.le_trans h4 hg.size⟩
  exact (hg.block b (by omega) (fun e => by have := (hr b e.symm).1; omega)).trans (h3 b hb hA).2

theorem blks_lt {C : Cx} {σ : List Res} {W : World} (h : Good C σ W) : ∀ b ∈ blks σ, b < W.heap.size := fun b hb => by
  obtain ⟨r, h1, h2⟩ := mem_blks.1 hb
  exact (h.res r h1).lt h2

theorem CW.rf {P : Program} {C : Cx} {n : Nat} {Q : Exit → Env → List Res → Prop} {E : Env} {σ : List Res} {g : Operand} {ps : Array Tmp} {assign body : Code} {gf : Nat} {caps : List AV} {es : List (List AV)}
    (J : List Res → Prop) (Jx : Nat → List Res → Prop) (p : Nat → Bool) (KA : Nat → Env → List Res → Prop) (hg : E.ev g = some (.fn (.func gf) caps)) (eg : Enters P gf) (hit : Iter P gf caps es) (hps : ∀ i, i < es.length → es[i]!.length = ps.size) (hpn : ∀ p ∈ ps.toList, p < n) (h0 : J σ)
    (hassign : ∀ C' i σ', i < es.length → J σ' → CWR P C' n assign (fun e E1 σ1 => e = .normal ∧ KA i E1 σ1 ∧ ∃ σ2, J σ2 ∧ List.Sublist σ2 σ1) (penv ps.toList es[i]! E) σ')
    (hbody : ∀ C' i E1 σ1, i < es.length → KA i E1 σ1 → CWR P C' n body (fun e _ σ2 => (e = .normal ∧ p i = false ∧ ∃ σ3, J σ3 ∧ List.Sublist σ3 σ2) ∨ (e = .ret ∧ p i = true ∧ ∃ σ3, Jx i σ3 ∧ List.Sublist σ3 σ2)) E1 σ1)
    (hdone : ∀ σ', J σ' → (∀ i, i < es.length → p i = false) → Q .normal E σ')
    (hstop : ∀ i σ', i < es.length → (∀ j, j < i → p j = false) → p i = true → Jx i σ' → Q .ret E σ') : CW P C n (.rangeFunc g ps assign body) Q E σ := fun a w ha => by
  have hgv := ha.slots.ops g _ hg
  obtain ⟨lb, hlb, hev⟩ : ∃ lb : List Value, RelL (al C σ) w caps lb ∧ a.eval g = .func (.func gf) #[] lb.toArray := by
    generalize hx : AVq.fn (.func gf) caps = x at hgv
    generalize a.eval g = v at hgv
    cases hgv with
    | fn f cs us hl hr => cases hx; exact ⟨us, ⟨hl, hr⟩, rfl⟩
    | _ => cases hx
  obtain ⟨us, hul, hur, hseq⟩ := hit (al C σ) w lb hlb
  have hw0 : C.w0.heap.size ≤ w.heap.size := ha.good.kept.size
  have hKt : ∀ {A B D : World}, (∀ b, b < w.heap.size → al C σ b → B.heap[b]? = A.heap[b]?) → (∀ b, b < w.heap.size → al C σ b → D.heap[b]? = B.heap[b]?) → (∀ b, b < w.heap.size → al C σ b → D.heap[b]? = A.heap[b]?) := fun h k b hb hA => (k b hb hA).trans (h b hb hA)
  have after : ∀ (a : Act) D W σ', Lay C σ w σ' W → Good C σ' W → w.heap.size ≤ W.heap.size → w.heap.size ≤ D → W.heap[D]? = some (.deferred (some [])) → Sim C n E σ a w → Sim C n E σ' { a with defers := { target := .collected D, args := #[] } :: a.defers } W := fun a D W σ' hL hG hSz hD hdf ha => by
    have hcell : ∀ (b : Nat) ds, W.heap[b]? = some (Obj.deferred ds) → b ∉ blks σ' := fun b ds hb hx => by
      obtain ⟨r, h1, h2⟩ := mem_blks.1 hx
      obtain ⟨cs, T, m, h3⟩ := (hG.res r h1).cells h2
      rw [hb] at h3
      cases h3
    refine ⟨?_, ha.size, fun s av q => ?_, hG⟩
    · obtain ⟨Ds, h1, h2, h3⟩ := ha.defers
      refine ⟨D :: Ds, by simp [h1], List.nodup_cons.2 ⟨fun hx => by have := (h3 D hx).1; omega, h2⟩, fun D' hD' => ?_⟩
      rcases List.mem_cons.1 hD' with rfl | hD'
      · exact ⟨(Array.getElem?_eq_some_iff.1 hdf).1, by omega, hcell _ _ hdf, hdf⟩
      · obtain ⟨q1, q2, q3, q4⟩ := h3 D' hD'
        have q5 := (hL D' q1 ⟨.inr (.inr q2), q3⟩).2.trans q4
        exact ⟨(Array.getElem?_eq_some_iff.1 q5).1, q2, hcell _ _ q5, q5⟩
    · obtain ⟨v, q1, q2⟩ := ha.slots s av q
      exact ⟨v, q1, q2.mono fun b hb hA => hL b hb hA⟩
  refine wpIn_wide.1 (wpIn_rangeFunc_ownH (F := Fence.wide) (n := 2) (g := g) (ps := ps) (assign := assign) (body := body) (α := Fin es.length) (w0 := w) (gf := gf) (lb := lb.toArray) rfl (by omega) hev trivial eg hseq hKt (fun W l o o' hl _ _ _ b hb _ => World.putObj_heap_other (by omega)) (Below.refl _ _) (fun x => ?_)
    (fun pre W => (∀ i ∈ pre, p i.1 = false) ∧ Mid C σ w J W) (fun c pre W => c = .ret ∧ (∃ ini i, pre = ini ++ [i] ∧ (∀ j ∈ ini, p j.1 = false) ∧ p i.1 = true ∧ Mid C σ w (Jx i.1) W))
    (OwnFrom.and (fun _ _ _ _ h _ _ => h) (Mid.own (α := List (Fin es.length)) hw0 (fun _ => J))) (fun c pre W W' row h hg hr => ?_) ⟨by simp, σ, h0, ha.good, fun b _ hA => ⟨hA, rfl⟩, Nat.le_refl _⟩
    (fun x a' => Rnd C n σ w (KA x.1) a') (fun x a' => Rnd.own hw0 _ a') ?_ ?_ ?_ ?_)
  · have := (hur x.1 x.2).1
    rw [List.size_toArray, this]
    exact hps x.1 x.2
  · obtain ⟨h1, ini, i, h2, h3, h4, h5⟩ := h
    exact ⟨h1, ini, i, h2, h3, h4, Mid.own (α := Unit) hw0 (fun _ => Jx i.1) () W W' row h5 hg hr⟩
  · intro l pre x W K ⟨hp, σ', hJ, hG, hL, hS⟩ hK
    have hsl : Slots (al ⟨W, al C σ', blks σ'⟩ σ') W (penv ps.toList es[x.1]! E) (setAll a.tmps (ps.toList.zip us[x.1]!)) := by
      refine Slots.penv _ _ _ _ _ (fun t av ht => ?_) ?_ (fun p hp => by rw [ha.size]; exact hpn p hp) (by rw [hps x.1 x.2]; simp)
      · obtain ⟨v, q1, q2⟩ := ha.slots t av ht
        exact ⟨v, q1, q2.mono fun b hb hA => ⟨⟨.inl (hL b hb hA).1, (hL b hb hA).1.2⟩, (hL b hb hA).2⟩⟩
      · exact (hur x.1 x.2).mono fun b hb hA => ⟨⟨.inl (hL b hb hA).1, (hL b hb hA).1.2⟩, (hL b hb hA).2⟩
    rw [setAll_eq]
    refine wpIn_mono (hassign ⟨W, al C σ', blks σ'⟩ x.1 σ' x.2 hJ l 0 _ W ⟨.nil rfl, (setAll_size _ _).trans ha.size, hsl, hG.fresh⟩ rfl) ?_
    · rintro e a' W' ⟨hd1, E1, σ1, hs1, rfl, hka, σ2, hj2, hsub⟩
      have t := tr_out hG hs1.good
      refine hK a' W' (keepsFrom_tr _ hG t) (fun b hb hA => t.kp.block b (Nat.lt_of_lt_of_le hb hS) (hL b hb hA).1.2) ⟨hp, σ2, hj2, t.good.less hsub, (hL.tr t hS).less hsub, Nat.le_trans hS t.kp.size⟩ ?_
      refine ⟨E1, σ1, hka, ⟨.nil hd1, hs1.size, fun s av q => ?_, t.good⟩, hd1, hL.tr t hS, Nat.le_trans hS t.kp.size⟩
      obtain ⟨v, q1, q2⟩ := hs1.slots s av q
      exact ⟨v, q1, q2.mono fun b _ hA => ⟨al_out hG b hA, rfl⟩⟩
  · intro l pre x a' W hl hr ⟨hp, _⟩ ⟨E1, σ1, hka, hs1, hd1, hL1, hS1⟩ hlt
    have hs2 : Sim ⟨W, al C σ1, blks σ1⟩ n E1 σ1 a' W := ⟨.nil hd1, hs1.size, fun s av q => by
      obtain ⟨v, q1, q2⟩ := hs1.slots s av q
      exact ⟨v, q1, q2.mono fun b _ hA => ⟨⟨.inl hA, hA.2⟩, rfl⟩⟩, hs1.good.fresh⟩
    refine wpIn_mono (hbody ⟨W, al C σ1, blks σ1⟩ x.1 E1 σ1 x.2 hka l 0 a' W hs2 hd1) ?_
    rintro e a2 W' ⟨_, E2, σ2, hs3, hq⟩
    have t := tr_out hs1.good hs3.good
    have hkf := keepsFrom_tr w.heap.size hs1.good t
    rcases hq with ⟨rfl, hpx, σ3, hj3, hsub⟩ | ⟨rfl, hpx, σ3, hj3, hsub⟩
    · refine ⟨hkf, fun b hb hA => t.kp.block b (Nat.lt_of_lt_of_le hb hS1) (hL1 b hb hA).1.2, fun i hi => ?_, σ3, hj3, t.good.less hsub, (hL1.tr t hS1).less hsub, Nat.le_trans hS1 t.kp.size⟩
      rcases List.mem_append.1 hi with hi | hi
      · exact hp i hi
      · rw [List.mem_singleton] at hi
        rw [hi]; exact hpx
    · exact ⟨hkf, rfl, pre, x, rfl, hp, hpx, σ3, hj3, t.good.less hsub, (hL1.tr t hS1).less hsub, Nat.le_trans hS1 t.kp.size⟩
  · intro D xs W hD hS ⟨hp, σ', hJ, hG, hL, hSz⟩ hdf
    subst hS
    exact ⟨E, σ', after a D W σ' hL hG hSz hD hdf ha, hdone σ' hJ fun i hi => hp ⟨i, hi⟩ (List.mem_finRange _)⟩
  · intro D c pre W hD hS ⟨hc, ini, i, hpre, hini, hi, σ', hJ, hG, hL, hSz⟩ hdf
    subst hc
    refine wpIn_ret ⟨E, σ', after a D W σ' hL hG hSz hD hdf ha, hstop i.1 σ' i.2 (fun j hj => ?_) hi hJ⟩
    refine hini ⟨j, by have := i.2; omega⟩ ?_
    subst hpre
    obtain ⟨rest, hrest⟩ := hS
    have hk : i.1 = ini.length := by
      have h1 : (List.finRange es.length)[ini.length]? = some i := by rw [← hrest]; simp
      obtain ⟨h2, h3⟩ := List.getElem?_eq_some_iff.1 h1
      rw [List.getElem_finRange] at h3
      rw [← h3]; rfl
    have h1 : (List.finRange es.length)[j]? = some ⟨j, by have := i.2; omega⟩ := by
      rw [List.getElem?_eq_getElem (by rw [List.length_finRange]; have := i.2; omega), List.getElem_finRange]; rfl
    rw [← hrest, List.append_assoc, List.getElem?_append_left (by omega)] at h1
    exact List.mem_of_getElem? h1
end Go.Iv
end
section
set_option linter.unusedSectionVars false
set_option linter.unusedVariables false
set_option linter.unusedSimpArgs false
namespace Go.Iv
variable [U : Uni] [L : UniL]
open Go Go.RowKit

/-! ### giving up -/

theorem frzN_ltd {id t m : Nat} {l : List (U.Dat t)} : ∀ (n : Nat) {d : AV}, Ltd m d → Ltd m (frzN id t l n d)
  | 0, d, h => h
  | n + 1, d, h => by
    have hL : ∀ {cs : List AV}, (∀ c ∈ cs, Ltd m c) → ∀ c ∈ cs.map (frzN id t l n), Ltd m c := fun h c hc => by
      obtain ⟨c', h1, rfl⟩ := List.mem_map.1 hc
      exact frzN_ltd n (h c' h1)
    unfold frzN
    split
    · rename_i h0; cases h0
    · rename_i h0; cases h0; exact .agg _ (hL h.aggL)
    · rename_i h0; cases h0; exact .tup _ (hL h.tupL)
    · rename_i h0; cases h0; exact .fn _ _ (hL h.fnL)
    · unfold frz1
      split
      · split
        · exact .sl _ _
        · exact h
      · exact h

theorem map_get {f : AV → AV} (t : Nat) : ∀ (E : Env), Env.get (E.map fun p => (p.1, f p.2)) t = (E.get t).map f
  | [] => rfl
  | (k, v) :: E => by
    show Env.get ((k, f v) :: E.map fun p => (p.1, f p.2)) t = _
    unfold Env.get
    cases hb : Nat.beq k t with
    | true => rfl
    | false => exact map_get t E

section
variable {α : Type} {r : α} {P : Program} {F : Orc} {o : Oper} {C : Cg} {n : Nat} {s : St} {a : Act} {w : World}

theorem Mt.frz (h : Mt C n s a w) (id : Nat) : Mt C n (s.frz id) a w := by
  unfold St.frz
  split
  case h_2 => exact h
  rename_i t l hr
  obtain ⟨E, hh, hE, hR, ρ, hag, hsim⟩ := h
  obtain ⟨i, hi1, _, hi3⟩ := rget_idx hr
  have hres := res_get (ρ := ρ) hi1
  have hg := hsim.good
  have hd : Hd (al C.C (IRs.res ρ s.R)) [.row (ρ.v id) t l] w := ⟨fun r hr => by
      rw [List.mem_singleton] at hr
      rw [hr]
      exact hg.res _ (List.mem_of_getElem? hres), fun b hb hA => hA.2 (by
      obtain ⟨r, h1, h2⟩ := mem_blks.1 hb
      rw [List.mem_singleton] at h1
      rw [h1] at h2
      exact mem_blks.2 ⟨_, List.mem_of_getElem? hres, h2⟩)⟩
  have hle := al_erase (C := C.C) hres hg
  -- the resources behind
  have hbk : blks (IRs.res ρ ((rdel id s.R).map fun p => (p.1, frzR id t l p.2))) = blks ((IRs.res ρ s.R).eraseIdx i) := by
    rw [← res_erase, ← hi3]
    unfold blks IRs.res
    rw [List.map_map, List.filterMap_map, List.filterMap_map]
    congr 1
    funext p
    obtain ⟨q, rr⟩ := p
    cases rr <;> rfl
  have hal : ∀ b, (al C.C (IRs.res ρ s.R) b ∨ b ∈ blks [Res.row (ρ.v id) t l]) → al C.C (IRs.res ρ ((rdel id s.R).map fun p => (p.1, frzR id t l p.2))) b := fun b hb => by
    have := hle b hb
    exact ⟨this.1, by rw [hbk]; exact this.2⟩
  have hrel : ∀ {d : AV} {v : Value}, Rel (al C.C (IRs.res ρ s.R)) w (d.sub ρ) v → Rel (al C.C (IRs.res ρ ((rdel id s.R).map fun p => (p.1, frzR id t l p.2)))) w ((frzN id t l 3 d).sub ρ) v := fun h =>
    (frzN_rel hd 3 h).mono fun b _ hA => ⟨hal b hA, rfl⟩
  refine ⟨E.map fun p => (p.1, frzN id t l 3 p.2), fun k d hk => ?_, fun p hp => ?_, fun p hp => ?_, ρ, hag, hsim.defers.step (fun b _ hA => ⟨hal b (.inl hA), rfl⟩), hsim.size, fun k av hk => ?_, ⟨hg.kept, fun rr hrr => ?_, ?_, fun b hb => ?_⟩⟩
  · have hk' : eget (emap (frzN id t l 3) s.E) k = some d := hk
    rw [emap_get] at hk'
    obtain ⟨d', h1, rfl⟩ := Option.map_eq_some_iff.1 hk'
    rw [map_get, hh k d' h1]
    rfl
  · obtain ⟨p', h1, rfl⟩ := List.mem_map.1 hp
    exact frzN_ltd 3 (hE p' h1)
  · obtain ⟨p', h1, rfl⟩ := List.mem_map.1 hp
    have h2 := rdel_ltd (id := id) hR p' h1
    refine ⟨h2.1, ?_⟩
    obtain ⟨q, rr⟩ := p'
    cases rr with
    | row t' l' => trivial
    | box T cs =>
      intro c hc
      obtain ⟨c', h3, rfl⟩ := List.mem_map.1 hc
      exact frzN_ltd 3 (h2.2 c' h3)
  · rw [Env.sub_get, map_get] at hk
    obtain ⟨d', h1, rfl⟩ := Option.map_eq_some_iff.1 hk
    obtain ⟨d, h2, rfl⟩ := Option.map_eq_some_iff.1 h1
    obtain ⟨v, h3, h4⟩ := hsim.slots k (d.sub ρ) (by rw [Env.sub_get, h2]; rfl)
    exact ⟨v, h3, hrel h4⟩
  · obtain ⟨p, h1, rfl⟩ := List.mem_map.1 hrr
    obtain ⟨p', h2, rfl⟩ := List.mem_map.1 h1
    have hm : p'.2.res ρ p'.1 ∈ IRs.res ρ s.R := by
      rw [hi3] at h2
      exact List.mem_map.2 ⟨p', List.mem_of_mem_eraseIdx h2, rfl⟩
    have h3 := hg.res _ hm
    obtain ⟨q, rr⟩ := p'
    cases rr with
    | row t' l' => exact h3.mono (fun b _ hA => ⟨hal b (.inl hA), rfl⟩) (fun _ _ => rfl)
    | box T cs =>
      obtain ⟨us, h4, h5⟩ := h3
      refine ⟨us, h4, by simpa using h5.1, fun j av v q1 q2 => ?_⟩
      rw [List.map_map, List.getElem?_map] at q1
      obtain ⟨c, hc, rfl⟩ := Option.map_eq_some_iff.1 q1
      exact hrel (h5.2 j (c.sub ρ) v (by rw [List.getElem?_map, hc]; rfl) q2)
  · rw [hbk]
    exact hg.dis.sublist ((List.eraseIdx_sublist _ _).filterMap _)
  · rw [hbk] at hb
    exact hg.own b (blks_sub (fun r hr => (List.eraseIdx_sublist _ _).subset hr) b hb)

noncomputable def St.frzL (s : St) (ids : List Nat) : St := match ids with
  | [] => s
  | i :: is => (s.frz i).frzL is
theorem Mt.frzL : ∀ (ids : List Nat) {s : St}, Mt C n s a w → Mt C n (s.frzL ids) a w
  | [], _, h => h
  | i :: is, _, h => Mt.frzL is (h.frz i)

def ownIds : AV → List Nat
  | .own id => [id]
  | .agg cs => cs.filterMap fun c => match c with
    | .own id => some id
    | _ => none
  | _ => []
noncomputable def ownO (E : ET) (x : Operand) : List Nat := match evF E x with
  | some d => ownIds d
  | none => []
/-- what an operation makes data of -/
noncomputable def frzOf (E : ET) : Op → List Nat
  | .buildSlice _ _ ps => ps.toList.flatMap fun p => ownO E p.2
  | .store T x v => match L.fz (Nat.add 1000000 T) with
    | true => ownO E v
    | false => match evF E x with
      | some (.ra _ _ _ _) => ownO E v
      | _ => []
  | .slice _ x _ _ none => ownO E x
  | .call c => match c.callee with
    | .value (.func f) => match L.fz f with
      | true => c.args.toList.flatMap (ownO E)
      | false => []
    | _ => []
  | _ => []

/-! ### what is known of a slot, said otherwise -/

noncomputable def St.putB (s : St) (t : Nat) (b : Bool) : St := { s with E := eput t (.b b) s.E }
theorem Mt.putB {t : Nat} {b : Bool} (h : Mt C n s a w) (ht : eget s.E t = some (.lit (.bool b))) : Mt C n (s.putB t b) a w := by
  obtain ⟨E, hh, hE, hR, ρ, hag, hsim⟩ := h
  refine ⟨E, fun k d hk => ?_, hE, hR, ρ, hag, hsim⟩
  have hk' : eget (eput t (.b b) s.E) k = some d := hk
  rcases eput_get hk' with ⟨rfl, rfl⟩ | ⟨_, h2⟩
  · exact hh _ _ ht
  · exact hh k d h2

/-! ### regions in the order of the text -/

noncomputable def gate (ops : Array Oper) (o : Oper) (s : St) (yes no : St → Option α) : Option α := match o.guard with
  | none => yes s
  | some (j, want) => match (ops[j]?).bind (·.dst) with
    | none => none
    | some t => match eget s.E t with
      | some (.lit (.bool b)) => match b with
        | true => match want with
          | true => yes (s.putB t true)
          | false => no (s.putB t true)
        | false => match want with
          | true => no (s.putB t false)
          | false => yes (s.putB t false)
      | some (.lit (.tuple _)) => no s
      | _ => none

theorem wants_sub {ops : Array Oper} {j t : Nat} {want : Bool} {ρ : Gh} (hg : o.guard = some (j, want)) (hj : (ops[j]?).bind (·.dst) = some t) {E : Env} :
    (∀ b, E.get t = some (.lit (.bool b)) → Wants (E.sub ρ) o ops = some (b == want)) ∧ (∀ vs, E.get t = some (.lit (.tuple vs)) → Wants (E.sub ρ) o ops = some false) := by
  constructor
  · intro b hb
    unfold Wants
    rw [hg]
    simp only [hj, Env.sub_get, hb, Option.map_some, sub_lit]
  · intro vs hb
    unfold Wants
    rw [hg]
    simp only [hj, Env.sub_get, hb, Option.map_some, sub_lit]

theorem gate_ok {ops : Array Oper} {yes no : St → Option α} (h : gate ops o s yes no = some r) (hm : Mt C n s a w) : ∃ s', Mt C n s' a w ∧
    ((Region.wanted o (yielded ops a.tmps) = true ∧ yes s' = some r) ∨ (Region.wanted o (yielded ops a.tmps) = false ∧ no s' = some r)) := by
  unfold gate at h
  split at h
  · rename_i hg
    exact ⟨s, hm, .inl ⟨by simp [Region.wanted, hg], h⟩⟩
  · rename_i j want hg
    split at h
    · cases h
    · rename_i t hj
      have hspec : ∀ {s' : St}, Mt C n s' a w → (∀ b, eget s'.E t = some (.lit (.bool b)) → Region.wanted o (yielded ops a.tmps) = (b == want)) ∧ (∀ vs, eget s'.E t = some (.lit (.tuple vs)) → Region.wanted o (yielded ops a.tmps) = false) := fun {s'} hm' => by
        obtain ⟨E, hh, _, _, ρ, _, hsim⟩ := hm'
        obtain ⟨h1, h2⟩ := wants_sub (ρ := ρ) hg hj (E := E)
        exact ⟨fun b hb => Wants.spec hsim.slots (h1 b (hh _ _ hb)), fun vs hv => Wants.spec hsim.slots (h2 vs (hh _ _ hv))⟩
      split at h
      · rename_i b hb
        have hw := (hspec hm).1 b hb
        split at h
        · split at h
          · exact ⟨_, hm.putB hb, .inl ⟨hw, h⟩⟩
          · exact ⟨_, hm.putB hb, .inr ⟨hw, h⟩⟩
        · split at h
          · exact ⟨_, hm.putB hb, .inr ⟨hw, h⟩⟩
          · exact ⟨_, hm.putB hb, .inl ⟨hw, h⟩⟩
      · rename_i vs hb
        exact ⟨s, hm, .inr ⟨(hspec hm).2 vs hb, h⟩⟩
      · cases h

/-- a choice is made once, and known from then on -/
noncomputable def pickS (o : Op) (s : St) (f : St → Option α) : Option α := match o with
  | .pick (.tmp t) _ _ => match eget s.E t with
    | some (.lit (.bool b)) => match b with
      | true => f (s.putB t true)
      | false => f (s.putB t false)
    | _ => none
  | _ => f s
theorem pickS_ok {op : Op} {f : St → Option α} (h : pickS op s f = some r) (hm : Mt C n s a w) : ∃ s', Mt C n s' a w ∧ f s' = some r := by
  unfold pickS at h
  split at h
  · split at h
    · rename_i b hb
      split at h
      · exact ⟨_, hm.putB hb, h⟩
      · exact ⟨_, hm.putB hb, h⟩
    · cases h
  · exact ⟨s, hm, h⟩

noncomputable def putO (dst : Option Nat) (d : AV) (E : ET) : ET := match dst with
  | none => E
  | some t => eput t d E
/-- the state behind an operation of effect e, part by part -/
noncomputable def appK (dst : Option Nat) (E : ET) (R : IRs) (nx : Nat) (ih : St → (St → Option α) → Option α) (k : St → Option α) (e : Eff) : Option α := match e with
  | .val d => ih ⟨putO dst d E, R, nx⟩ k
  | .new d r => ih ⟨putO dst d E, (nx, r) :: R, nx + 1⟩ k
  | .set id r => ih ⟨putO dst (.lit undef) E, rset id r R, nx⟩ k
  | .grow id r => ih ⟨putO dst (.own nx) E, (nx, r) :: rdel id R, nx + 1⟩ k
  | .all d R' m => ih ⟨putO dst d E, R', m⟩ k
theorem appK_eq (dst : Option Nat) (s : St) (ih : St → (St → Option α) → Option α) (k : St → Option α) : appK dst s.E s.R s.nx ih k = fun e => ih (s.app dst e) k := by
  funext e
  cases e <;> cases dst <;> rfl
noncomputable def rDo2 (P : Program) (F : Orc) (o : Oper) (ih : St → (St → Option α) → Option α) (k : St → Option α) (s : St) : Option α := St.rec (fun E R nx => stepF o.op P F (evF E) (rget R) R nx (appK o.dst E R nx ih k)) s
noncomputable def rDo (P : Program) (F : Orc) (o : Oper) (ih : St → (St → Option α) → Option α) (k : St → Option α) (s : St) : Option α := rDo2 P F o ih k (s.frzL (frzOf s.E o.op))
/-! the same, with one look at the operation -/
abbrev OpK (α : Type) := Program → Orc → Option Nat → ET → IRs → Nat → (St → (St → Option α) → Option α) → (St → Option α) → Option α
abbrev StT (α : Type) := Program → Orc → (Operand → Option AV) → (Nat → Option IR) → IRs → Nat → (Eff → Option α) → Option α
noncomputable def stD (f : StT α) : OpK α := fun P F dst E R nx ih k => f P F (evF E) (rget R) R nx (appK dst E R nx ih k)
noncomputable def stZ (ids : ET → List Nat) (f : StT α) : OpK α := fun P F dst E R nx ih k => St.rec (fun E R nx => f P F (evF E) (rget R) R nx (appK dst E R nx ih k)) (St.frzL ⟨E, R, nx⟩ (ids E))
noncomputable def stPk (c a b : Operand) : OpK α := match c with
  | .tmp t => fun P F dst E R nx ih k => match eget E t with
    | some (.lit (.bool v)) => match v with
      | true => stD (stPic (.tmp t) a b) P F dst (eput t (.b true) E) R nx ih k
      | false => stD (stPic (.tmp t) a b) P F dst (eput t (.b false) E) R nx ih k
    | _ => none
  | c => stD (stPic c a b)
noncomputable def opF (o : Op) : OpK α := match o with
  | .move x => stD (stMov x)
  | .assign x => stD (stMov x)
  | .pick c a b => stPk c a b
  | .binOp b T x y _ => stD (stBin b T x y)
  | .unOp b _ x => stD (stUn b x)
  | .convert T T' x => stD (stCnv T T' x)
  | .nilCheck x => stD (stNil x)
  | .fieldAddr T x i => stD (stFld T x i)
  | .indexAddr T x y => stD (stIdx T x y)
  | .index T x y => stD (stIxa T x y)
  | .load T x => stD (stLd T x)
  | .store T x y => stZ (fun E => frzOf E (.store T x y)) (stSto T x y)
  | .makeFunc f fs cs => stD (stMkf f fs cs)
  | .extract x i => stD (stExt x i)
  | .build T ps => stD (stBld T ps)
  | .buildSlice T n ps => stZ (fun E => frzOf E (.buildSlice T n ps)) (stLit T n ps)
  | .makeSlice T x y => stD (stMk T x y)
  | .alloc T => stD (stAlo T)
  | .box T x => stD (stBox T x)
  | .slice T x lo hi mx => stZ (fun E => frzOf E (.slice T x lo hi mx)) (stSli T x lo hi mx)
  | .call c => stZ (fun E => frzOf E (.call c)) (stCal c)
  | _ => stD stNo
theorem opF_eq (P : Program) (F : Orc) (o : Oper) (s : St) (ih : St → (St → Option α) → Option α) (k : St → Option α) : opF o.op P F o.dst s.E s.R s.nx ih k = pickS o.op s (rDo P F o ih k) := by
  unfold rDo rDo2 pickS
  cases h : o.op <;> first | rfl | skip
  case pick c a b =>
    cases c <;> rfl

noncomputable def rYes (P : Program) (F : Orc) (o : Oper) (ih : St → (St → Option α) → Option α) (k : St → Option α) (s : St) : Option α := St.rec (fun E R nx => opF o.op P F o.dst E R nx ih k) s
noncomputable def rNo (dst : Option Nat) (ih : St → (St → Option α) → Option α) (k : St → Option α) (s : St) : Option α := match dst with
  | some t => ih { s with E := eput t (.lit undef) s.E } k
  | none => ih s k
noncomputable def rOne (P : Program) (F : Orc) (n : Nat) (ops : Array Oper) (o : Oper) (ih : St → (St → Option α) → Option α) (s : St) (k : St → Option α) : Option α := match dstOk n o.dst with
  | true => gate ops o s (rYes P F o ih k) (rNo o.dst ih k)
  | false => none
noncomputable def rexec (P : Program) (F : Orc) (n : Nat) (ops : Array Oper) (l : List Oper) : St → (St → Option α) → Option α := List.rec (fun s k => k s) (fun o _ ih => rOne P F n ops o ih) l

theorem rexec_ok (hF : OrcOk P F) {ops : Array Oper} {k : St → Option α} : ∀ (rest : List Oper) {s : St} {a : Act} {w : World}, rexec P F n ops rest s k = some r → Mt C n s a w →
    wpList P ops (fun e a' w' => e = .normal ∧ a'.defers = a.defers ∧ ∃ s', k s' = some r ∧ Mt C n s' a' w') rest a w
  | [], s, a, w, h, hm => ⟨rfl, rfl, s, h, hm⟩
  | o :: rest, s, a, w, h, hm => by
    change rOne P F n ops o (rexec P F n ops rest) s k = some r at h
    unfold rOne at h
    split at h
    case h_2 => cases h
    rename_i hd
    refine wpList_step fun K' hK => ?_
    have cont : ∀ {s' : St} {a' : Act} {w' : World}, a'.defers = a.defers → rexec P F n ops rest s' k = some r → Mt C n s' a' w' → K' a' w' := fun {s' a' w'} hda h1 h2 => hK _ _ (by
      have := rexec_ok hF rest h1 h2
      rw [hda] at this
      exact this)
    obtain ⟨s1, hm1, ⟨hw, h1⟩ | ⟨hw, h1⟩⟩ := gate_ok h hm
    · rw [if_pos hw]
      have h1' : opF o.op P F o.dst s1.E s1.R s1.nx (rexec P F n ops rest) k = some r := h1
      rw [opF_eq] at h1'
      obtain ⟨s2, hm2, h2⟩ := pickS_ok h1' hm1
      unfold rDo at h2
      have e2 : ∀ s : St, rDo2 P F o (rexec P F n ops rest) k s = stepOp P F (evF s.E) (rget s.R) s.R s.nx o.op (fun e => rexec P F n ops rest (s.app o.dst e) k) := fun s => by
        show stepF o.op P F (evF s.E) (rget s.R) s.R s.nx (appK o.dst s.E s.R s.nx (rexec P F n ops rest) k) = _
        rw [stepF_eq, appK_eq]
      rw [e2] at h2
      have hm3 := Mt.frzL (frzOf s2.E o.op) hm2
      exact stp_wp (K := fun e => rexec P F n ops rest ((s2.frzL (frzOf s2.E o.op)).app o.dst e) k) (r := r) hm3 hd (fun E hs => stepOp_ok hF hs rfl h2) fun a' w' e q1 q2 _ q4 => cont q1 q2 q4
    · rw [if_neg (by rw [hw]; exact Bool.false_ne_true)]
      cases hdst : o.dst with
      | none =>
        rw [hdst] at h1
        exact cont rfl h1 hm1
      | some t =>
        rw [hdst] at h1 hd
        obtain ⟨E, hh, hE, hR, ρ, hag, hsim⟩ := hm1
        exact cont rfl h1 ⟨(t, .lit undef) :: E, hh.put t _, Env.cons_ltd hE (.lit _), hR, ρ, hag, by
          have := hsim.put (av := .lit undef) (v := undef) hd (.lit _)
          show Sim C.C n ((t, AVq.sub ρ (.lit undef)) :: E.sub ρ) _ _ _
          rw [sub_lit]
          exact this⟩
end
end Go.Iv
end
section
set_option linter.unusedSectionVars false
set_option linter.unusedVariables false
set_option linter.unusedSimpArgs false
namespace Go.Iv
variable [U : Uni] [L : UniL]
open Go Go.RowKit

/-! ### rounds of a loop -/

/-- At the end of a round of the loop over c. -/
def InL (P : Program) (c : Code) (Q : Exit → Act → World → Prop) (a : Act) (w : World) : Prop :=
  ∀ (b : Frame) (k : List Item) (cs : List Frame), ∃ e a' w', Q e a' w' ∧ Arrives P (lone (b.at a (.inLoop c :: k)) cs w) b k cs e a' w'

theorem inL_round {P : Program} {c : Code} {Q : Exit → Act → World → Prop} {a : Act} {w : World} (h : c.wp P (Exit.then (InL P c Q) Q) a w) (b : Frame) (k : List Item) (cs : List Frame) :
    ∃ e a' w', Q e a' w' ∧ Arrives P (lone (b.at a (.code c :: .inLoop c :: k)) cs w) b k cs e a' w' := by
  obtain ⟨e, a₁, w₁, hq, harr⟩ := h b (.inLoop c :: k) cs
  cases e with
  | normal =>
    obtain ⟨e₂, a₂, w₂, hq₂, harr₂⟩ := hq b k cs
    exact ⟨e₂, a₂, w₂, hq₂, .of_steps harr harr₂⟩
  | exit id => exact ⟨_, a₁, w₁, hq, .pass (x := .inLoop c) rfl (fun _ _ => .inl (by simp)) harr⟩
  | goto l => exact ⟨_, a₁, w₁, hq, .pass (x := .inLoop c) rfl (fun _ _ => .inl (by simp)) harr⟩
  | ret => exact ⟨_, a₁, w₁, hq, .pass (x := .inLoop c) rfl (fun _ _ => .inl (by simp)) harr⟩
  | panic ch => exact ⟨_, a₁, w₁, hq, .pass (x := .inLoop c) rfl (fun _ _ => .inl (by simp)) harr⟩
  | outgrown => exact ⟨_, a₁, w₁, hq, .pass (x := .inLoop c) rfl (fun _ _ => .inl (by simp)) harr⟩

theorem wp_unroll {P : Program} {c : Code} {Q : Exit → Act → World → Prop} {a : Act} {w : World} (h : c.wp P (Exit.then (InL P c Q) Q) a w) : (Code.loop c).wp P Q a w := fun b k cs =>
  let ⟨e, a', w', hq, harr⟩ := inL_round h b k cs
  ⟨e, a', w', hq, .of_steps (.one step_loop) harr⟩
theorem inL_step {P : Program} {c : Code} {Q : Exit → Act → World → Prop} {a : Act} {w : World} (h : c.wp P (Exit.then (InL P c Q) Q) a w) : InL P c Q a w := fun b k cs =>
  let ⟨e, a', w', hq, harr⟩ := inL_round h b k cs
  ⟨e, a', w', hq, .of_steps (.one step_inLoop) harr⟩

/-! ### code -/

section
variable {α : Type} {r : α} {P : Program} {F : Orc} {C : Cx} {n : Nat}

abbrev Kont (α : Type) := Exit → St → Option α

noncomputable def loopK (k : Kont α) (ih : St → Option α) : Kont α := fun e s => match e with
  | .normal => ih s
  | e => k e s
noncomputable def loopN (b : St → Kont α → Option α) (k : Kont α) (m : Nat) : St → Option α := Nat.rec (fun _ => none) (fun _ ih s => b s (loopK k ih)) m

noncomputable def condB (b : Bool) (t : Nat) (s : St) (x y : St → Option α) : Option α := match b with
  | true => x (s.putB t true)
  | false => y (s.putB t false)
noncomputable def condO (c : Operand) (s : St) (x y : St → Option α) : Option α := match c with
  | .tmp t => match eget s.E t with
    | some (.lit (.bool b)) => condB b t s x y
    | _ => none
  | .const (.bool true) => x s
  | .const (.bool false) => y s
  | _ => none

noncomputable def seqK (y : St → Kont α → Option α) (k : Kont α) : Kont α := fun e s => match e with
  | .normal => y s k
  | e => k e s
noncomputable def blockK (id : Nat) (k : Kont α) : Kont α := fun e s => match e with
  | .exit i => match Nat.beq i id with
    | true => k .normal s
    | false => k (.exit i) s
  | e => k e s
noncomputable def exSkip (s : St) (k : Kont α) : Option α := k .normal s
noncomputable def exSeq (x y : St → Kont α → Option α) (s : St) (k : Kont α) : Option α := x s (seqK y k)
noncomputable def exCond (c : Operand) (x y : St → Kont α → Option α) (s : St) (k : Kont α) : Option α := condO c s (fun s => x s k) (fun s => y s k)
noncomputable def exBlock (id : Nat) (x : St → Kont α → Option α) (s : St) (k : Kont α) : Option α := x s (blockK id k)
noncomputable def exLoop (fuel : Nat) (x : St → Kont α → Option α) (s : St) (k : Kont α) : Option α := loopN x k fuel s
noncomputable def exExit (i : Nat) (s : St) (k : Kont α) : Option α := k (.exit i) s
noncomputable def exRet (s : St) (k : Kont α) : Option α := k .ret s
noncomputable def exNo (_ : St) (_ : Kont α) : Option α := none
/-! ### functions -/

noncomputable def resV (P : Program) (s : St) : ResultVar → Option AV
  | .tmp t => eget s.E t
  | .cell t ty => match eget s.E t with
    | some (.ptr id 0) => match rget s.R id with
      | some (.box _ cs) => match oneB P ty with
        | true => cs[0]?
        | false => match manyB P ty with
          | some m => match Nat.beq cs.length m with
            | true => some (.agg cs)
            | false => none
          | none => none
      | _ => none
    | _ => none
noncomputable def resL (P : Program) (s : St) : List ResultVar → Option (List AV)
  | [] => some []
  | x :: xs => match resV P s x with
    | some d => (resL P s xs).map fun ds => d :: ds
    | none => none
def resA : List AV → AV
  | [d] => d
  | ds => .tup ds

/-- names that stand in d -/
def idsN : Nat → AV → List Nat
  | _, .own id => [id]
  | _, .ptr id _ => [id]
  | _, .ra id _ _ _ => [id]
  | n + 1, .agg cs => cs.flatMap (idsN n)
  | n + 1, .tup cs => cs.flatMap (idsN n)
  | n + 1, .fn _ cs => cs.flatMap (idsN n)
  | _, _ => []
def memB (i : Nat) : List Nat → Bool
  | [] => false
  | j :: js => match Nat.beq i j with
    | true => true
    | false => memB i js
noncomputable def idsR (R : IRs) (ids : List Nat) : List Nat := ids.flatMap fun i => match rget R i with
  | some (.box _ cs) => cs.flatMap (idsN 3)
  | _ => []
noncomputable def reach (R : IRs) : Nat → List Nat → List Nat
  | 0, ids => ids
  | m + 1, ids => ids ++ reach R m (idsR R ids)
/-- what came in, and what d names (the newest names stand first) -/
noncomputable def keepL (nx : Nat) (ids : List Nat) (R : IRs) : IRs := List.rec [] (fun p R ih => Bool.rec (Bool.rec ih (p :: ih) (memB p.1 ids)) (p :: R) (Nat.blt p.1 nx)) R
noncomputable def keepR (R : IRs) (nx : Nat) (d : AV) : IRs := keepL nx (reach R 3 (idsN 3 d)) R

noncomputable def argsT (i : Nat) (l : List AV) : ET → ET := List.rec (fun _ T => T) (fun d _ ih i T => ih (i + 1) (eput i d T)) l i
end
end Go.Iv
end
section
set_option linter.unusedSectionVars false
set_option linter.unusedVariables false
set_option linter.unusedSimpArgs false
namespace Go.Iv
variable [U : Uni]
open Go Go.RowKit

abbrev Fr : Type := Nat → Option AV

/-- What an operation did: into dst it put v; it looked at the slots sl and the names rd; if it has an effect, what the names wr of these named is now Lo. -/
structure Rc where
  dst : Option Nat
  v : AV
  sl : List Nat
  rd : List Nat
  wr : List Nat
  ef : Bool
  Lo : IRs

def outR (rd : List Nat) (R : IRs) : IRs := R.filter fun p => !memB p.1 rd
def inR (rd : List Nat) (R : IRs) : IRs := R.filter fun p => memB p.1 rd
def Rc.F (c : Rc) (f : Fr) : Fr := fun t => if c.dst = some t then some c.v else f t
def Rc.R (c : Rc) (R : IRs) : IRs := match c.ef with
  | true => c.Lo ++ outR c.wr R
  | false => R

def runF : List Rc → List Bool → Fr → Fr
  | c :: cs, b :: bs, f => runF cs bs (match b with | true => c.F f | false => f)
  | _, _, f => f
def runR : List Rc → List Bool → IRs → IRs
  | c :: cs, b :: bs, R => runR cs bs (match b with | true => c.R R | false => R)
  | _, _, R => R

theorem memB_iff {i : Nat} : ∀ {l : List Nat}, memB i l = true ↔ i ∈ l
  | [] => by simp [memB]
  | j :: js => by
    unfold memB
    cases h : Nat.beq i j with
    | true => have := beqT h; subst this; simp
    | false =>
      have hne : i ≠ j := fun e => by rw [e, Nat.beq_refl] at h; cases h
      simp only [List.mem_cons, hne, false_or]
      exact memB_iff
theorem memB_not {i : Nat} {l : List Nat} : memB i l = false ↔ i ∉ l := by
  cases h : memB i l with
  | true => simp [memB_iff.1 h]
  | false => simp only [true_iff]; exact fun hm => by rw [memB_iff.2 hm] at h; cases h

/-- Two operations that neither see nor hide one another's deeds. -/
structure CF (c d : Rc) : Prop where
  ds : ∀ t, c.dst = some t → t ∉ d.sl ∧ d.dst ≠ some t
  sd : ∀ t, d.dst = some t → t ∉ c.sl
  rc : c.ef = true → (∀ i ∈ c.wr, i ∉ d.rd) ∧ (∀ p ∈ c.Lo, p.1 ∉ d.rd) ∧ ∀ p ∈ c.Lo, p.1 ∉ d.wr
  rd : d.ef = true → (∀ i ∈ d.wr, i ∉ c.rd) ∧ (∀ p ∈ d.Lo, p.1 ∉ c.rd) ∧ ∀ p ∈ d.Lo, p.1 ∉ c.wr
theorem CF.symm {c d : Rc} (h : CF c d) : CF d c := ⟨fun t ht => ⟨h.sd t ht, fun e => (h.ds t e).2 ht⟩, fun t ht => (h.ds t ht).1, h.rd, h.rc⟩

theorem in_R {c i : Rc} (h : CF c i) (R : IRs) : inR i.rd (c.R R) = inR i.rd R := by
  unfold Rc.R
  cases he : c.ef with
  | false => rfl
  | true =>
    obtain ⟨h1, h2, _⟩ := h.rc he
    simp only [inR, outR, List.filter_append, List.filter_filter]
    have e1 : c.Lo.filter (fun p => memB p.1 i.rd) = [] := List.filter_eq_nil_iff.2 fun p hp => by simp [memB_not.2 (h2 p hp)]
    rw [e1, List.nil_append]
    refine List.filter_congr fun p _ => ?_
    cases hm : memB p.1 i.rd with
    | false => rfl
    | true =>
      have : memB p.1 c.wr = false := memB_not.2 fun hc => h1 _ hc (memB_iff.1 hm)
      rw [this]; rfl
theorem F_at {c i : Rc} (h : CF c i) (f : Fr) {t : Nat} (ht : t ∈ i.sl) : c.F f t = f t := by
  unfold Rc.F
  split
  · rename_i hd; exact absurd ht (h.ds t hd).1
  · rfl
theorem in_both {c : Rc} {rd : List Nat} {R R' : IRs} (h : inR rd R = inR rd R') : inR rd (c.R R) = inR rd (c.R R') := by
  unfold Rc.R
  cases c.ef with
  | false => exact h
  | true =>
    simp only [inR, outR, List.filter_append, List.filter_filter] at h ⊢
    congr 1
    have e : ∀ R : IRs, R.filter (fun p => memB p.1 rd && !memB p.1 c.wr) = (R.filter fun p => memB p.1 rd).filter fun p => !memB p.1 c.wr := fun R => by
      rw [List.filter_filter]
      exact List.filter_congr fun p _ => Bool.and_comm ..
    rw [e, e, h]

/-- what operation i looks at is the same, whichever of the others, that it neither sees nor is seen by, have come up -/
theorem view_eq {i : Rc} : ∀ (cs : List Rc) (bs bs' : List Bool) (f f' : Fr) (R R' : IRs), bs.length = cs.length → bs'.length = cs.length →
    (∀ (j : Nat) c b b', cs[j]? = some c → bs[j]? = some b → bs'[j]? = some b' → b = b' ∨ CF c i) →
    (∀ t ∈ i.sl, f t = f' t) → inR i.rd R = inR i.rd R' → (∀ t ∈ i.sl, runF cs bs f t = runF cs bs' f' t) ∧ inR i.rd (runR cs bs R) = inR i.rd (runR cs bs' R')
  | [], _, _, f, f', R, R', _, _, _, h1, h2 => ⟨by simpa [runF] using h1, by simpa [runR] using h2⟩
  | c :: cs, [], _, _, _, _, _, hl, _, _, _, _ => by cases hl
  | c :: cs, _ :: _, [], _, _, _, _, _, hl, _, _, _ => by cases hl
  | c :: cs, b :: bs, b' :: bs', f, f', R, R', hl, hl', hb, h1, h2 => by
    have h0 := hb 0 c b b' rfl rfl rfl
    have hrec := fun f f' R R' => view_eq (i := i) cs bs bs' f f' R R' (by simpa using hl) (by simpa using hl') (fun j c b b' q1 q2 q3 => hb (j + 1) c b b' q1 q2 q3)
    unfold runF runR
    refine hrec _ _ _ _ ?_ ?_
    · intro t ht
      rcases h0 with rfl | hcf
      · cases b with
        | false => exact h1 t ht
        | true => show c.F f t = c.F f' t; unfold Rc.F; split <;> first | rfl | exact h1 t ht
      · cases b <;> cases b' <;> simp only [F_at hcf _ ht] <;> exact h1 t ht
    · rcases h0 with rfl | hcf
      · cases b with
        | false => exact h2
        | true => exact in_both h2
      · cases b <;> cases b' <;> simp only [in_R hcf] <;> exact h2

theorem F_comm {c d : Rc} (h : CF c d) (f : Fr) : c.F (d.F f) = d.F (c.F f) := by
  funext t
  unfold Rc.F
  by_cases h1 : c.dst = some t
  · rw [if_pos h1, if_neg (h.ds t h1).2, if_pos h1]
  · by_cases h2 : d.dst = some t
    · rw [if_neg h1, if_pos h2, if_pos h2]
    · rw [if_neg h1, if_neg h2, if_neg h2, if_neg h1]
theorem R_perm {c : Rc} {R R' : IRs} (h : List.Perm R R') : List.Perm (c.R R) (c.R R') := by
  unfold Rc.R
  cases c.ef with
  | false => exact h
  | true => exact (h.filter _).append_left _
theorem R_comm {c d : Rc} (h : CF c d) (R : IRs) : List.Perm (c.R (d.R R)) (d.R (c.R R)) := by
  unfold Rc.R
  cases hc : c.ef with
  | false => cases d.ef <;> exact .refl _
  | true =>
    cases hd : d.ef with
    | false => exact .refl _
    | true =>
      obtain ⟨h1, _, h2⟩ := h.rc hc
      obtain ⟨h3, _, h4⟩ := h.rd hd
      simp only [outR, List.filter_append, List.filter_filter]
      have e1 : d.Lo.filter (fun p => !memB p.1 c.wr) = d.Lo := List.filter_eq_self.2 fun p hp => by simp [memB_not.2 (h4 p hp)]
      have e2 : c.Lo.filter (fun p => !memB p.1 d.wr) = c.Lo := List.filter_eq_self.2 fun p hp => by simp [memB_not.2 (h2 p hp)]
      rw [e1, e2, ← List.append_assoc, ← List.append_assoc]
      refine (List.perm_append_comm).append ?_
      rw [show (R.filter fun a => !memB a.1 c.wr && !memB a.1 d.wr) = R.filter fun a => !memB a.1 d.wr && !memB a.1 c.wr from List.filter_congr fun p _ => Bool.and_comm ..]

/-- an operation's deed, done behind those that come later in the text, is done in its place -/
theorem late {i : Rc} : ∀ (cs : List Rc) (bs : List Bool) (f : Fr) (R R' : IRs), (∀ (j : Nat) c, cs[j]? = some c → bs[j]? = some true → CF i c) → List.Perm R' (i.R R) →
    i.F (runF cs bs f) = runF cs bs (i.F f) ∧ List.Perm (i.R (runR cs bs R)) (runR cs bs R')
  | [], _, f, R, R', _, hp => ⟨rfl, hp.symm⟩
  | _ :: _, [], f, R, R', _, hp => ⟨rfl, hp.symm⟩
  | c :: cs, b :: bs, f, R, R', hb, hp => by
    unfold runF runR
    cases b with
    | false => exact late cs bs f R R' (fun j c q1 q2 => hb (j + 1) c q1 q2) hp
    | true =>
      have hcf := hb 0 c rfl rfl
      have h1 := late cs bs (c.F f) (c.R R) (c.R R') (fun j c q1 q2 => hb (j + 1) c q1 q2) ((R_perm hp).trans (R_comm hcf.symm R))
      refine ⟨?_, h1.2⟩
      rw [h1.1, F_comm hcf]

theorem runF_app : ∀ (pre : List Rc) (bp : List Bool) (cs : List Rc) (bs : List Bool) (f : Fr), bp.length = pre.length → runF (pre ++ cs) (bp ++ bs) f = runF cs bs (runF pre bp f)
  | [], [], _, _, _, _ => rfl
  | _ :: _, [], _, _, _, h => by cases h
  | [], _ :: _, _, _, _, h => by cases h
  | c :: pre, b :: bp, cs, bs, f, h => by
    show runF (pre ++ cs) (bp ++ bs) _ = _
    rw [runF_app pre bp cs bs _ (by simpa using h)]
    rfl
theorem runR_app : ∀ (pre : List Rc) (bp : List Bool) (cs : List Rc) (bs : List Bool) (R : IRs), bp.length = pre.length → runR (pre ++ cs) (bp ++ bs) R = runR cs bs (runR pre bp R)
  | [], [], _, _, _, _ => rfl
  | _ :: _, [], _, _, _, h => by cases h
  | [], _ :: _, _, _, _, h => by cases h
  | c :: pre, b :: bp, cs, bs, R, h => by
    show runR (pre ++ cs) (bp ++ bs) _ = _
    rw [runR_app pre bp cs bs _ (by simpa using h)]
    rfl

/-- Operation number i is ready, and done now. -/
theorem step_sel {cs : List Rc} {bs : List Bool} {i : Nat} {c : Rc} (f : Fr) (R : IRs) (hl : bs.length = cs.length) (hc : cs[i]? = some c) (hb : bs[i]? = some false)
    (hpre : ∀ (j : Nat) d, j < i → cs[j]? = some d → bs[j]? = some false → CF d c) (hpost : ∀ (j : Nat) d, i < j → cs[j]? = some d → bs[j]? = some true → CF d c) :
    (∀ t ∈ c.sl, runF cs bs f t = runF (cs.take i) (List.replicate i true) f t) ∧ inR c.rd (runR cs bs R) = inR c.rd (runR (cs.take i) (List.replicate i true) R) ∧
    c.F (runF cs bs f) = runF cs (bs.set i true) f ∧ List.Perm (c.R (runR cs bs R)) (runR cs (bs.set i true) R) := by
  have hi : i < cs.length := (List.getElem?_eq_some_iff.1 hc).1
  have hib : i < bs.length := by omega
  have ec : cs = cs.take i ++ c :: cs.drop (i + 1) := by
    rw [← (List.getElem?_eq_some_iff.1 hc).2, ← List.drop_eq_getElem_cons hi, List.take_append_drop]
  have eb : bs = bs.take i ++ false :: bs.drop (i + 1) := by
    rw [← (List.getElem?_eq_some_iff.1 hb).2, ← List.drop_eq_getElem_cons hib, List.take_append_drop]
  have lp : (bs.take i).length = (cs.take i).length := by rw [List.length_take, List.length_take]; omega
  have eb2 : bs.set i true = bs.take i ++ true :: bs.drop (i + 1) := by
    rw [List.set_eq_take_append_cons_drop, if_pos hib]
  have hF : runF cs bs f = runF (cs.drop (i + 1)) (bs.drop (i + 1)) (runF (cs.take i) (bs.take i) f) := by
    conv => lhs; rw [ec, eb]
    rw [runF_app _ _ _ _ _ lp]; rfl
  have hR : runR cs bs R = runR (cs.drop (i + 1)) (bs.drop (i + 1)) (runR (cs.take i) (bs.take i) R) := by
    conv => lhs; rw [ec, eb]
    rw [runR_app _ _ _ _ _ lp]; rfl
  have hF2 : runF cs (bs.set i true) f = runF (cs.drop (i + 1)) (bs.drop (i + 1)) (c.F (runF (cs.take i) (bs.take i) f)) := by
    rw [eb2]
    conv => lhs; rw [ec]
    rw [runF_app _ _ _ _ _ lp]; rfl
  have hR2 : runR cs (bs.set i true) R = runR (cs.drop (i + 1)) (bs.drop (i + 1)) (c.R (runR (cs.take i) (bs.take i) R)) := by
    rw [eb2]
    conv => lhs; rw [ec]
    rw [runR_app _ _ _ _ _ lp]; rfl
  have hpo : ∀ (j : Nat) d, (cs.drop (i + 1))[j]? = some d → (bs.drop (i + 1))[j]? = some true → CF d c := fun j d q1 q2 => by
    rw [List.getElem?_drop] at q1 q2
    exact hpost (i + 1 + j) d (by omega) q1 q2
  -- the later ones are not seen
  have v2 := view_eq (i := c) (cs.drop (i + 1)) (bs.drop (i + 1)) (List.replicate (cs.length - (i + 1)) false) (runF (cs.take i) (bs.take i) f) (runF (cs.take i) (bs.take i) f) (runR (cs.take i) (bs.take i) R) (runR (cs.take i) (bs.take i) R)
    (by rw [List.length_drop, List.length_drop]; omega) (by rw [List.length_replicate, List.length_drop]) (fun j d b b' q1 q2 q3 => by
      cases b with
      | true => exact .inr (hpo j d q1 q2)
      | false =>
        rw [List.getElem?_replicate] at q3
        split at q3
        · cases q3; exact .inl rfl
        · cases q3) (fun t _ => rfl) rfl
  have none_F : ∀ (cs : List Rc) (n : Nat) (f : Fr), runF cs (List.replicate n false) f = f := fun cs => by
    induction cs with
    | nil => intro n f; rfl
    | cons d cs ih =>
      intro n f
      cases n with
      | zero => rfl
      | succ n => rw [List.replicate_succ]; exact ih n f
  have none_R : ∀ (cs : List Rc) (n : Nat) (R : IRs), runR cs (List.replicate n false) R = R := fun cs => by
    induction cs with
    | nil => intro n f; rfl
    | cons d cs ih =>
      intro n f
      cases n with
      | zero => rfl
      | succ n => rw [List.replicate_succ]; exact ih n f
  have v1 := view_eq (i := c) (cs.take i) (bs.take i) (List.replicate i true) f f R R lp (by rw [List.length_replicate, List.length_take]; omega) (fun j d b b' q1 q2 q3 => by
      rw [List.getElem?_take] at q1 q2
      rw [List.getElem?_replicate] at q3
      split at q1
      · rename_i hji
        rw [if_pos hji] at q2 q3
        cases q3
        cases b with
        | true => exact .inl rfl
        | false => exact .inr (hpre j d hji q1 q2)
      · cases q1) (fun t _ => rfl) rfl
  refine ⟨fun t ht => ?_, ?_, ?_, ?_⟩
  · rw [hF, v2.1 t ht, none_F, v1.1 t ht]
  · rw [hR, v2.2, none_R, v1.2]
  · rw [hF, hF2]
    exact (late (i := c) _ _ _ (runR (cs.take i) (bs.take i) R) _ (fun j d q1 q2 => (hpo j d q1 q2).symm) (.refl _)).1
  · rw [hR, hR2]
    exact (late (i := c) _ _ (runF (cs.take i) (bs.take i) f) _ _ (fun j d q1 q2 => (hpo j d q1 q2).symm) (.refl _)).2
end Go.Iv
end
section
set_option linter.unusedSectionVars false
set_option linter.unusedVariables false
set_option linter.unusedSimpArgs false
namespace Go.Iv
variable [U : Uni] [L : UniL]
open Go Go.RowKit

/-! ### sets of numbers as0 numbers -/

noncomputable def lm (l : List Nat) : Nat := List.rec 0 (fun t _ ih => Nat.lor ih (Nat.pow 2 t)) l
theorem lm_bit : ∀ (l : List Nat) (t : Nat), (lm l).testBit t = true ↔ t ∈ l
  | [], t => by simp [lm]
  | a :: l, t => by
    show ((lm l) ||| 2 ^ a).testBit t = true ↔ _
    rw [Nat.testBit_or, Bool.or_eq_true, lm_bit l t, Nat.testBit_two_pow]
    simp only [decide_eq_true_eq, List.mem_cons]
    constructor
    · rintro (h | h)
      · exact .inr h
      · exact .inl h.symm
    · rintro (h | h)
      · exact .inr h.symm
      · exact .inl h
theorem and_zero {x y t : Nat} (h : Nat.land x y = 0) (hx : x.testBit t = true) (hy : y.testBit t = true) : False := by
  have h' : x &&& y = 0 := h
  have := Nat.testBit_and x y t
  rw [h', hx, hy] at this
  simp at this

/-! ### which operations wait for which -/

noncomputable def msk (acc : List Nat) (es : List Edge) : Nat := List.rec 0 (fun e _ ih => match Region.binds .any e with
  | true => Nat.lor ih (Nat.lor (Nat.pow 2 e.on) (acc.getD e.on 0))
  | false => ih) es
theorem msk_bit {acc : List Nat} : ∀ {es : List Edge} {j : Nat}, (msk acc es).testBit j = true → ∃ e ∈ es, Region.binds .any e = true ∧ (j = e.on ∨ (acc.getD e.on 0).testBit j = true)
  | [], j, h => by simp [msk] at h
  | e :: es, j, h => by
    change (match Region.binds .any e with
      | true => Nat.lor (msk acc es) (Nat.lor (Nat.pow 2 e.on) (acc.getD e.on 0))
      | false => msk acc es).testBit j = true at h
    cases hb : Region.binds .any e with
    | false =>
      rw [hb] at h
      obtain ⟨e', h1, h2⟩ := msk_bit h
      exact ⟨e', List.mem_cons_of_mem _ h1, h2⟩
    | true =>
      rw [hb] at h
      change ((msk acc es) ||| ((2 ^ e.on) ||| (acc.getD e.on 0))).testBit j = true at h
      rw [Nat.testBit_or, Nat.testBit_or, Bool.or_eq_true, Bool.or_eq_true, Nat.testBit_two_pow] at h
      rcases h with h | h | h
      · obtain ⟨e', h1, h2⟩ := msk_bit h
        exact ⟨e', List.mem_cons_of_mem _ h1, h2⟩
      · exact ⟨e, List.mem_cons_self, hb, .inl (by simp only [decide_eq_true_eq] at h; exact h.symm)⟩
      · exact ⟨e, List.mem_cons_self, hb, .inr h⟩
noncomputable def msks (l : List Oper) : List Nat → List Nat := List.rec (fun acc => acc) (fun o _ ih acc => ih (acc ++ [msk acc o.after.toList])) l

/-- what an operation waits for has come up -/
def Rdy (bs : List Bool) (o : Oper) : Prop := ∀ e ∈ o.after.toList, Region.binds .any e = true → bs[e.on]? = some true
def Closed (ops : List Oper) (bs : List Bool) : Prop := ∀ (i : Nat) o, ops[i]? = some o → bs[i]? = some true → Rdy bs o
def MskOk (ops : List Oper) (acc : List Nat) : Prop := ∀ (i m : Nat) o, acc[i]? = some m → ops[i]? = some o → ∀ bs, Closed ops bs → Rdy bs o → ∀ j, m.testBit j = true → bs[j]? = some true

theorem msks_ok (ops : List Oper) : ∀ (l : List Oper) (acc : List Nat), (∃ pre, ops = pre ++ l ∧ pre.length = acc.length) → MskOk ops acc → MskOk ops (msks l acc)
  | [], acc, _, h => h
  | o :: l, acc, ⟨pre, hp, hl⟩, h => by
    refine msks_ok ops l _ ⟨pre ++ [o], by rw [hp]; simp, by simp [hl]⟩ fun i m o' hm ho bs hc hr j hj => ?_
    rw [List.getElem?_append] at hm
    split at hm
    · exact h i m o' hm ho bs hc hr j hj
    · rename_i hlt
      have hi : i = acc.length := by
        have := (List.getElem?_eq_some_iff.1 hm).1
        simp at this
        omega
      subst hi
      rw [Nat.sub_self] at hm
      cases hm
      have ho' : o' = o := by
        rw [hp, ← hl, List.getElem?_append_right (Nat.le_refl _), Nat.sub_self] at ho
        exact (Option.some.inj ho).symm
      subst ho'
      obtain ⟨e, h1, h2, h3⟩ := msk_bit hj
      have h4 := hr e h1 h2
      rcases h3 with rfl | h3
      · exact h4
      · cases ha : acc[e.on]? with
        | none => rw [List.getD_eq_getElem?_getD, ha] at h3; simp at h3
        | some m' =>
          rw [List.getD_eq_getElem?_getD, ha] at h3
          have hlt' := (List.getElem?_eq_some_iff.1 ha).1
          cases hoe : ops[e.on]? with
          | none =>
            rw [List.getElem?_eq_none_iff, hp, List.length_append] at hoe
            omega
          | some oe => exact h e.on m' oe ha hoe bs hc (hc e.on oe hoe h4) j h3

/-! ### what an operation looks at -/

def tmpOf : Operand → List Nat
  | .tmp t => [t]
  | _ => []
def gslot (ops : Array Oper) (o : Oper) : List Nat := match o.guard with
  | none => []
  | some (j, _) => match (ops[j]?).bind (·.dst) with
    | some t => [t]
    | none => []
def opSlots (ops : Array Oper) (o : Oper) : List Nat := o.op.operands.toList.flatMap tmpOf ++ gslot ops o
/-- may it have an effect? -/
def efk (o : Oper) : Bool := match o.op with
  | .store _ _ _ => true
  | .buildSlice _ _ _ => true
  | .makeSlice _ _ _ => true
  | .alloc _ => true
  | .box _ _ => true
  | .slice _ _ _ _ _ => true
  | .call { callee := .builtin .len, .. } => false
  | .call { callee := .builtin .max, .. } => false
  | .call { callee := .builtin .min, .. } => false
  | .call _ => true
  | _ => false
def dmk : Option Nat → Nat
  | none => 0
  | some t => Nat.pow 2 t
theorem dmk_bit {d : Option Nat} {t : Nat} (h : d = some t) : (dmk d).testBit t = true := by
  subst h
  show (2 ^ t).testBit t = true
  rw [Nat.testBit_two_pow]; simp

structure Sk where
  anc : Nat
  sm : Nat
  dm : Nat
  ef : Bool
/-- operations j before i in the text: is one bound to wait for the other, or do they leave each other's slots alone? -/
def skOk (j : Nat) (a b : Sk) : Bool := b.anc.testBit j || (Nat.beq (Nat.land a.dm b.sm) 0 && Nat.beq (Nat.land a.dm b.dm) 0 && Nat.beq (Nat.land b.dm a.sm) 0)
/-- the pairs whose effects are to be compared -/
noncomputable def skRow (b : Sk) (i : Nat) (l : List Sk) : Nat → Option (List (Nat × Nat)) := List.rec (fun _ => some []) (fun a _ ih j => match skOk j a b with
  | true => match !b.anc.testBit j && (a.ef || b.ef) with
    | true => (ih (j + 1)).map fun ps => (j, i) :: ps
    | false => ih (j + 1)
  | false => none) l
noncomputable def skAll (l : List Sk) : List Sk → Nat → Option (List (Nat × Nat)) := List.rec (fun _ _ => some []) (fun b _ ih pre i => (skRow b i pre 0).bind fun ps => (ih (pre ++ [b]) (i + 1)).map fun qs => ps ++ qs) l

theorem skRow_ok {b : Sk} {i : Nat} : ∀ {l : List Sk} {k : Nat} {ps : List (Nat × Nat)}, skRow b i l k = some ps → ∀ (j : Nat) a, l[j]? = some a → skOk (k + j) a b = true ∧ (b.anc.testBit (k + j) = true ∨ (a.ef || b.ef) = false ∨ (k + j, i) ∈ ps)
  | [], k, ps, _, j, a, h => by cases h
  | a0 :: l, k, ps, hs, j, a, h => by
    change (match skOk k a0 b with
      | true => match !b.anc.testBit k && (a0.ef || b.ef) with
        | true => (skRow b i l (k + 1)).map fun ps => (k, i) :: ps
        | false => skRow b i l (k + 1)
      | false => none) = some ps at hs
    cases h0 : skOk k a0 b with
    | false => rw [h0] at hs; cases hs
    | true =>
      rw [h0] at hs
      simp only at hs
      cases h1 : (!b.anc.testBit k && (a0.ef || b.ef)) with
      | true =>
        rw [h1] at hs
        obtain ⟨ps', h2, rfl⟩ := Option.map_eq_some_iff.1 hs
        cases j with
        | zero => cases h; exact ⟨h0, .inr (.inr List.mem_cons_self)⟩
        | succ j =>
          obtain ⟨h3, h4⟩ := skRow_ok h2 j a h
          rw [show k + 1 + j = k + (j + 1) from by omega] at h3 h4
          exact ⟨h3, h4.imp id (fun h => h.imp id fun h => List.mem_cons_of_mem _ h)⟩
      | false =>
        rw [h1] at hs
        cases j with
        | zero =>
          cases h
          refine ⟨h0, ?_⟩
          simp only [Nat.add_zero]
          cases hb : b.anc.testBit k with
          | true => exact .inl rfl
          | false => rw [hb] at h1; exact .inr (.inl (by simpa using h1))
        | succ j =>
          obtain ⟨h3, h4⟩ := skRow_ok hs j a h
          rw [show k + 1 + j = k + (j + 1) from by omega] at h3 h4
          exact ⟨h3, h4⟩
theorem skAll_ok : ∀ {l pre : List Sk} {k : Nat} {ps : List (Nat × Nat)}, skAll l pre k = some ps → pre.length = k → ∀ (i j : Nat) a b, j < i → k ≤ i → (pre ++ l)[j]? = some a → (pre ++ l)[i]? = some b → skOk j a b = true ∧ (b.anc.testBit j = true ∨ (a.ef || b.ef) = false ∨ (j, i) ∈ ps)
  | [], pre, k, ps, _, hk, i, j, a, b, _, hki, _, hb => by
    rw [List.append_nil] at hb
    have := (List.getElem?_eq_some_iff.1 hb).1
    omega
  | b0 :: l, pre, k, ps, hs, hk, i, j, a, b, hji, hki, ha, hb => by
    change ((skRow b0 k pre 0).bind fun ps => (skAll l (pre ++ [b0]) (k + 1)).map fun qs => ps ++ qs) = some ps at hs
    obtain ⟨p1, h1, hs⟩ := Option.bind_eq_some_iff.1 hs
    obtain ⟨p2, h2, rfl⟩ := Option.map_eq_some_iff.1 hs
    by_cases hik : i = k
    · subst hik
      rw [List.getElem?_append_right (by omega), hk, Nat.sub_self] at hb
      cases hb
      rw [List.getElem?_append_left (by omega)] at ha
      have := skRow_ok h1 j a ha
      rw [Nat.zero_add] at this
      exact ⟨this.1, this.2.imp id fun h => h.imp id fun h => List.mem_append_left _ h⟩
    · have h3 := skAll_ok h2 (by simp [hk]) i j a b hji (by omega) (by simpa using ha) (by simpa using hb)
      exact ⟨h3.1, h3.2.imp id fun h => h.imp id fun h => List.mem_append_right _ h⟩

noncomputable def skOf (ops : Array Oper) (l : List Oper) : List Nat → List Sk := List.rec (fun _ => []) (fun o _ ih ms => match ms with
  | m :: ms => ⟨m, lm (opSlots ops o), dmk o.dst, efk o⟩ :: ih ms
  | [] => []) l
/-- which pairs are to be compared, if the region has no others that could see each other's deeds -/
noncomputable def plan (ops : Array Oper) : Option (List (Nat × Nat)) := skAll (skOf ops ops.toList (msks ops.toList [])) [] 0

theorem msks_len (l : List Oper) : ∀ acc : List Nat, (msks l acc).length = acc.length + l.length := by
  induction l with
  | nil => intro acc; rfl
  | cons o l ih => intro acc; show (msks l (acc ++ [_])).length = _; rw [ih]; simp; omega
theorem skOf_get (ops : Array Oper) : ∀ (l : List Oper) (ms : List Nat) (i : Nat) (o : Oper) (m : Nat), l[i]? = some o → ms[i]? = some m → (skOf ops l ms)[i]? = some ⟨m, lm (opSlots ops o), dmk o.dst, efk o⟩
  | [], _, _, _, _, h, _ => by cases h
  | o0 :: l, [], _, _, _, _, h => by cases h
  | o0 :: l, m0 :: ms, i, o, m, h1, h2 => by
    show (_ :: skOf ops l ms)[i]? = _
    cases i with
    | zero => cases h1; cases h2; rfl
    | succ i => exact skOf_get ops l ms i o m h1 h2

/-- records of the operations of a region, compared -/
def disR (xs : List Nat) (Lo : IRs) (ys : List Nat) : Bool := xs.all (fun i => !memB i ys) && Lo.all fun p => !memB p.1 ys
def cfD (c d : Rc) : Bool := (!c.ef || disR c.wr c.Lo d.rd) && (!d.ef || disR d.wr d.Lo c.rd)
def planOk (ps : List (Nat × Nat)) (cs : List Rc) : Bool := ps.all fun p => match cs[p.1]?, cs[p.2]? with
  | some c, some d => cfD c d
  | _, _ => false

theorem disR_ok {xs ys : List Nat} {Lo : IRs} (h : disR xs Lo ys = true) : (∀ i ∈ xs, i ∉ ys) ∧ ∀ p ∈ Lo, p.1 ∉ ys := by
  unfold disR at h
  simp only [Bool.and_eq_true, List.all_eq_true, Bool.not_eq_true'] at h
  exact ⟨fun i hi => memB_not.1 (h.1 i hi), fun p hp => memB_not.1 (h.2 p hp)⟩

/-- Two operations, of which neither waits for the other, leave each other alone. -/
theorem plan_cf {ops : Array Oper} {ps : List (Nat × Nat)} {cs : List Rc} (hp : plan ops = some ps) (ho : planOk ps cs = true) (hcs : ∀ (i : Nat) c, cs[i]? = some c → ∃ o, ops.toList[i]? = some o ∧ c.dst = o.dst ∧ c.sl = opSlots ops o ∧ (c.ef = true → efk o = true) ∧ ∀ i ∈ c.wr, i ∈ c.rd)
    {i j : Nat} {c d : Rc} (hji : j < i) (hc : cs[j]? = some c) (hd : cs[i]? = some d) :
    CF c d ∨ ∀ bs, Closed ops.toList bs → (∀ o, ops.toList[i]? = some o → Rdy bs o) → bs[j]? = some true := by
  obtain ⟨o1, h1, h2, h3, h4, h5⟩ := hcs j c hc
  obtain ⟨o2, g1, g2, g3, g4, g5⟩ := hcs i d hd
  have hl1 := (List.getElem?_eq_some_iff.1 h1).1
  have hl2 := (List.getElem?_eq_some_iff.1 g1).1
  have hml : (msks ops.toList []).length = ops.toList.length := by rw [msks_len]; simp
  obtain ⟨m1, hm1⟩ : ∃ m, (msks ops.toList [])[j]? = some m := ⟨_, List.getElem?_eq_getElem (by rw [hml]; exact hl1)⟩
  obtain ⟨m2, hm2⟩ : ∃ m, (msks ops.toList [])[i]? = some m := ⟨_, List.getElem?_eq_getElem (by rw [hml]; exact hl2)⟩
  have s1 := skOf_get ops ops.toList _ j o1 m1 h1 hm1
  have s2 := skOf_get ops ops.toList _ i o2 m2 g1 hm2
  obtain ⟨q1, q2⟩ := skAll_ok hp rfl i j _ _ hji (Nat.zero_le _) s1 s2
  have hmsk : MskOk ops.toList (msks ops.toList []) := msks_ok ops.toList ops.toList [] ⟨[], rfl, rfl⟩ fun i m o h => by cases h
  by_cases ha : m2.testBit j = true
  · exact .inr fun bs hcl hr => hmsk i m2 o2 hm2 g1 bs hcl (hr o2 g1) j ha
  · refine .inl ?_
    have ha' : m2.testBit j = false := by simpa using ha
    unfold skOk at q1
    simp only [ha', Bool.false_or, Bool.and_eq_true] at q1
    obtain ⟨⟨r1, r2⟩, r3⟩ := q1
    have r1 := beqT r1
    have r2 := beqT r2
    have r3 := beqT r3
    have hdyn : (c.ef || d.ef) = false ∨ cfD c d = true := by
      rcases q2 with q2 | q2 | q2
      · exact absurd q2 ha
      · simp only [Bool.or_eq_false_iff] at q2
        left
        have e1 : c.ef = false := by
          cases h : c.ef with
          | false => rfl
          | true => exact absurd q2.1 (by rw [h4 h]; simp)
        have e2 : d.ef = false := by
          cases h : d.ef with
          | false => rfl
          | true => exact absurd q2.2 (by rw [g4 h]; simp)
        rw [e1, e2]; rfl
      · right
        have := List.all_eq_true.1 ho _ q2
        simp only [hc, hd] at this
        exact this
    refine ⟨fun t ht => ⟨fun hm => ?_, fun e => ?_⟩, fun t ht hm => ?_, fun he => ?_, fun he => ?_⟩
    · rw [h2] at ht
      rw [g3] at hm
      exact and_zero r1 (dmk_bit ht) ((lm_bit _ _).2 hm)
    · rw [h2] at ht
      rw [g2] at e
      exact and_zero r2 (dmk_bit ht) (dmk_bit e)
    · rw [g2] at ht
      rw [h3] at hm
      exact and_zero r3 (dmk_bit ht) ((lm_bit _ _).2 hm)
    · rcases hdyn with h | h
      · rw [he] at h; simp at h
      · unfold cfD at h
        simp only [he, Bool.and_eq_true, Bool.or_eq_true, Bool.not_eq_true'] at h
        have q := disR_ok (h.1.resolve_left (by simp))
        exact ⟨q.1, q.2, fun p hp hx => q.2 p hp (g5 _ hx)⟩
    · rcases hdyn with h | h
      · rw [he] at h; simp at h
      · unfold cfD at h
        simp only [he, Bool.and_eq_true, Bool.or_eq_true, Bool.not_eq_true'] at h
        have q := disR_ok (h.2.resolve_left (by simp))
        exact ⟨q.1, q.2, fun p hp hx => q.2 p hp (h5 _ hx)⟩
end Go.Iv
end
section
set_option linter.unusedSectionVars false
set_option linter.unusedVariables false
set_option linter.unusedSimpArgs false
namespace Go.Iv
variable [U : Uni] [L : UniL]
open Go Go.RowKit

def IR.Lts (p : Nat → Prop) : IR → Prop
  | .box _ cs => ∀ c ∈ cs, Iv.Lts p c
  | .row _ _ => True
def IRs.Lts (p : Nat → Prop) (R : IRs) : Prop := ∀ q ∈ R, p q.1 ∧ q.2.Lts p
theorem IR.Lts.mono {p q : Nat → Prop} {r : IR} (h : r.Lts p) (hn : ∀ i, p i → q i) : r.Lts q := by
  cases r with
  | box T cs => exact fun c hc => (h c hc).mono hn
  | row t l => trivial
theorem IRs.Lts.mono {p q : Nat → Prop} {R : IRs} (h : IRs.Lts p R) (hn : ∀ i, p i → q i) : IRs.Lts q R := fun x hx => ⟨hn _ (h x hx).1, (h x hx).2.mono hn⟩
theorem IRs.Lts.res {p : Nat → Prop} {R : IRs} {ρ ρ' : Gh} (h : IRs.Lts p R) (ha : Ags p ρ ρ') : IRs.res ρ R = IRs.res ρ' R := List.map_congr_left fun q hq => by
  obtain ⟨h1, h2⟩ := h q hq
  obtain ⟨i, r⟩ := q
  cases r with
  | box T cs => simp only [IR.res]; rw [(ha i h1).2, Iv.Lts.subL h2 ha]
  | row t l => simp only [IR.res]; rw [(ha i h1).1]
theorem IRs.Lts.perm {p : Nat → Prop} {R R' : IRs} (h : IRs.Lts p R) (hp : List.Perm R R') : IRs.Lts p R' := fun q hq => h q (hp.mem_iff.2 hq)
theorem IRs.Ltd.lts {n : Nat} {R : IRs} (h : IRs.Ltd n R) : IRs.Lts (fun i => i < n) R := fun q hq => ⟨(h q hq).1, by
  have := (h q hq).2
  cases hr : q.2 with
  | box T cs => rw [hr] at this; exact this
  | row t l => trivial⟩
theorem IRs.Lts.ltd {n : Nat} {R : IRs} (h : IRs.Lts (fun i => i < n) R) : IRs.Ltd n R := fun q hq => ⟨(h q hq).1, by
  have := (h q hq).2
  cases hr : q.2 with
  | box T cs => rw [hr] at this; exact this
  | row t l => trivial⟩

def locE (f : Fr) (sl : List Nat) : Env := sl.filterMap fun t => (f t).map fun d => (t, d)
theorem locE_get {f : Fr} {t : Nat} {d : AV} : ∀ {sl : List Nat}, (locE f sl).get t = some d → f t = some d
  | [], h => by cases h
  | s :: sl, h => by
    unfold locE at h
    rw [List.filterMap_cons] at h
    cases hs : f s with
    | none =>
      rw [hs] at h
      exact locE_get (sl := sl) h
    | some e =>
      rw [hs] at h
      simp only [Option.map_some] at h
      unfold Env.get at h
      cases hb : Nat.beq s t with
      | true =>
        rw [hb] at h
        cases h
        rw [← beqT hb]
        exact hs
      | false =>
        rw [hb] at h
        exact locE_get (sl := sl) h
theorem locE_of {f : Fr} {t : Nat} {d : AV} : ∀ {sl : List Nat}, t ∈ sl → f t = some d → (locE f sl).get t = some d
  | [], h, _ => by cases h
  | s :: sl, h, hf => by
    unfold locE
    rw [List.filterMap_cons]
    by_cases hst : s = t
    · subst hst
      rw [hf]
      exact Env.get_hit _ _ _
    · have ht : t ∈ sl := (List.mem_cons.1 h).resolve_left fun e => hst e.symm
      cases f s with
      | none => exact locE_of ht hf
      | some e => simp only [Option.map_some]; rw [Env.get_miss _ _ hst]; exact locE_of ht hf
theorem locE_congr {f g : Fr} {sl : List Nat} (h : ∀ t ∈ sl, f t = g t) : locE f sl = locE g sl := by
  unfold locE
  induction sl with
  | nil => rfl
  | cons s sl ih =>
    rw [List.filterMap_cons, List.filterMap_cons, h s List.mem_cons_self, ih fun t ht => h t (List.mem_cons_of_mem _ ht)]

section
variable {P : Program} {C : Cx} {n : Nat} {o : Oper}

/-- What stands in the slots is said by f, what is owned by R, in names of p. -/
def MtS (C : Cg) (n : Nat) (p : Nat → Prop) (f : Fr) (R : IRs) (a : Act) (w : World) : Prop := ∃ (E : Env) (ρ : Gh), (∀ t d, f t = some d → E.get t = some d) ∧ (∀ q ∈ E, Lts p q.2) ∧ IRs.Lts p R ∧ Agr C.n C.ρ ρ ∧ Sim C.C n (E.sub ρ) (IRs.res ρ R) a w

theorem res_perm {ρ : Gh} {R R' : IRs} (h : List.Perm R R') : List.Perm (IRs.res ρ R) (IRs.res ρ R') := h.map _
theorem res_app {ρ : Gh} (R R' : IRs) : IRs.res ρ (R ++ R') = IRs.res ρ R ++ IRs.res ρ R' := List.map_append ..
theorem MtS.perm {C : Cg} {p : Nat → Prop} {f : Fr} {R R' : IRs} {a : Act} {w : World} (h : MtS C n p f R a w) (hp : List.Perm R R') : MtS C n p f R' a w := by
  obtain ⟨E, ρ, h1, h2, h3, h5, h4⟩ := h
  exact ⟨E, ρ, h1, h2, h3.perm hp, h5, h4.perm (res_perm hp)⟩

/-- What an operation yields and owns, seen by itself. -/
def Nlc (nx : Nat) (v : AV) (Ro : IRs) (ρ : Gh) : Option AV → List Res → Prop := fun a σ' => ∃ ρ', Agr nx ρ ρ' ∧ (a = some (v.sub ρ') ∨ a = none ∧ v = .lit undef) ∧ List.Perm σ' (IRs.res ρ' Ro)

theorem wr_perm {wr rd : List Nat} (h : ∀ i ∈ wr, i ∈ rd) (R : IRs) : List.Perm (outR wr (inR rd R) ++ outR rd R) (outR wr R) := by
  have e1 : outR wr (inR rd R) = (outR wr R).filter fun p => memB p.1 rd := by
    simp only [outR, inR, List.filter_filter]
    exact List.filter_congr fun p _ => Bool.and_comm ..
  have e2 : outR rd R = (outR wr R).filter fun p => !memB p.1 rd := by
    simp only [outR, List.filter_filter]
    refine List.filter_congr fun p _ => ?_
    cases hm : memB p.1 rd with
    | true => rfl
    | false =>
      have : memB p.1 wr = false := memB_not.2 fun hw => memB_not.1 hm (h _ hw)
      rw [this]; rfl
  rw [e1, e2]
  exact List.filter_append_perm _ _

theorem loc_wp {C : Cg} {p : Nat → Prop} {f : Fr} {R : IRs} {a : Act} {w : World} {c : Rc} {nx nx' : Nat} {Q : Exit → Act → World → Prop} {K' : Act → World → Prop}
    (hn : C.n ≤ nx) (hm : MtS C n p f R a w) (hdst : c.dst = o.dst) (hd : dstOk n o.dst = true) (hwr : ∀ i ∈ c.wr, i ∈ c.rd) (hloc : ∀ ρ C, Ye P ((locE f c.sl).sub ρ) (IRs.res ρ (inR c.rd R)) o C (Nlc nx c.v (match c.ef with | true => c.Lo ++ outR c.wr (inR c.rd R) | false => inR c.rd R) ρ))
    (hp : ∀ i, p i → ¬ (nx ≤ i ∧ i < nx')) (hv : Ltd nx' c.v) (hLi : IRs.Ltd nx (inR c.rd R)) (hLo : c.ef = true → IRs.Ltd nx' c.Lo)
    (hv' : Lts (fun i => p i ∨ (nx ≤ i ∧ i < nx')) c.v) (hLo' : c.ef = true → IRs.Lts (fun i => p i ∨ (nx ≤ i ∧ i < nx')) c.Lo)
    (hK : ∀ a' w', a'.defers = a.defers → MtS C n (fun i => p i ∨ (nx ≤ i ∧ i < nx')) (c.F f) (c.R R) a' w' → K' a' w') : o.wp P a w K' Q := by
  obtain ⟨E, ρ, h1, h2, h3, h0, hsim0⟩ := hm
  have hpm : List.Perm (inR c.rd R ++ outR c.rd R) R := List.filter_append_perm _ _
  have hsim := hsim0.perm (res_perm (ρ := ρ) hpm.symm)
  rw [res_app] at hsim
  generalize hσi : IRs.res ρ (inR c.rd R) = σi at hsim
  generalize hσr : IRs.res ρ (outR c.rd R) = σr at hsim
  have hg := hsim.good
  have hlt : ∀ b ∈ blks (σi ++ σr), b < w.heap.size := fun b hb => by
    obtain ⟨s, q1, q2⟩ := mem_blks.1 hb
    exact (hg.res s q1).lt q2
  have hal : ∀ b, al C.C (σi ++ σr) b → al ⟨w, al C.C (σi ++ σr), blks σi⟩ σi b := fun b hA => ⟨.inl hA, fun hx => hA.2 (blks_mem_app.2 (.inl hx))⟩
  have hgood : Good ⟨w, al C.C (σi ++ σr), blks σi⟩ σi w := ⟨Kp.refl _ _, fun r hr => (hg.res r (List.mem_append_left _ hr)).mono (fun b _ hA => ⟨hal b hA, rfl⟩) (fun _ _ => rfl), by
    have := hg.dis; rw [blks_app] at this; exact (List.nodup_append.1 this).1, fun b hb => .inl hb⟩
  have hops : Ops (al ⟨w, al C.C (σi ++ σr), blks σi⟩ σi) w ((locE f c.sl).sub ρ) a.eval := fun x u hx => by
    rw [Env.sub_ev] at hx
    obtain ⟨d, hd1, rfl⟩ := Option.map_eq_some_iff.1 hx
    have hE : E.ev x = some d := by
      cases x with
      | tmp t => exact h1 t d (locE_get hd1)
      | _ => exact hd1
    exact (hsim.slots.ops x (d.sub ρ) (by rw [Env.sub_ev, hE]; rfl)).mono fun b _ hA => ⟨hal b hA, rfl⟩
  -- the names behind
  have step : ∀ (ρ' : Gh) (σo : List Res) (w' : World), Agr nx ρ ρ' → List.Perm σo (IRs.res ρ' (match c.ef with | true => c.Lo ++ outR c.wr (inR c.rd R) | false => inR c.rd R)) → Tr ⟨w, al C.C (σi ++ σr), blks σi⟩ (blks σi) σi w σo w' →
      ∃ ρ'' : Gh, Agr C.n C.ρ ρ'' ∧ c.v.sub ρ' = c.v.sub ρ'' ∧ Sim C.C n (E.sub ρ'') (IRs.res ρ'' (c.R R)) a w' ∧ (∀ b, b < w'.heap.size → al ⟨w, al C.C (σi ++ σr), blks σi⟩ σo b → al C.C (IRs.res ρ'' (c.R R)) b) := fun ρ' σo w' ha hσo ht => by
    let ρ'' : Gh := ⟨fun i => if nx ≤ i ∧ i < nx' then ρ'.v i else ρ.v i, fun i => if nx ≤ i ∧ i < nx' then ρ'.b i else ρ.b i⟩
    have hag : Ags p ρ ρ'' := fun i hi => by
      have := hp i hi
      exact ⟨by simp only [ρ'', if_neg this], by simp only [ρ'', if_neg this]⟩
    have hag2 : Agr nx' ρ' ρ'' := fun i hi => by
      by_cases hni : nx ≤ i
      · exact ⟨by simp only [ρ'', if_pos (And.intro hni hi)], by simp only [ρ'', if_pos (And.intro hni hi)]⟩
      · have h0 : ¬ (nx ≤ i ∧ i < nx') := fun h => hni h.1
        obtain ⟨a1, a2⟩ := ha i (by omega)
        exact ⟨by simp only [ρ'', if_neg h0]; exact a1.symm, by simp only [ρ'', if_neg h0]; exact a2.symm⟩
    have hnx : nx ≤ nx' ∨ nx' < nx := by omega
    have hown : ∀ b ∈ blks σo, b ∈ blks σi ∨ w.heap.size ≤ b := ht.good.own
    have hsub : ∀ b, b < w'.heap.size → al ⟨w, al C.C (σi ++ σr), blks σi⟩ σo b → al C.C (σo ++ σr) b := fun b _ hb => by
      obtain ⟨hb1, hb2⟩ := hb
      rcases hb1 with hb1 | hb1 | hb1
      · exact ⟨hb1.1, fun hx => (blks_mem_app.1 hx).elim hb2 (fun h => hb1.2 (blks_mem_app.2 (.inr h)))⟩
      · have hbp : b ∈ blks σi := hb1
        refine ⟨?_, fun hx => (blks_mem_app.1 hx).elim hb2 (fun h => ?_)⟩
        · rcases hg.own b (blks_mem_app.2 (.inl hbp)) with h | h
          · exact .inr (.inl h)
          · exact .inr (.inr h)
        · have hdis := hg.dis
          rw [blks_app] at hdis
          exact (List.nodup_append.1 hdis).2.2 b hbp b h rfl
      · have hbw : w.heap.size ≤ b := hb1
        exact ⟨.inr (.inr (Nat.le_trans hg.kept.size hbw)), fun hx => (blks_mem_app.1 hx).elim hb2 (fun h => by have := hlt b (blks_mem_app.2 (.inr h)); omega)⟩
    have ht2 : Tr C.C (blks σi) (σi ++ σr) w (σo ++ σr) w' := tr_call hg (fun b hA _ => .inl hA) ht (fun r hr => (ht.good.res r hr).mono (fun b hb hA => ⟨hsub b hb hA, rfl⟩) (fun _ _ => rfl))
    have hs2 := hsim.tr ht2
    have hout : IRs.Lts p (outR c.rd R) := fun q hq => h3 q (List.mem_filter.1 hq).1
    have hEs : E.sub ρ = E.sub ρ'' := List.map_congr_left fun q hq => by rw [(h2 q hq).sub hag]
    have hrs : σr = IRs.res ρ'' (outR c.rd R) := by rw [← hσr, hout.res hag]
    have hpo : List.Perm (σo ++ σr) (IRs.res ρ'' (c.R R)) := by
      rw [hrs]
      unfold Rc.R
      cases hce : c.ef with
      | true =>
        rw [hce] at hσo
        simp only at hσo ⊢
        have hin : IRs.Lts p (outR c.wr (inR c.rd R)) := fun q hq => h3 q (List.mem_filter.1 (List.mem_filter.1 hq).1).1
        have hin2 : IRs.Ltd nx (outR c.wr (inR c.rd R)) := fun q hq => hLi q (List.mem_filter.1 hq).1
        have e1 : IRs.res ρ' (outR c.wr (inR c.rd R)) = IRs.res ρ'' (outR c.wr (inR c.rd R)) := by rw [← hin2.res ha, hin.res hag]
        rw [res_app, e1, (hLo hce).res hag2] at hσo
        refine (hσo.append_right _).trans ?_
        rw [List.append_assoc, res_app, ← res_app (outR c.wr (inR c.rd R))]
        exact List.Perm.append_left _ (res_perm (wr_perm hwr R))
      | false =>
        rw [hce] at hσo
        simp only at hσo ⊢
        have hin : IRs.Lts p (inR c.rd R) := fun q hq => h3 q (List.mem_filter.1 hq).1
        have e1 : IRs.res ρ' (inR c.rd R) = IRs.res ρ'' (inR c.rd R) := by rw [← hLi.res ha, hin.res hag]
        rw [e1] at hσo
        refine (hσo.append_right _).trans ?_
        rw [← res_app]
        exact res_perm hpm
    refine ⟨ρ'', h0.trans (fun i hi => ⟨by simp only [ρ'', if_neg (show ¬ (nx ≤ i ∧ i < nx') by omega)], by simp only [ρ'', if_neg (show ¬ (nx ≤ i ∧ i < nx') by omega)]⟩) (Nat.le_refl C.n), hv.sub hag2, by rw [← hEs]; exact hs2.perm hpo, fun b hb hA => al_perm hpo b (hsub b hb hA)⟩
  have fin : ∀ (ρ' : Gh) (σo : List Res) (w' : World) (v : Value), Agr nx ρ ρ' → List.Perm σo (IRs.res ρ' (match c.ef with | true => c.Lo ++ outR c.wr (inR c.rd R) | false => inR c.rd R)) → Tr ⟨w, al C.C (σi ++ σr), blks σi⟩ (blks σi) σi w σo w' →
      Rel (al ⟨w, al C.C (σi ++ σr), blks σi⟩ σo) w' (c.v.sub ρ') v → K' (a.put o.dst v) w' := fun ρ' σo w' v q1 q2 q3 q4 => by
    obtain ⟨ρ'', g1, g2, g3, g4⟩ := step ρ' σo w' q1 q2 q3
    have hR' : IRs.Lts (fun i => p i ∨ (nx ≤ i ∧ i < nx')) (c.R R) := by
      unfold Rc.R
      cases hce : c.ef with
      | false => exact h3.mono fun i hi => .inl hi
      | true => exact fun q hq => (List.mem_append.1 hq).elim (hLo' hce q) fun hq => ⟨.inl (h3 q (List.mem_filter.1 hq).1).1, (h3 q (List.mem_filter.1 hq).1).2.mono fun i hi => .inl hi⟩
    refine hK _ _ (by cases o.dst <;> rfl) ?_
    rw [g2] at q4
    cases hdo : o.dst with
    | none => exact ⟨E, ρ'', fun t d ht => h1 t d (by unfold Rc.F at ht; rw [hdst, hdo] at ht; simpa using ht), fun q hq => (h2 q hq).mono fun i hi => .inl hi, hR', g1, g3⟩
    | some t =>
      refine ⟨(t, c.v) :: E, ρ'', fun s d hs => ?_, fun q hq => ?_, hR', g1, ?_⟩
      · unfold Rc.F at hs
        rw [hdst, hdo] at hs
        by_cases hts : t = s
        · subst hts
          rw [if_pos rfl] at hs
          cases hs
          exact Env.get_hit _ _ _
        · rw [if_neg (fun e => hts (Option.some.inj e))] at hs
          rw [Env.get_miss _ _ hts]
          exact h1 s d hs
      · rcases List.mem_cons.1 hq with rfl | hq
        · exact hv'
        · exact (h2 q hq).mono fun i hi => .inl hi
      · rw [hdo] at hd
        exact g3.put hd (q4.mono fun b hb hA => ⟨g4 b hb hA, rfl⟩)
  unfold Oper.wp
  subst hσi
  rcases hloc ρ _ w a.eval hgood hops with ⟨v, w', av, σ', ⟨ρ', q1, q2, q3⟩, r1, r2, r3⟩ | ⟨w', σ', ⟨ρ', q1, q2, q3⟩, r1, r2⟩ | ⟨g, args, r1, r2⟩
  · rw [r2]
    rcases q2 with q2 | ⟨q2, _⟩
    · cases q2; exact fin ρ' σ' w' v q1 q3 r1 r3
    · cases q2
  · rw [r2]
    rcases q2 with q2 | ⟨_, q2⟩
    · cases q2
    · exact fin ρ' σ' w' undef q1 q3 r1 (by rw [q2, sub_lit]; exact .lit _)
  · rw [r1]
    refine Calls.mono r2 fun ee w' ⟨v, av, σ', q0, ⟨ρ', q1, q2, q3⟩, s1, s2⟩ => ?_
    subst q0
    rcases q2 with q2 | ⟨q2, _⟩
    · cases q2; exact fin ρ' σ' w' v q1 q3 s1 s2
    · cases q2
end
end Go.Iv
end
section
set_option linter.unusedSectionVars false
set_option linter.unusedVariables false
set_option linter.unusedSimpArgs false
namespace Go.Iv
variable [U : Uni] [L : UniL]
open Go Go.RowKit

/-! ### what is given up, seen by itself -/

section
variable {P : Program} {o : Oper} {C : Cx} {N : Option AV → List Res → Prop}

theorem Ye.frz1 {E : Env} {R : IRs} {ρ : Gh} {id t : Nat} {l : List (U.Dat t)} (hr : rget R id = some (.row t l))
    (h : Ye P (Env.sub ρ (E.map fun p => (p.1, frzN id t l 3 p.2))) (IRs.res ρ ((rdel id R).map fun p => (p.1, frzR id t l p.2))) o C N) : Ye P (E.sub ρ) (IRs.res ρ R) o C N := fun w ϱ hg hρ => by
  obtain ⟨i, hi1, _, hi3⟩ := rget_idx hr
  have hres := res_get (ρ := ρ) hi1
  have hd : Hd (al C (IRs.res ρ R)) [.row (ρ.v id) t l] w := ⟨fun r hr => by
      rw [List.mem_singleton] at hr
      rw [hr]
      exact hg.res _ (List.mem_of_getElem? hres), fun b hb hA => hA.2 (by
      obtain ⟨r, h1, h2⟩ := mem_blks.1 hb
      rw [List.mem_singleton] at h1
      rw [h1] at h2
      exact mem_blks.2 ⟨_, List.mem_of_getElem? hres, h2⟩)⟩
  have hle := al_erase (C := C) hres hg
  have hbk : blks (IRs.res ρ ((rdel id R).map fun p => (p.1, frzR id t l p.2))) = blks ((IRs.res ρ R).eraseIdx i) := by
    rw [← res_erase, ← hi3]
    unfold blks IRs.res
    rw [List.map_map, List.filterMap_map, List.filterMap_map]
    congr 1
    funext p
    obtain ⟨q, rr⟩ := p
    cases rr <;> rfl
  have hal : ∀ b, (al C (IRs.res ρ R) b ∨ b ∈ blks [Res.row (ρ.v id) t l]) → al C (IRs.res ρ ((rdel id R).map fun p => (p.1, frzR id t l p.2))) b := fun b hb => by
    have := hle b hb
    exact ⟨this.1, by rw [hbk]; exact this.2⟩
  have hrel : ∀ {d : AV} {v : Value}, Rel (al C (IRs.res ρ R)) w (d.sub ρ) v → Rel (al C (IRs.res ρ ((rdel id R).map fun p => (p.1, frzR id t l p.2)))) w ((frzN id t l 3 d).sub ρ) v := fun h =>
    (frzN_rel hd 3 h).mono fun b _ hA => ⟨hal b hA, rfl⟩
  have hsubb : ∀ b ∈ blks (IRs.res ρ ((rdel id R).map fun p => (p.1, frzR id t l p.2))), b ∈ blks (IRs.res ρ R) := fun b hb => by
    rw [hbk] at hb
    exact blks_sub (fun r hr => (List.eraseIdx_sublist _ _).subset hr) b hb
  have hg' : Good C (IRs.res ρ ((rdel id R).map fun p => (p.1, frzR id t l p.2))) w := by
    refine ⟨hg.kept, fun rr hrr => ?_, ?_, fun b hb => hg.own b (hsubb b hb)⟩
    · obtain ⟨p, h1, rfl⟩ := List.mem_map.1 hrr
      obtain ⟨p', h2, rfl⟩ := List.mem_map.1 h1
      have hm : p'.2.res ρ p'.1 ∈ IRs.res ρ R := by
        rw [hi3] at h2
        exact List.mem_map.2 ⟨p', List.mem_of_mem_eraseIdx h2, rfl⟩
      have h3 := hg.res _ hm
      obtain ⟨q, rr⟩ := p'
      cases rr with
      | row t' l' => exact h3.mono (fun b _ hA => ⟨hal b (.inl hA), rfl⟩) (fun _ _ => rfl)
      | box T cs =>
        obtain ⟨us, h4, h5⟩ := h3
        refine ⟨us, h4, by simpa using h5.1, fun j av v q1 q2 => ?_⟩
        rw [List.map_map, List.getElem?_map] at q1
        obtain ⟨c, hc, rfl⟩ := Option.map_eq_some_iff.1 q1
        exact hrel (h5.2 j (c.sub ρ) v (by rw [List.getElem?_map, hc]; rfl) q2)
    · rw [hbk]
      exact hg.dis.sublist ((List.eraseIdx_sublist _ _).filterMap _)
  have hops : Ops (al C (IRs.res ρ ((rdel id R).map fun p => (p.1, frzR id t l p.2)))) w (Env.sub ρ (E.map fun p => (p.1, frzN id t l 3 p.2))) ϱ := fun x u hx => by
    cases x with
    | tmp k =>
      have hx' : Env.get (Env.sub ρ (E.map fun p => (p.1, frzN id t l 3 p.2))) k = some u := hx
      rw [Env.sub_get, map_get] at hx'
      obtain ⟨d', h1, rfl⟩ := Option.map_eq_some_iff.1 hx'
      obtain ⟨d, h2, rfl⟩ := Option.map_eq_some_iff.1 h1
      exact hrel (hρ (.tmp k) (d.sub ρ) (by show Env.get (E.sub ρ) k = _; rw [Env.sub_get, h2]; rfl))
    | const v => exact (hρ (.const v) u hx).mono fun b _ hA => ⟨hal b (.inl hA), rfl⟩
    | global g => exact (hρ (.global g) u hx).mono fun b _ hA => ⟨hal b (.inl hA), rfl⟩
    | func f => exact (hρ (.func f) u hx).mono fun b _ hA => ⟨hal b (.inl hA), rfl⟩
  have htr : ∀ {σ' : List Res} {w' : World}, Tr C (blks (IRs.res ρ ((rdel id R).map fun p => (p.1, frzR id t l p.2)))) (IRs.res ρ ((rdel id R).map fun p => (p.1, frzR id t l p.2))) w σ' w' → Tr C (blks (IRs.res ρ R)) (IRs.res ρ R) w σ' w' := fun h =>
    ⟨h.good, ⟨h.kp.os, h.kp.tape, h.kp.output, h.kp.size, fun k hk hn => h.kp.block k hk fun hx => hn (hsubb k hx)⟩, fun b hb hA => ⟨(h.al b hb (hal b (.inl hA))).1, hA.2⟩⟩
  rcases h w ϱ hg' hops with ⟨v, w', av, σ', h1, h2, h3, h4⟩ | ⟨w', σ', h1, h2, h3⟩ | ⟨f, args, h1, h2⟩
  · exact .inl ⟨v, w', av, σ', h1, htr h2, h3, h4⟩
  · exact .inr (.inl ⟨w', σ', h1, htr h2, h3⟩)
  · exact .inr (.inr ⟨f, args, h1, h2.mono fun e w' ⟨v, av, σ', q1, q2, q3, q4⟩ => ⟨v, av, σ', q1, q2, htr q3, q4⟩⟩)

def HoldL (sl : List Nat) (T : ET) (E : Env) : Prop := ∀ t ∈ sl, ∀ d, eget T t = some d → E.get t = some d

theorem Ye.frzL {sl : List Nat} {nx : Nat} {ρ : Gh} : ∀ (ids : List Nat) (T : ET) (E : Env) (R : IRs), HoldL sl T E → E.Ltd nx → IRs.Ltd nx R →
    (∀ E', HoldL sl (St.frzL ⟨T, R, nx⟩ ids).E E' → E'.Ltd nx → IRs.Ltd nx (St.frzL ⟨T, R, nx⟩ ids).R → Ye P (E'.sub ρ) (IRs.res ρ (St.frzL ⟨T, R, nx⟩ ids).R) o C N) → Ye P (E.sub ρ) (IRs.res ρ R) o C N
  | [], T, E, R, hh, hE, hR, h => h E hh hE hR
  | i :: ids, T, E, R, hh, hE, hR, h => by
    have e0 : St.frzL ⟨T, R, nx⟩ (i :: ids) = (St.frz ⟨T, R, nx⟩ i).frzL ids := rfl
    rw [e0] at h
    have key : ∀ s : St, s.nx = nx → s = ⟨s.E, s.R, nx⟩ := fun s hs => by obtain ⟨a, b, c⟩ := s; simp only at hs; rw [hs]
    cases hr : rget R i with
    | none =>
      have e1 : St.frz ⟨T, R, nx⟩ i = ⟨T, R, nx⟩ := by unfold St.frz; simp only [hr]
      rw [e1] at h
      exact Ye.frzL ids T E R hh hE hR h
    | some rr =>
      cases rr with
      | box T0 cs =>
        have e1 : St.frz ⟨T, R, nx⟩ i = ⟨T, R, nx⟩ := by unfold St.frz; simp only [hr]
        rw [e1] at h
        exact Ye.frzL ids T E R hh hE hR h
      | row t l =>
        have e1 : St.frz ⟨T, R, nx⟩ i = ⟨emap (frzN i t l 3) T, (rdel i R).map fun p => (p.1, frzR i t l p.2), nx⟩ := by unfold St.frz; simp only [hr]
        rw [e1] at h
        refine Ye.frz1 hr (Ye.frzL ids _ _ _ (fun k hk d hd => ?_) (fun p hp => ?_) (fun p hp => ?_) h)
        · rw [emap_get] at hd
          obtain ⟨d', h1, rfl⟩ := Option.map_eq_some_iff.1 hd
          rw [map_get, hh k hk d' h1]
          rfl
        · obtain ⟨p', h1, rfl⟩ := List.mem_map.1 hp
          exact frzN_ltd 3 (hE p' h1)
        · obtain ⟨p', h1, rfl⟩ := List.mem_map.1 hp
          have h2 := rdel_ltd (id := i) hR p' h1
          refine ⟨h2.1, ?_⟩
          obtain ⟨q, rr⟩ := p'
          cases rr with
          | row t' l' => trivial
          | box T0 cs =>
            intro c hc
            obtain ⟨c', h3, rfl⟩ := List.mem_map.1 hc
            exact frzN_ltd 3 (h2.2 c' h3)
end

/-! ### one operation -/

noncomputable def evL (sl : List Nat) (T : ET) : Operand → Option AV
  | .tmp t => match memB t sl with
    | true => eget T t
    | false => none
  | x => evF T x
noncomputable def lK (R1 : IRs) (nx : Nat) (fz : Bool) (e : Eff) : Option (AV × Bool × IRs × Nat) := some (match e.vl nx with
  | some d => d
  | none => .lit undef, match e with
  | .val _ => fz
  | _ => true, e.R R1 nx, e.nx nx)
noncomputable def lrun2 (P : Program) (F : Orc) (o : Oper) (sl : List Nat) (ids : List Nat) (s : St) : Option (AV × Bool × IRs × Nat) := St.rec (fun E1 R1 nx1 => stepF o.op P F (evL sl E1) (rget R1) R1 nx1 (lK R1 nx1 (!ids.isEmpty))) (s.frzL ids)
noncomputable def lrun (P : Program) (F : Orc) (o : Oper) (sl : List Nat) (E : ET) (Rl : IRs) (nx : Nat) : Option (AV × Bool × IRs × Nat) := lrun2 P F o sl (frzOf E o.op) ⟨E, Rl, nx⟩

noncomputable def lrunK2 {α : Type} (P : Program) (F : Orc) (o : Oper) (sl : List Nat) (ids : List Nat) (D : AV × Bool × IRs × Nat → Option α) (s : St) : Option α := St.rec (fun E1 R1 nx1 => stepF o.op P F (evL sl E1) (rget R1) R1 nx1 (fun e => D (match e.vl nx1 with
  | some d => d
  | none => .lit undef, match e with
  | .val _ => (!ids.isEmpty)
  | _ => true, e.R R1 nx1, e.nx nx1))) (s.frzL ids)
/-- the same, and what comes of it -/
noncomputable def lrunK {α : Type} (P : Program) (F : Orc) (o : Oper) (sl : List Nat) (E : ET) (Rl : IRs) (nx : Nat) (D : AV × Bool × IRs × Nat → Option α) : Option α := lrunK2 P F o sl (frzOf E o.op) D ⟨E, Rl, nx⟩
theorem lrun_nat {α : Type} {P : Program} {F : Orc} (hN : OrcNat F) {o : Oper} {sl : List Nat} {E : ET} {Rl : IRs} {nx : Nat} (D : AV × Bool × IRs × Nat → Option α) : (lrun P F o sl E Rl nx).bind D = lrunK P F o sl E Rl nx D := by
  unfold lrun lrunK lrun2 lrunK2
  generalize St.frzL ⟨E, Rl, nx⟩ (frzOf E o.op) = s1
  obtain ⟨E1, R1, n1⟩ := s1
  exact stepF_nat D hN ..
theorem frzL_nx : ∀ (ids : List Nat) (s : St), (s.frzL ids).nx = s.nx
  | [], s => rfl
  | i :: ids, s => by
    show ((s.frz i).frzL ids).nx = s.nx
    rw [frzL_nx ids]
    unfold St.frz
    split <;> rfl

theorem lrun_ok {P : Program} {F : Orc} {o : Oper} {sl : List Nat} {T : ET} {E : Env} {Rl Lo : IRs} {nx nx' : Nat} {v : AV} {ef : Bool} (hF : OrcOk P F) (h : lrun P F o sl T Rl nx = some (v, ef, Lo, nx')) (hh : HoldL sl T E) (hE : E.Ltd nx) (hR : IRs.Ltd nx Rl) :
    (∀ ρ C, Ye P (E.sub ρ) (IRs.res ρ Rl) o C (Nlc nx v Lo ρ)) ∧ (ef = false → ∀ ρ C, Ye P (E.sub ρ) (IRs.res ρ Rl) o C (Nlc nx v Rl ρ)) := by
  unfold lrun lrun2 at h
  generalize hs : St.frzL ⟨T, Rl, nx⟩ (frzOf T o.op) = s1 at h
  have hnx : s1.nx = nx := by rw [← hs, frzL_nx]
  obtain ⟨E1, R1, n1⟩ := s1
  simp only at hnx
  subst hnx
  have h' : stepF o.op P F (evL sl E1) (rget R1) R1 n1 (lK R1 n1 (!(frzOf T o.op).isEmpty)) = some (v, ef, Lo, nx') := h
  rw [stepF_eq] at h'
  have main : ∀ ρ C (Ro : IRs), (∀ e : Eff, lK R1 n1 (!(frzOf T o.op).isEmpty) e = some (v, ef, Lo, nx') → e.R R1 n1 = Ro) → Ye P (E.sub ρ) (IRs.res ρ Rl) o C (Nlc n1 v Ro ρ) := fun ρ C Ro hRo => by
    refine Ye.frzL (sl := sl) (frzOf T o.op) T E Rl hh hE hR fun E' hh' hE' hR' => ?_
    rw [hs] at hh' hR' ⊢
    have hsee : See (evL sl E1) (rget R1) n1 E' R1 := ⟨fun x d hx => by
      cases x with
      | tmp t =>
        unfold evL at hx
        simp only at hx
        split at hx
        · rename_i hm; exact hh' t (memB_iff.1 hm) d hx
        · cases hx
      | _ => exact hx, fun _ _ h => h, hE', hR'⟩
    have hst := stepOp_ok (o := o) hF hsee rfl h' ρ C
    intro w ϱ hg hρ
    have conv : ∀ a σ', Nx R1 n1 (lK R1 n1 (!(frzOf T o.op).isEmpty)) (v, ef, Lo, nx') ρ a σ' → Nlc n1 v Ro ρ a σ' := fun a σ' ⟨e, q1, q2, q3, q4, ρ', q5, q6, q7⟩ => by
      refine ⟨ρ', q5, ?_, by rw [← hRo e q1]; exact q7⟩
      unfold lK at q1
      simp only [Option.some.injEq, Prod.mk.injEq] at q1
      cases hv : e.vl n1 with
      | some d =>
        rw [hv] at q1 q6
        left
        rw [q6, ← q1.1]
        rfl
      | none =>
        rw [hv] at q1 q6
        right
        exact ⟨q6, q1.1.symm⟩
    rcases hst w ϱ hg hρ with ⟨v', w', av, σ', h1, h2, h3, h4⟩ | ⟨w', σ', h1, h2, h3⟩ | ⟨f, args, h1, h2⟩
    · exact .inl ⟨v', w', av, σ', conv _ _ h1, h2, h3, h4⟩
    · exact .inr (.inl ⟨w', σ', conv _ _ h1, h2, h3⟩)
    · exact .inr (.inr ⟨f, args, h1, h2.mono fun e w' ⟨v', av, σ', q1, q2, q3, q4⟩ => ⟨v', av, σ', q1, conv _ _ q2, q3, q4⟩⟩)
  refine ⟨fun ρ C => main ρ C Lo fun e he => ?_, fun hef ρ C => main ρ C Rl fun e he => ?_⟩
  · unfold lK at he
    simp only [Option.some.injEq, Prod.mk.injEq] at he
    exact he.2.2.1
  · unfold lK at he
    simp only [Option.some.injEq, Prod.mk.injEq] at he
    cases e with
    | val d =>
      have hemp : frzOf T o.op = [] := by
        have h2 : (!(frzOf T o.op).isEmpty) = false := by rw [← hef]; exact he.2.1
        simpa using h2
      rw [hemp] at hs
      have : (⟨T, Rl, n1⟩ : St) = ⟨E1, R1, n1⟩ := hs
      exact (St.mk.inj this).2.1.symm
    | _ => exact absurd (he.2.1.trans hef) (by simp)
end Go.Iv
end
