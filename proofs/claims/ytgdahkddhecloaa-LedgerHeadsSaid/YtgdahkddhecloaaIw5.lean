/- An interpreter over names of what is owned: steps, regions in the order of the text. Program-independent. -/
import Derived.Test.YtgdahkddhecloaaIw4
set_option linter.unusedSectionVars false
set_option linter.unusedVariables false
set_option linter.unusedSimpArgs false
namespace Go.Iv
variable [U : Uni] [L : UniL]
open Go Go.RowKit

/-! ### one operation -/

def pureK {α : Type} (K : Eff → Option α) (d : AV) : Option α := K (.val d)

def stepOp {α : Type} (P : Program) (F : Orc) (ev : Operand → Option AV) (rd : Nat → Option IR) (R : IRs) (nx : Nat) (o : Op) (K : Eff → Option α) : Option α := match o with
  | .move x => (ev x).bind (pureK K)
  | .assign x => (ev x).bind (pureK K)
  | .pick c a b => match ev c with
    | some (.lit (.bool true)) => (ev a).bind (pureK K)
    | some (.lit (.bool false)) => (ev b).bind (pureK K)
    | _ => none
  | .binOp b T x y _ => binV P rd b T (ev x) (ev y) (pureK K)
  | .unOp b _ x => unV b (ev x) (pureK K)
  | .convert T T' x => cnvV P rd T T' (ev x) (pureK K)
  | .nilCheck x => nilV (ev x) (pureK K)
  | .fieldAddr T x i => fldV P T i (ev x) (pureK K)
  | .indexAddr T x y => idxV P rd T (ev x) (ev y) (pureK K)
  | .index T x y => ixaV P T (ev x) (ev y) (pureK K)
  | .load T x => ldV P rd T (ev x) (pureK K)
  | .store T x y => stoE P rd T (ev x) (ev y) K
  | .makeFunc f fs cs => mkfV ev f fs.toList cs.toList (pureK K)
  | .extract x i => extV i (ev x) (pureK K)
  | .build T ps => bldV P ev rd T ps.toList (pureK K)
  | .buildSlice T n ps => litE P ev rd nx T n ps.toList K
  | .makeSlice T x y => mkE P nx T (ev x) (ev y) K
  | .alloc T => aloE P nx T K
  | .box T x => boxE rd nx T (ev x) K
  | .slice T x lo hi mx => match mx with
    | none => cutV P T (ev x) (lo.map ev) (hi.map ev) (pureK K)
    | some (.const (.int _ 0)) => match lo, hi with
      | none, some (.const (.int _ 0)) => emE P nx T (ev x) K
      | _, _ => none
    | _ => none
  | .call { callee := .builtin .len, args := as, argTypes := ts } => match as.toList, ts.toList with
    | [x], [T] => lenV P rd T (ev x) (pureK K)
    | _, _ => none
  | .call { callee := .builtin .max, args := as, argTypes := ts } => match as.toList, ts.toList with
    | [x, y], [_, _] => mnV true [ev x, ev y] (pureK K)
    | _, _ => none
  | .call { callee := .builtin .min, args := as, argTypes := ts } => match as.toList, ts.toList with
    | [x, y], [_, _] => mnV false [ev x, ev y] (pureK K)
    | _, _ => none
  | .call { callee := .builtin .append, args := as, argTypes := ts } => match as.toList, ts.toList with
    | [x, y], [T, T'] => appE P rd nx T T' (ev x) (ev y) K
    | _, _ => none
  | .call { callee := .value x, args := as, argTypes := _ } => calE F ev R nx (ev x) as.toList K
  | _ => none

/-! ### the same, quickly: each operation's own term is small -/

section
variable {α : Type}
def stMov (x : Operand) (_ : Program) (_ : Orc) (ev : Operand → Option AV) (_ : Nat → Option IR) (_ : IRs) (_ : Nat) (K : Eff → Option α) : Option α := (ev x).bind (pureK K)
def stPic (c a b : Operand) (_ : Program) (_ : Orc) (ev : Operand → Option AV) (_ : Nat → Option IR) (_ : IRs) (_ : Nat) (K : Eff → Option α) : Option α := match ev c with
  | some (.lit (.bool true)) => (ev a).bind (pureK K)
  | some (.lit (.bool false)) => (ev b).bind (pureK K)
  | _ => none
def stBin (b : BinOp) (T : TypeId) (x y : Operand) (P : Program) (_ : Orc) (ev : Operand → Option AV) (rd : Nat → Option IR) (_ : IRs) (_ : Nat) (K : Eff → Option α) : Option α := binV P rd b T (ev x) (ev y) (pureK K)
def stUn (b : UnOp) (x : Operand) (_ : Program) (_ : Orc) (ev : Operand → Option AV) (_ : Nat → Option IR) (_ : IRs) (_ : Nat) (K : Eff → Option α) : Option α := unV b (ev x) (pureK K)
def stCnv (T T' : TypeId) (x : Operand) (P : Program) (_ : Orc) (ev : Operand → Option AV) (rd : Nat → Option IR) (_ : IRs) (_ : Nat) (K : Eff → Option α) : Option α := cnvV P rd T T' (ev x) (pureK K)
def stNil (x : Operand) (_ : Program) (_ : Orc) (ev : Operand → Option AV) (_ : Nat → Option IR) (_ : IRs) (_ : Nat) (K : Eff → Option α) : Option α := nilV (ev x) (pureK K)
def stFld (T : TypeId) (x : Operand) (i : Nat) (P : Program) (_ : Orc) (ev : Operand → Option AV) (_ : Nat → Option IR) (_ : IRs) (_ : Nat) (K : Eff → Option α) : Option α := fldV P T i (ev x) (pureK K)
def stIdx (T : TypeId) (x y : Operand) (P : Program) (_ : Orc) (ev : Operand → Option AV) (rd : Nat → Option IR) (_ : IRs) (_ : Nat) (K : Eff → Option α) : Option α := idxV P rd T (ev x) (ev y) (pureK K)
def stIxa (T : TypeId) (x y : Operand) (P : Program) (_ : Orc) (ev : Operand → Option AV) (_ : Nat → Option IR) (_ : IRs) (_ : Nat) (K : Eff → Option α) : Option α := ixaV P T (ev x) (ev y) (pureK K)
def stLd (T : TypeId) (x : Operand) (P : Program) (_ : Orc) (ev : Operand → Option AV) (rd : Nat → Option IR) (_ : IRs) (_ : Nat) (K : Eff → Option α) : Option α := ldV P rd T (ev x) (pureK K)
def stSto (T : TypeId) (x y : Operand) (P : Program) (_ : Orc) (ev : Operand → Option AV) (rd : Nat → Option IR) (_ : IRs) (_ : Nat) (K : Eff → Option α) : Option α := stoE P rd T (ev x) (ev y) K
def stMkf (f : Go.Fn) (fs cs : Array Operand) (_ : Program) (_ : Orc) (ev : Operand → Option AV) (_ : Nat → Option IR) (_ : IRs) (_ : Nat) (K : Eff → Option α) : Option α := mkfV ev f fs.toList cs.toList (pureK K)
def stExt (x : Operand) (i : Nat) (_ : Program) (_ : Orc) (ev : Operand → Option AV) (_ : Nat → Option IR) (_ : IRs) (_ : Nat) (K : Eff → Option α) : Option α := extV i (ev x) (pureK K)
def stBld (T : TypeId) (ps : Array (Nat × Operand)) (P : Program) (_ : Orc) (ev : Operand → Option AV) (rd : Nat → Option IR) (_ : IRs) (_ : Nat) (K : Eff → Option α) : Option α := bldV P ev rd T ps.toList (pureK K)
def stLit (T : TypeId) (n : Nat) (ps : Array (Nat × Operand)) (P : Program) (_ : Orc) (ev : Operand → Option AV) (rd : Nat → Option IR) (_ : IRs) (nx : Nat) (K : Eff → Option α) : Option α := litE P ev rd nx T n ps.toList K
def stMk (T : TypeId) (x y : Operand) (P : Program) (_ : Orc) (ev : Operand → Option AV) (_ : Nat → Option IR) (_ : IRs) (nx : Nat) (K : Eff → Option α) : Option α := mkE P nx T (ev x) (ev y) K
def stAlo (T : TypeId) (P : Program) (_ : Orc) (_ : Operand → Option AV) (_ : Nat → Option IR) (_ : IRs) (nx : Nat) (K : Eff → Option α) : Option α := aloE P nx T K
def stBox (T : TypeId) (x : Operand) (_ : Program) (_ : Orc) (ev : Operand → Option AV) (rd : Nat → Option IR) (_ : IRs) (nx : Nat) (K : Eff → Option α) : Option α := boxE rd nx T (ev x) K
def stSli (T : TypeId) (x : Operand) (lo hi mx : Option Operand) (P : Program) (_ : Orc) (ev : Operand → Option AV) (_ : Nat → Option IR) (_ : IRs) (nx : Nat) (K : Eff → Option α) : Option α := match mx with
  | none => cutV P T (ev x) (lo.map ev) (hi.map ev) (pureK K)
  | some (.const (.int _ 0)) => match lo, hi with
    | none, some (.const (.int _ 0)) => emE P nx T (ev x) K
    | _, _ => none
  | _ => none
def stBui (b : Builtin) (as : Array Operand) (ts : Array TypeId) (P : Program) (ev : Operand → Option AV) (rd : Nat → Option IR) (nx : Nat) (K : Eff → Option α) : Option α := match b with
  | .len => match as.toList, ts.toList with
    | [x], [T] => lenV P rd T (ev x) (pureK K)
    | _, _ => none
  | .max => match as.toList, ts.toList with
    | [x, y], [_, _] => mnV true [ev x, ev y] (pureK K)
    | _, _ => none
  | .min => match as.toList, ts.toList with
    | [x, y], [_, _] => mnV false [ev x, ev y] (pureK K)
    | _, _ => none
  | .append => match as.toList, ts.toList with
    | [x, y], [T, T'] => appE P rd nx T T' (ev x) (ev y) K
    | _, _ => none
  | _ => none
def stCal (c : Call) (P : Program) (F : Orc) (ev : Operand → Option AV) (rd : Nat → Option IR) (R : IRs) (nx : Nat) (K : Eff → Option α) : Option α := match c.callee with
  | .value x => calE F ev R nx (ev x) c.args.toList K
  | .builtin b => stBui b c.args c.argTypes P ev rd nx K
  | _ => none
def stNo (_ : Program) (_ : Orc) (_ : Operand → Option AV) (_ : Nat → Option IR) (_ : IRs) (_ : Nat) (_ : Eff → Option α) : Option α := none

def stepF (o : Op) : Program → Orc → (Operand → Option AV) → (Nat → Option IR) → IRs → Nat → (Eff → Option α) → Option α := match o with
  | .move x => stMov x
  | .assign x => stMov x
  | .pick c a b => stPic c a b
  | .binOp b T x y _ => stBin b T x y
  | .unOp b _ x => stUn b x
  | .convert T T' x => stCnv T T' x
  | .nilCheck x => stNil x
  | .fieldAddr T x i => stFld T x i
  | .indexAddr T x y => stIdx T x y
  | .index T x y => stIxa T x y
  | .load T x => stLd T x
  | .store T x y => stSto T x y
  | .makeFunc f fs cs => stMkf f fs cs
  | .extract x i => stExt x i
  | .build T ps => stBld T ps
  | .buildSlice T n ps => stLit T n ps
  | .makeSlice T x y => stMk T x y
  | .alloc T => stAlo T
  | .box T x => stBox T x
  | .slice T x lo hi mx => stSli T x lo hi mx
  | .call c => stCal c
  | _ => stNo

theorem stepF_eq (P : Program) (F : Orc) (ev : Operand → Option AV) (rd : Nat → Option IR) (R : IRs) (nx : Nat) (o : Op) (K : Eff → Option α) : stepF o P F ev rd R nx K = stepOp P F ev rd R nx o K := by
  cases o <;> first | rfl | skip
  case call c =>
    obtain ⟨cal, as, ts⟩ := c
    cases cal with
    | builtin b => cases b <;> rfl
    | _ => rfl
end

section
variable {α : Type} {r : α} {P : Program} {F : Orc} {o : Oper} {E : Env} {R : IRs} {nx : Nat} {ev : Operand → Option AV} {rd : Nat → Option IR} {K : Eff → Option α} {C : Cx} {n : Nat}

theorem arr1 {β : Type} {a : Array β} {x : β} (h : a.toList = [x]) : a = #[x] := by rw [← Array.toArray_toList (xs := a), h]
theorem arr2 {β : Type} {a : Array β} {x y : β} (h : a.toList = [x, y]) : a = #[x, y] := by rw [← Array.toArray_toList (xs := a), h]

theorem stepOp_ok (hF : OrcOk P F) (hs : See ev rd nx E R) {op : Op} (ho : o.op = op) (h : stepOp P F ev rd R nx op K = some r) : Stp P o E R nx K r := by
  unfold stepOp at h
  split at h
  · obtain ⟨d, hd, h⟩ := Option.bind_eq_some_iff.1 h
    exact .pu hs ⟨d, h, hs.ltd hd, fun ρ => .move ho (hs.evs hd ρ)⟩
  · obtain ⟨d, hd, h⟩ := Option.bind_eq_some_iff.1 h
    exact .pu hs ⟨d, h, hs.ltd hd, fun ρ => .assign ho (hs.evs hd ρ)⟩
  · split at h
    · rename_i hc
      obtain ⟨d, hd, h⟩ := Option.bind_eq_some_iff.1 h
      exact .pu hs ⟨d, h, hs.ltd hd, fun ρ => .pickT ho (by have := hs.evs hc ρ; rw [sub_lit] at this; exact this) (hs.evs hd ρ)⟩
    · rename_i hc
      obtain ⟨d, hd, h⟩ := Option.bind_eq_some_iff.1 h
      exact .pu hs ⟨d, h, hs.ltd hd, fun ρ => .pickF ho (by have := hs.evs hc ρ; rw [sub_lit] at this; exact this) (hs.evs hd ρ)⟩
    · cases h
  · exact .pu hs (binV_ok hs ho h)
  · exact .pu hs (unV_ok hs ho h)
  · exact .pu hs (cnvV_ok hs ho h)
  · exact .pu hs (nilV_ok hs ho h)
  · exact .pu hs (fldV_ok hs ho h)
  · exact .pu hs (idxV_ok hs ho h)
  · exact .pu hs (ixaV_ok hs ho h)
  · exact .pu hs (ldV_ok hs ho h)
  · exact stoE_ok hs ho h
  · exact .pu hs (mkfV_ok hs ho h)
  · exact .pu hs (extV_ok hs ho h)
  · exact .pu hs (bldV_ok hs ho h)
  · exact litE_ok hs ho h
  · exact mkE_ok hs ho h
  · exact aloE_ok hs ho h
  · exact boxE_ok hs ho h
  · split at h
    · exact .pu hs (cutV_ok hs ho h)
    · split at h
      · exact emE_ok hs ho h
      · cases h
    · cases h
  · split at h
    · rename_i h1 h2
      rw [arr1 h1, arr1 h2] at ho
      exact .pu hs (lenV_ok hs ho h)
    · cases h
  · split at h
    · rename_i h1 h2
      rw [arr2 h1, arr2 h2] at ho
      unfold mnV at h
      split at h
      · rename_i q1
        split at h
        · rename_i hk
          subst hk
          simp only [List.cons.injEq, and_true] at q1
          obtain ⟨q1, q2⟩ := q1
          exact .pu hs ⟨_, h, .lit fun ρ => .max ho (by have := hs.evs q1 ρ; rw [sub_lit] at this; exact this) (by have := hs.evs q2 ρ; rw [sub_lit] at this; exact this)⟩
        · cases h
      · cases h
    · cases h
  · split at h
    · rename_i h1 h2
      rw [arr2 h1, arr2 h2] at ho
      unfold mnV at h
      split at h
      · rename_i q1
        split at h
        · rename_i hk
          subst hk
          simp only [List.cons.injEq, and_true] at q1
          obtain ⟨q1, q2⟩ := q1
          exact .pu hs ⟨_, h, .lit fun ρ => .min ho (by have := hs.evs q1 ρ; rw [sub_lit] at this; exact this) (by have := hs.evs q2 ρ; rw [sub_lit] at this; exact this)⟩
        · cases h
      · cases h
    · cases h
  · split at h
    · rename_i h1 h2
      rw [arr2 h1, arr2 h2] at ho
      exact appE_ok hs ho h
    · cases h
  · exact calE_ok hF hs ho h
  · cases h

/-! ### what a state becomes -/

noncomputable def St.app (s : St) (dst : Option Nat) (e : Eff) : St :=
  { E := match dst with
      | none => s.E
      | some t => match e.vl s.nx with
        | some d => eput t d s.E
        | none => eput t (.lit undef) s.E
    R := e.R s.R s.nx
    nx := e.nx s.nx }

def dstOk (n : Nat) : Option Nat → Bool
  | none => true
  | some t => Nat.blt t n

theorem See.of {s : St} (hh : Hold s.E E) (hE : E.Ltd s.nx) (hR : IRs.Ltd s.nx s.R) : See (evF s.E) (rget s.R) s.nx E s.R := ⟨fun x d h => hh.ev x d h, fun _ _ h => h, hE, hR⟩

/-- An operation is carried out. -/
theorem stp_wp {C : Cg} {s : St} {a : Act} {w : World} {Q : Exit → Act → World → Prop} (hm : Mt C n s a w) (hd : dstOk n o.dst = true) (h : ∀ E, See (evF s.E) (rget s.R) s.nx E s.R → Stp P o E s.R s.nx K r) {K' : Act → World → Prop}
    (hK : ∀ a' w' e, a'.defers = a.defers → K e = some r → s.nx ≤ e.nx s.nx → Mt C n (s.app o.dst e) a' w' → K' a' w') : o.wp P a w K' Q := by
  obtain ⟨E, hh, hE, hR, ρ, hag, hsim⟩ := hm
  have h := h E (See.of hh hE hR)
  unfold Oper.wp
  have fin : ∀ (e : Eff) (ρ' : Gh) (σ' : List Res) (w' : World) (v : Value), s.nx ≤ e.nx s.nx → IRs.Ltd (e.nx s.nx) (e.R s.R s.nx) → (∀ d, e.vl s.nx = some d → Ltd (e.nx s.nx) d) → Agr s.nx ρ ρ' → List.Perm σ' (IRs.res ρ' (e.R s.R s.nx)) →
      Tr C.C (blks (IRs.res ρ s.R)) (IRs.res ρ s.R) w σ' w' → (∀ d, e.vl s.nx = some d → Rel (al C.C σ') w' (d.sub ρ') v) → (e.vl s.nx = none → v = undef) → Mt C n (s.app o.dst e) (a.put o.dst v) w' := fun e ρ' σ' w' v h1 h2 h3 h4 h5 h6 h7 h8 => by
    have hs1 := (hsim.tr h6).perm h5
    rw [hE.sub h4] at hs1
    have hE' : E.Ltd (e.nx s.nx) := hE.mono h1
    have hag' : Agr C.n C.ρ ρ' ∧ C.n ≤ e.nx s.nx := ⟨hag.1.trans h4 hag.2, Nat.le_trans hag.2 h1⟩
    have hput : ∀ (t : Nat) (d : AV), o.dst = some t → Ltd (e.nx s.nx) d → Rel (al C.C (IRs.res ρ' (e.R s.R s.nx))) w' (d.sub ρ') v → Mt C n { E := eput t d s.E, R := e.R s.R s.nx, nx := e.nx s.nx } (a.put (some t) v) w' := fun t d ht hd' hr =>
      ⟨(t, d) :: E, hh.put t d, Env.cons_ltd hE' hd', h2, ρ', hag', hs1.put (by rw [ht] at hd; exact hd) hr⟩
    have hsub : ∀ d, e.vl s.nx = some d → Rel (al C.C (IRs.res ρ' (e.R s.R s.nx))) w' (d.sub ρ') v := fun d hd' => (h7 d hd').mono fun b _ hA => ⟨al_perm h5 b hA, rfl⟩
    unfold St.app
    cases hdst : o.dst with
    | none => exact ⟨E, hh, hE', h2, ρ', hag', hs1⟩
    | some t =>
      cases hv : e.vl s.nx with
      | some d => exact hput t d hdst (h3 d hv) (hsub d hv)
      | none =>
        refine hput t (.lit undef) hdst (.lit _) ?_
        rw [h8 hv, sub_lit]
        exact .lit _
  rcases h ρ C.C w a.eval hsim.good hsim.slots.ops with ⟨v, w', av, σ', ⟨e, q1, q2, q3, q4, ρ', q5, q6, q7⟩, h2, h3, h4⟩ | ⟨w', σ', ⟨e, q1, q2, q3, q4, ρ', q5, q6, q7⟩, h2, h3⟩ | ⟨f, args, h1, h2⟩
  · rw [h3]
    refine hK _ _ e (by cases o.dst <;> rfl) q1 q2 (fin e ρ' σ' w' v q2 q3 q4 q5 q7 h2 (fun d hd' => ?_) (fun hn => ?_))
    · rw [hd', Option.map_some, Option.some.injEq] at q6; rw [← q6]; exact h4
    · rw [hn] at q6; cases q6
  · rw [h3]
    refine hK _ _ e (by cases o.dst <;> rfl) q1 q2 (fin e ρ' σ' w' undef q2 q3 q4 q5 q7 h2 (fun d hd' => ?_) (fun hn => rfl))
    rw [hd'] at q6; cases q6
  · rw [h1]
    refine Calls.mono h2 fun ee w' ⟨v, av, σ', q0, ⟨e, q1, q2, q3, q4, ρ', q5, q6, q7⟩, h2, h4⟩ => ?_
    subst q0
    refine hK _ _ e (by cases o.dst <;> rfl) q1 q2 (fin e ρ' σ' w' v q2 q3 q4 q5 q7 h2 (fun d hd' => ?_) (fun hn => ?_))
    · rw [hd', Option.map_some, Option.some.injEq] at q6; rw [← q6]; exact h4
    · rw [hn] at q6; cases q6
end

/-! ### what was owned becomes data -/

def frz1 (id t : Nat) (l : List (U.Dat t)) : AV → AV
  | .own i => match Nat.beq i id with
    | true => .sl t l
    | false => .own i
  | d => d
def frzN (id t : Nat) (l : List (U.Dat t)) : Nat → AV → AV
  | 0, d => d
  | n + 1, .agg cs => .agg (cs.map (frzN id t l n))
  | n + 1, .tup cs => .tup (cs.map (frzN id t l n))
  | n + 1, .fn f cs => .fn f (cs.map (frzN id t l n))
  | _ + 1, d => frz1 id t l d
def frzR (id t : Nat) (l : List (U.Dat t)) : IR → IR
  | .box T cs => .box T (cs.map (frzN id t l 3))
  | r => r
noncomputable def St.frz (s : St) (id : Nat) : St := match rget s.R id with
  | some (.row t l) => { E := emap (frzN id t l 3) s.E, R := (rdel id s.R).map fun p => (p.1, frzR id t l p.2), nx := s.nx }
  | _ => s

theorem frz1_rel {A : Nat → Prop} {w : World} {id t : Nat} {l : List (U.Dat t)} {ρ : Gh} (hd : Hd A [.row (ρ.v id) t l] w) {d : AV} {v : Value} (h : Rel A w (d.sub ρ) v) : Rel (fun b => A b ∨ b ∈ blks [.row (ρ.v id) t l]) w ((frz1 id t l d).sub ρ) v := by
  unfold frz1
  split
  · rename_i i
    split
    · rename_i hi
      have := beqT hi
      subst this
      rw [sub_own] at h
      rw [sub_sl]
      exact Vw.row 0 rfl A w v hd h
    · exact h.mono fun b _ hA => ⟨.inl hA, rfl⟩
  · exact h.mono fun b _ hA => ⟨.inl hA, rfl⟩
theorem frzN_rel {A : Nat → Prop} {w : World} {id t : Nat} {l : List (U.Dat t)} {ρ : Gh} (hd : Hd A [.row (ρ.v id) t l] w) : ∀ (n : Nat) {d : AV} {v : Value}, Rel A w (d.sub ρ) v → Rel (fun b => A b ∨ b ∈ blks [.row (ρ.v id) t l]) w ((frzN id t l n d).sub ρ) v
  | 0, d, v, h => h.mono fun b _ hA => ⟨.inl hA, rfl⟩
  | n + 1, d, v, h => by
    have hL : ∀ {cs : List AV} {us : List Value}, RelL A w (cs.map (AVq.sub ρ)) us → RelL (fun b => A b ∨ b ∈ blks [.row (ρ.v id) t l]) w ((cs.map (frzN id t l n)).map (AVq.sub ρ)) us := fun {cs us} h => by
      refine ⟨by simpa using h.1, fun j a v h1 h2 => ?_⟩
      rw [List.map_map, List.getElem?_map] at h1
      obtain ⟨c, hc, rfl⟩ := Option.map_eq_some_iff.1 h1
      exact frzN_rel hd n (h.2 j _ v (by rw [List.getElem?_map, hc]; rfl) h2)
    unfold frzN
    split
    · rename_i h0; cases h0
    · rename_i cs h0
      cases h0
      rw [sub_agg] at h ⊢
      obtain ⟨us, rfl, h2⟩ := h.aggInv
      exact Rel.aggL (hL h2)
    · rename_i cs h0
      cases h0
      rw [sub_tup] at h ⊢
      obtain ⟨us, rfl, h2⟩ := h.tupInv
      exact Rel.tupL (hL h2)
    · rename_i f cs h0
      cases h0
      rw [sub_fn] at h ⊢
      obtain ⟨us, rfl, h2⟩ := h.fnInv
      exact .fn f _ us (hL h2).1 (hL h2).2
    · rename_i h0 _ _ _
      exact frz1_rel hd h
end Go.Iv
