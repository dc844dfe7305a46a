/- An interpreter over names of what is owned: what is given up, regions in the order of the text, code. Program-independent. -/
import Derived.Test.YtgdahkddhecloaaIwn
import Derived.Test.YtgdahkddhecloaaIv8
set_option linter.unusedSectionVars false
set_option linter.unusedVariables false
set_option linter.unusedSimpArgs false
namespace Go.Iv
variable [U : Uni] [L : UniL]
open Go Go.RowKit

/-! ### giving up -/

theorem frzN_ltd {id t m : Nat} {l : List (U.Dat t)} : ∀ (n : Nat) {d : AV}, Ltd m d → Ltd m (frzN id t l n d)
  | 0, d, h => h
  | n + 1, d, h => by
    have hL : ∀ {cs : List AV}, (∀ c ∈ cs, Ltd m c) → ∀ c ∈ cs.map (frzN id t l n), Ltd m c := fun h c hc => by
      obtain ⟨c', h1, rfl⟩ := List.mem_map.1 hc
      exact frzN_ltd n (h c' h1)
    unfold frzN
    split
    · rename_i h0; cases h0
    · rename_i h0; cases h0; exact .agg _ (hL h.aggL)
    · rename_i h0; cases h0; exact .tup _ (hL h.tupL)
    · rename_i h0; cases h0; exact .fn _ _ (hL h.fnL)
    · unfold frz1
      split
      · split
        · exact .sl _ _
        · exact h
      · exact h

theorem map_get {f : AV → AV} (t : Nat) : ∀ (E : Env), Env.get (E.map fun p => (p.1, f p.2)) t = (E.get t).map f
  | [] => rfl
  | (k, v) :: E => by
    show Env.get ((k, f v) :: E.map fun p => (p.1, f p.2)) t = _
    unfold Env.get
    cases hb : Nat.beq k t with
    | true => rfl
    | false => exact map_get t E

section
variable {α : Type} {r : α} {P : Program} {F : Orc} {o : Oper} {C : Cg} {n : Nat} {s : St} {a : Act} {w : World}

theorem Mt.frz (h : Mt C n s a w) (id : Nat) : Mt C n (s.frz id) a w := by
  unfold St.frz
  split
  case h_2 => exact h
  rename_i t l hr
  obtain ⟨E, hh, hE, hR, ρ, hag, hsim⟩ := h
  obtain ⟨i, hi1, _, hi3⟩ := rget_idx hr
  have hres := res_get (ρ := ρ) hi1
  have hg := hsim.good
  have hd : Hd (al C.C (IRs.res ρ s.R)) [.row (ρ.v id) t l] w := ⟨fun r hr => by
      rw [List.mem_singleton] at hr
      rw [hr]
      exact hg.res _ (List.mem_of_getElem? hres), fun b hb hA => hA.2 (by
      obtain ⟨r, h1, h2⟩ := mem_blks.1 hb
      rw [List.mem_singleton] at h1
      rw [h1] at h2
      exact mem_blks.2 ⟨_, List.mem_of_getElem? hres, h2⟩)⟩
  have hle := al_erase (C := C.C) hres hg
  -- the resources behind
  have hbk : blks (IRs.res ρ ((rdel id s.R).map fun p => (p.1, frzR id t l p.2))) = blks ((IRs.res ρ s.R).eraseIdx i) := by
    rw [← res_erase, ← hi3]
    unfold blks IRs.res
    rw [List.map_map, List.filterMap_map, List.filterMap_map]
    congr 1
    funext p
    obtain ⟨q, rr⟩ := p
    cases rr <;> rfl
  have hal : ∀ b, (al C.C (IRs.res ρ s.R) b ∨ b ∈ blks [Res.row (ρ.v id) t l]) → al C.C (IRs.res ρ ((rdel id s.R).map fun p => (p.1, frzR id t l p.2))) b := fun b hb => by
    have := hle b hb
    exact ⟨this.1, by rw [hbk]; exact this.2⟩
  have hrel : ∀ {d : AV} {v : Value}, Rel (al C.C (IRs.res ρ s.R)) w (d.sub ρ) v → Rel (al C.C (IRs.res ρ ((rdel id s.R).map fun p => (p.1, frzR id t l p.2)))) w ((frzN id t l 3 d).sub ρ) v := fun h =>
    (frzN_rel hd 3 h).mono fun b _ hA => ⟨hal b hA, rfl⟩
  refine ⟨E.map fun p => (p.1, frzN id t l 3 p.2), fun k d hk => ?_, fun p hp => ?_, fun p hp => ?_, ρ, hag, hsim.defers.step (fun b _ hA => ⟨hal b (.inl hA), rfl⟩), hsim.size, fun k av hk => ?_, ⟨hg.kept, fun rr hrr => ?_, ?_, fun b hb => ?_⟩⟩
  · have hk' : eget (emap (frzN id t l 3) s.E) k = some d := hk
    rw [emap_get] at hk'
    obtain ⟨d', h1, rfl⟩ := Option.map_eq_some_iff.1 hk'
    rw [map_get, hh k d' h1]
    rfl
  · obtain ⟨p', h1, rfl⟩ := List.mem_map.1 hp
    exact frzN_ltd 3 (hE p' h1)
  · obtain ⟨p', h1, rfl⟩ := List.mem_map.1 hp
    have h2 := rdel_ltd (id := id) hR p' h1
    refine ⟨h2.1, ?_⟩
    obtain ⟨q, rr⟩ := p'
    cases rr with
    | row t' l' => trivial
    | box T cs =>
      intro c hc
      obtain ⟨c', h3, rfl⟩ := List.mem_map.1 hc
      exact frzN_ltd 3 (h2.2 c' h3)
  · rw [Env.sub_get, map_get] at hk
    obtain ⟨d', h1, rfl⟩ := Option.map_eq_some_iff.1 hk
    obtain ⟨d, h2, rfl⟩ := Option.map_eq_some_iff.1 h1
    obtain ⟨v, h3, h4⟩ := hsim.slots k (d.sub ρ) (by rw [Env.sub_get, h2]; rfl)
    exact ⟨v, h3, hrel h4⟩
  · obtain ⟨p, h1, rfl⟩ := List.mem_map.1 hrr
    obtain ⟨p', h2, rfl⟩ := List.mem_map.1 h1
    have hm : p'.2.res ρ p'.1 ∈ IRs.res ρ s.R := by
      rw [hi3] at h2
      exact List.mem_map.2 ⟨p', List.mem_of_mem_eraseIdx h2, rfl⟩
    have h3 := hg.res _ hm
    obtain ⟨q, rr⟩ := p'
    cases rr with
    | row t' l' => exact h3.mono (fun b _ hA => ⟨hal b (.inl hA), rfl⟩) (fun _ _ => rfl)
    | box T cs =>
      obtain ⟨us, h4, h5⟩ := h3
      refine ⟨us, h4, by simpa using h5.1, fun j av v q1 q2 => ?_⟩
      rw [List.map_map, List.getElem?_map] at q1
      obtain ⟨c, hc, rfl⟩ := Option.map_eq_some_iff.1 q1
      exact hrel (h5.2 j (c.sub ρ) v (by rw [List.getElem?_map, hc]; rfl) q2)
  · rw [hbk]
    exact hg.dis.sublist ((List.eraseIdx_sublist _ _).filterMap _)
  · rw [hbk] at hb
    exact hg.own b (blks_sub (fun r hr => (List.eraseIdx_sublist _ _).subset hr) b hb)

noncomputable def St.frzL (s : St) (ids : List Nat) : St := match ids with
  | [] => s
  | i :: is => (s.frz i).frzL is
theorem Mt.frzL : ∀ (ids : List Nat) {s : St}, Mt C n s a w → Mt C n (s.frzL ids) a w
  | [], _, h => h
  | i :: is, _, h => Mt.frzL is (h.frz i)

def ownIds : AV → List Nat
  | .own id => [id]
  | .agg cs => cs.filterMap fun c => match c with
    | .own id => some id
    | _ => none
  | _ => []
noncomputable def ownO (E : ET) (x : Operand) : List Nat := match evF E x with
  | some d => ownIds d
  | none => []
/-- what an operation makes data of -/
noncomputable def frzOf (E : ET) : Op → List Nat
  | .buildSlice _ _ ps => ps.toList.flatMap fun p => ownO E p.2
  | .store _ x v => match evF E x with
    | some (.ra _ _ _ _) => ownO E v
    | _ => []
  | .slice _ x _ _ none => ownO E x
  | .call c => match c.callee with
    | .value (.func f) => match L.fz f with
      | true => c.args.toList.flatMap (ownO E)
      | false => []
    | _ => []
  | _ => []

/-! ### what is known of a slot, said otherwise -/

noncomputable def St.putB (s : St) (t : Nat) (b : Bool) : St := { s with E := eput t (.b b) s.E }
theorem Mt.putB {t : Nat} {b : Bool} (h : Mt C n s a w) (ht : eget s.E t = some (.lit (.bool b))) : Mt C n (s.putB t b) a w := by
  obtain ⟨E, hh, hE, hR, ρ, hag, hsim⟩ := h
  refine ⟨E, fun k d hk => ?_, hE, hR, ρ, hag, hsim⟩
  have hk' : eget (eput t (.b b) s.E) k = some d := hk
  rcases eput_get hk' with ⟨rfl, rfl⟩ | ⟨_, h2⟩
  · exact hh _ _ ht
  · exact hh k d h2

/-! ### regions in the order of the text -/

noncomputable def gate (ops : Array Oper) (o : Oper) (s : St) (yes no : St → Option α) : Option α := match o.guard with
  | none => yes s
  | some (j, want) => match (ops[j]?).bind (·.dst) with
    | none => none
    | some t => match eget s.E t with
      | some (.lit (.bool b)) => match b with
        | true => match want with
          | true => yes (s.putB t true)
          | false => no (s.putB t true)
        | false => match want with
          | true => no (s.putB t false)
          | false => yes (s.putB t false)
      | some (.lit (.tuple _)) => no s
      | _ => none

theorem wants_sub {ops : Array Oper} {j t : Nat} {want : Bool} {ρ : Gh} (hg : o.guard = some (j, want)) (hj : (ops[j]?).bind (·.dst) = some t) {E : Env} :
    (∀ b, E.get t = some (.lit (.bool b)) → Wants (E.sub ρ) o ops = some (b == want)) ∧ (∀ vs, E.get t = some (.lit (.tuple vs)) → Wants (E.sub ρ) o ops = some false) := by
  constructor
  · intro b hb
    unfold Wants
    rw [hg]
    simp only [hj, Env.sub_get, hb, Option.map_some, sub_lit]
  · intro vs hb
    unfold Wants
    rw [hg]
    simp only [hj, Env.sub_get, hb, Option.map_some, sub_lit]

theorem gate_ok {ops : Array Oper} {yes no : St → Option α} (h : gate ops o s yes no = some r) (hm : Mt C n s a w) : ∃ s', Mt C n s' a w ∧
    ((Region.wanted o (yielded ops a.tmps) = true ∧ yes s' = some r) ∨ (Region.wanted o (yielded ops a.tmps) = false ∧ no s' = some r)) := by
  unfold gate at h
  split at h
  · rename_i hg
    exact ⟨s, hm, .inl ⟨by simp [Region.wanted, hg], h⟩⟩
  · rename_i j want hg
    split at h
    · cases h
    · rename_i t hj
      have hspec : ∀ {s' : St}, Mt C n s' a w → (∀ b, eget s'.E t = some (.lit (.bool b)) → Region.wanted o (yielded ops a.tmps) = (b == want)) ∧ (∀ vs, eget s'.E t = some (.lit (.tuple vs)) → Region.wanted o (yielded ops a.tmps) = false) := fun {s'} hm' => by
        obtain ⟨E, hh, _, _, ρ, _, hsim⟩ := hm'
        obtain ⟨h1, h2⟩ := wants_sub (ρ := ρ) hg hj (E := E)
        exact ⟨fun b hb => Wants.spec hsim.slots (h1 b (hh _ _ hb)), fun vs hv => Wants.spec hsim.slots (h2 vs (hh _ _ hv))⟩
      split at h
      · rename_i b hb
        have hw := (hspec hm).1 b hb
        split at h
        · split at h
          · exact ⟨_, hm.putB hb, .inl ⟨hw, h⟩⟩
          · exact ⟨_, hm.putB hb, .inr ⟨hw, h⟩⟩
        · split at h
          · exact ⟨_, hm.putB hb, .inr ⟨hw, h⟩⟩
          · exact ⟨_, hm.putB hb, .inl ⟨hw, h⟩⟩
      · rename_i vs hb
        exact ⟨s, hm, .inr ⟨(hspec hm).2 vs hb, h⟩⟩
      · cases h

/-- a choice is made once, and known from then on -/
noncomputable def pickS (o : Op) (s : St) (f : St → Option α) : Option α := match o with
  | .pick (.tmp t) _ _ => match eget s.E t with
    | some (.lit (.bool b)) => match b with
      | true => f (s.putB t true)
      | false => f (s.putB t false)
    | _ => none
  | _ => f s
theorem pickS_ok {op : Op} {f : St → Option α} (h : pickS op s f = some r) (hm : Mt C n s a w) : ∃ s', Mt C n s' a w ∧ f s' = some r := by
  unfold pickS at h
  split at h
  · split at h
    · rename_i b hb
      split at h
      · exact ⟨_, hm.putB hb, h⟩
      · exact ⟨_, hm.putB hb, h⟩
    · cases h
  · exact ⟨s, hm, h⟩

noncomputable def putO (dst : Option Nat) (d : AV) (E : ET) : ET := match dst with
  | none => E
  | some t => eput t d E
/-- the state behind an operation of effect e, part by part -/
noncomputable def appK (dst : Option Nat) (E : ET) (R : IRs) (nx : Nat) (ih : St → (St → Option α) → Option α) (k : St → Option α) (e : Eff) : Option α := match e with
  | .val d => ih ⟨putO dst d E, R, nx⟩ k
  | .new d r => ih ⟨putO dst d E, (nx, r) :: R, nx + 1⟩ k
  | .set id r => ih ⟨putO dst (.lit undef) E, rset id r R, nx⟩ k
  | .grow id r => ih ⟨putO dst (.own nx) E, (nx, r) :: rdel id R, nx + 1⟩ k
  | .all d R' m => ih ⟨putO dst d E, R', m⟩ k
theorem appK_eq (dst : Option Nat) (s : St) (ih : St → (St → Option α) → Option α) (k : St → Option α) : appK dst s.E s.R s.nx ih k = fun e => ih (s.app dst e) k := by
  funext e
  cases e <;> cases dst <;> rfl
noncomputable def rDo2 (P : Program) (F : Orc) (o : Oper) (ih : St → (St → Option α) → Option α) (k : St → Option α) (s : St) : Option α := St.rec (fun E R nx => stepF o.op P F (evF E) (rget R) R nx (appK o.dst E R nx ih k)) s
noncomputable def rDo (P : Program) (F : Orc) (o : Oper) (ih : St → (St → Option α) → Option α) (k : St → Option α) (s : St) : Option α := rDo2 P F o ih k (s.frzL (frzOf s.E o.op))
/-! the same, with one look at the operation -/
abbrev OpK (α : Type) := Program → Orc → Option Nat → ET → IRs → Nat → (St → (St → Option α) → Option α) → (St → Option α) → Option α
abbrev StT (α : Type) := Program → Orc → (Operand → Option AV) → (Nat → Option IR) → IRs → Nat → (Eff → Option α) → Option α
noncomputable def stD (f : StT α) : OpK α := fun P F dst E R nx ih k => f P F (evF E) (rget R) R nx (appK dst E R nx ih k)
noncomputable def stZ (ids : ET → List Nat) (f : StT α) : OpK α := fun P F dst E R nx ih k => St.rec (fun E R nx => f P F (evF E) (rget R) R nx (appK dst E R nx ih k)) (St.frzL ⟨E, R, nx⟩ (ids E))
noncomputable def stPk (c a b : Operand) : OpK α := match c with
  | .tmp t => fun P F dst E R nx ih k => match eget E t with
    | some (.lit (.bool v)) => match v with
      | true => stD (stPic (.tmp t) a b) P F dst (eput t (.b true) E) R nx ih k
      | false => stD (stPic (.tmp t) a b) P F dst (eput t (.b false) E) R nx ih k
    | _ => none
  | c => stD (stPic c a b)
noncomputable def opF (o : Op) : OpK α := match o with
  | .move x => stD (stMov x)
  | .assign x => stD (stMov x)
  | .pick c a b => stPk c a b
  | .binOp b T x y _ => stD (stBin b T x y)
  | .unOp b _ x => stD (stUn b x)
  | .convert T T' x => stD (stCnv T T' x)
  | .nilCheck x => stD (stNil x)
  | .fieldAddr T x i => stD (stFld T x i)
  | .indexAddr T x y => stD (stIdx T x y)
  | .index T x y => stD (stIxa T x y)
  | .load T x => stD (stLd T x)
  | .store T x y => stZ (fun E => frzOf E (.store T x y)) (stSto T x y)
  | .makeFunc f fs cs => stD (stMkf f fs cs)
  | .extract x i => stD (stExt x i)
  | .build T ps => stD (stBld T ps)
  | .buildSlice T n ps => stZ (fun E => frzOf E (.buildSlice T n ps)) (stLit T n ps)
  | .makeSlice T x y => stD (stMk T x y)
  | .alloc T => stD (stAlo T)
  | .box T x => stD (stBox T x)
  | .slice T x lo hi mx => stZ (fun E => frzOf E (.slice T x lo hi mx)) (stSli T x lo hi mx)
  | .call c => stZ (fun E => frzOf E (.call c)) (stCal c)
  | _ => stD stNo
theorem opF_eq (P : Program) (F : Orc) (o : Oper) (s : St) (ih : St → (St → Option α) → Option α) (k : St → Option α) : opF o.op P F o.dst s.E s.R s.nx ih k = pickS o.op s (rDo P F o ih k) := by
  unfold rDo rDo2 pickS
  cases h : o.op <;> first | rfl | skip
  case pick c a b =>
    cases c <;> rfl

noncomputable def rYes (P : Program) (F : Orc) (o : Oper) (ih : St → (St → Option α) → Option α) (k : St → Option α) (s : St) : Option α := St.rec (fun E R nx => opF o.op P F o.dst E R nx ih k) s
noncomputable def rNo (dst : Option Nat) (ih : St → (St → Option α) → Option α) (k : St → Option α) (s : St) : Option α := match dst with
  | some t => ih { s with E := eput t (.lit undef) s.E } k
  | none => ih s k
noncomputable def rOne (P : Program) (F : Orc) (n : Nat) (ops : Array Oper) (o : Oper) (ih : St → (St → Option α) → Option α) (s : St) (k : St → Option α) : Option α := match dstOk n o.dst with
  | true => gate ops o s (rYes P F o ih k) (rNo o.dst ih k)
  | false => none
noncomputable def rexec (P : Program) (F : Orc) (n : Nat) (ops : Array Oper) (l : List Oper) : St → (St → Option α) → Option α := List.rec (fun s k => k s) (fun o _ ih => rOne P F n ops o ih) l

theorem rexec_ok (hF : OrcOk P F) {ops : Array Oper} {k : St → Option α} : ∀ (rest : List Oper) {s : St} {a : Act} {w : World}, rexec P F n ops rest s k = some r → Mt C n s a w →
    wpList P ops (fun e a' w' => e = .normal ∧ a'.defers = a.defers ∧ ∃ s', k s' = some r ∧ Mt C n s' a' w') rest a w
  | [], s, a, w, h, hm => ⟨rfl, rfl, s, h, hm⟩
  | o :: rest, s, a, w, h, hm => by
    change rOne P F n ops o (rexec P F n ops rest) s k = some r at h
    unfold rOne at h
    split at h
    case h_2 => cases h
    rename_i hd
    refine wpList_step fun K' hK => ?_
    have cont : ∀ {s' : St} {a' : Act} {w' : World}, a'.defers = a.defers → rexec P F n ops rest s' k = some r → Mt C n s' a' w' → K' a' w' := fun {s' a' w'} hda h1 h2 => hK _ _ (by
      have := rexec_ok hF rest h1 h2
      rw [hda] at this
      exact this)
    obtain ⟨s1, hm1, ⟨hw, h1⟩ | ⟨hw, h1⟩⟩ := gate_ok h hm
    · rw [if_pos hw]
      have h1' : opF o.op P F o.dst s1.E s1.R s1.nx (rexec P F n ops rest) k = some r := h1
      rw [opF_eq] at h1'
      obtain ⟨s2, hm2, h2⟩ := pickS_ok h1' hm1
      unfold rDo at h2
      have e2 : ∀ s : St, rDo2 P F o (rexec P F n ops rest) k s = stepOp P F (evF s.E) (rget s.R) s.R s.nx o.op (fun e => rexec P F n ops rest (s.app o.dst e) k) := fun s => by
        show stepF o.op P F (evF s.E) (rget s.R) s.R s.nx (appK o.dst s.E s.R s.nx (rexec P F n ops rest) k) = _
        rw [stepF_eq, appK_eq]
      rw [e2] at h2
      have hm3 := Mt.frzL (frzOf s2.E o.op) hm2
      exact stp_wp (K := fun e => rexec P F n ops rest ((s2.frzL (frzOf s2.E o.op)).app o.dst e) k) (r := r) hm3 hd (fun E hs => stepOp_ok hF hs rfl h2) fun a' w' e q1 q2 _ q4 => cont q1 q2 q4
    · rw [if_neg (by rw [hw]; exact Bool.false_ne_true)]
      cases hdst : o.dst with
      | none =>
        rw [hdst] at h1
        exact cont rfl h1 hm1
      | some t =>
        rw [hdst] at h1 hd
        obtain ⟨E, hh, hE, hR, ρ, hag, hsim⟩ := hm1
        exact cont rfl h1 ⟨(t, .lit undef) :: E, hh.put t _, Env.cons_ltd hE (.lit _), hR, ρ, hag, by
          have := hsim.put (av := .lit undef) (v := undef) hd (.lit _)
          show Sim C.C n ((t, AVq.sub ρ (.lit undef)) :: E.sub ρ) _ _ _
          rw [sub_lit]
          exact this⟩
end
end Go.Iv
