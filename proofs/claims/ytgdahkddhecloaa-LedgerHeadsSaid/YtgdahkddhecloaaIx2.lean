/- What stands at the head of a loop: read piece by piece. Program-independent. -/
import Derived.Test.YtgdahkddhecloaaIx1
set_option linter.unusedSectionVars false
set_option linter.unusedVariables false
set_option linter.unusedSimpArgs false
namespace Go.Iv
variable [U : Uni] [L : UniL]
open Go Go.RowKit

section
variable {β γ δ : Type}

/-- f reads what may name what is owned, and c is the same -/
def PN (f : AV → Option β) (c : β → AV) : Prop := ∀ a b, f a = some b → (∀ (ρ : Gh) A w v, Rel A w (a.sub ρ) v → Rel A w ((c b).sub ρ) v) ∧ ∀ n, Ltd n a → Ltd n (c b)
theorem PN.of {f : AV → Option β} {c : β → AV} (h : P1 f c) (hc : ∀ a b, f a = some b → cloB 2 a = true) (hl : ∀ b, (∀ ρ, (c b).sub ρ = c b) ∧ ∀ n, Ltd n (c b)) : PN f c := fun a b hb =>
  ⟨fun ρ A w v hr => by rw [cloB_sub 2 (hc a b hb)] at hr; rw [(hl b).1]; exact h a b hb A w v hr, fun n _ => (hl b).2 n⟩
theorem PN.i (k : IntKind) : PN (asI k) (AVq.n k) := .of (.i k) (fun a b h => by
  unfold asI at h
  split at h
  · rfl
  · cases h) fun b => ⟨fun ρ => sub_lit ρ _, fun n => .lit _⟩
theorem PN.b : PN asB AVq.b := .of .b (fun a b h => by
  unfold asB at h
  split at h
  · rfl
  · cases h) fun b => ⟨fun ρ => sub_lit ρ _, fun n => .lit _⟩
theorem PN.s : PN asS AVq.s := .of .s (fun a b h => by
  unfold asS at h
  split at h
  · rfl
  · cases h) fun b => ⟨fun ρ => sub_lit ρ _, fun n => .lit _⟩
theorem PN.l (t : Nat) : PN (asL t) (AVq.sl t) := .of (.l t) (fun a b h => by
  unfold asL at h
  split at h
  · rfl
  · rfl
  · cases h) fun b => ⟨fun ρ => sub_sl ρ _ _, fun n => .sl _ _⟩
/-- a struct's cells -/
def asGc (t : Nat) : AV → Option (U.Dat t)
  | .agg cs => match cs.all (cloB 1) with
    | true => L.parse t cs
    | false => none
  | _ => none
theorem PN.g (t : Nat) : PN (asGc t) (fun x => .agg (U.cells t x)) := .of (fun a b h A w v hr => by
  unfold asGc at h
  split at h
  · split at h
    · obtain ⟨us, rfl, h2⟩ := hr.aggInv
      exact Rel.aggL (L.parse_ok _ _ _ h A w us h2)
    · cases h
  · cases h) (fun a b h => by
  unfold asGc at h
  split at h
  · split at h
    · rename_i hc; exact hc
    · cases h
  · cases h) fun b => ⟨fun ρ => by rw [sub_agg, L.clo], fun n => .agg _ (L.ltd t b n)⟩
/-- a pointer to box id -/
def asP (id off : Nat) : AV → Option Unit
  | .ptr i o => match Nat.beq i id && Nat.beq o off with
    | true => some ()
    | false => none
  | _ => none
theorem PN.p (id off : Nat) : PN (asP id off) (fun _ => .ptr id off) := fun a b h => by
  unfold asP at h
  split at h
  · split at h
    · rename_i hc
      rw [Bool.and_eq_true] at hc
      rw [beqT hc.1, beqT hc.2]
      exact ⟨fun _ _ _ _ h => h, fun _ h => h⟩
    · cases h
  · cases h
/-- row id -/
def asO (id : Nat) : AV → Option Unit
  | .own i => match Nat.beq i id with
    | true => some ()
    | false => none
  | _ => none
theorem PN.o (id : Nat) : PN (asO id) (fun _ => .own id) := fun a b h => by
  unfold asO at h
  split at h
  · split at h
    · rename_i hc
      rw [beqT hc]
      exact ⟨fun _ _ _ _ h => h, fun _ h => h⟩
    · cases h
  · cases h

/-- q reads cells that may name what is owned, and c are the same -/
def PkN (q : List AV → Option γ) (c : γ → List AV) : Prop := ∀ cs g, q cs = some g → (∀ (ρ : Gh) A w us, RelL A w (cs.map (AVq.sub ρ)) us → RelL A w ((c g).map (AVq.sub ρ)) us) ∧ ∀ n, (∀ a ∈ cs, Ltd n a) → ∀ a ∈ c g, Ltd n a
theorem PkN.nil : PkN pkN (fun _ => []) := fun cs g h => by
  unfold pkN at h
  split at h
  · exact ⟨fun ρ A w us hr => hr, fun n h => h⟩
  · cases h
theorem PkN.cons {f : AV → Option β} {c : β → AV} {q : List AV → Option γ} {d : γ → List AV} (h : PN f c) (hq : PkN q d) : PkN (pkC f q) (fun x => c x.1 :: d x.2) := fun cs g hg => by
  unfold pkC at hg
  split at hg
  · obtain ⟨b, h1, hg⟩ := Option.bind_eq_some_iff.1 hg
    obtain ⟨g', h2, rfl⟩ := Option.map_eq_some_iff.1 hg
    obtain ⟨h3, h4⟩ := h _ _ h1
    obtain ⟨h5, h6⟩ := hq _ _ h2
    refine ⟨fun ρ A w us hr => ?_, fun n hn a ha => ?_⟩
    · rw [List.map_cons] at hr ⊢
      obtain ⟨v, us', rfl, h7, h8⟩ := hr.head
      exact RelL.cons (h3 ρ A w v h7) (h5 ρ A w us' h8)
    · rcases List.mem_cons.1 ha with rfl | ha
      · exact h4 n (hn _ List.mem_cons_self)
      · exact h6 n (fun a ha => hn a (List.mem_cons_of_mem _ ha)) a ha
  · cases hg
/-- an aggregate, cell by cell -/
def asAg (q : List AV → Option γ) : AV → Option γ
  | .agg cs => q cs
  | _ => none
theorem PN.ag {q : List AV → Option γ} {c : γ → List AV} (h : PkN q c) : PN (asAg q) (fun x => .agg (c x)) := fun a b hb => by
  unfold asAg at hb
  split at hb
  · rename_i cs
    obtain ⟨h1, h2⟩ := h _ _ hb
    refine ⟨fun ρ A w v hr => ?_, fun n hn => .agg _ (h2 n hn.aggL)⟩
    rw [sub_agg] at hr ⊢
    obtain ⟨us, rfl, h3⟩ := hr.aggInv
    exact Rel.aggL (h1 ρ A w us h3)
  · cases hb
/-- a tuple, part by part -/
def asTu (q : List AV → Option γ) : AV → Option γ
  | .tup cs => q cs
  | _ => none
theorem PN.tu {q : List AV → Option γ} {c : γ → List AV} (h : PkN q c) : PN (asTu q) (fun x => .tup (c x)) := fun a b hb => by
  unfold asTu at hb
  split at hb
  · rename_i cs
    obtain ⟨h1, h2⟩ := h _ _ hb
    refine ⟨fun ρ A w v hr => ?_, fun n hn => .tup _ (h2 n hn.tupL)⟩
    rw [sub_tup] at hr ⊢
    obtain ⟨us, rfl, h3⟩ := hr.tupInv
    exact Rel.tupL (h1 ρ A w us h3)
  · cases hb
/-- the function k with what it captured -/
def asFf (k : Nat) (q : List AV → Option γ) : AV → Option γ
  | .fn (.func i) cs => match Nat.beq i k with
    | true => q cs
    | false => none
  | _ => none
theorem PN.ff (k : Nat) {q : List AV → Option γ} {c : γ → List AV} (h : PkN q c) : PN (asFf k q) (fun x => .fn (.func k) (c x)) := fun a b hb => by
  unfold asFf at hb
  split at hb
  · rename_i i cs
    split at hb
    · rename_i hi
      have hi := beqT hi
      subst hi
      obtain ⟨h1, h2⟩ := h _ _ hb
      refine ⟨fun ρ A w v hr => ?_, fun n hn => .fn _ _ (h2 n hn.fnL)⟩
      rw [sub_fn] at hr ⊢
      generalize ha : AVq.fn (Fn.func i) (cs.map (AVq.sub ρ)) = a at hr
      cases hr with
      | fn f cs' us hl hr =>
        cases ha
        obtain ⟨h3, h4⟩ := h1 ρ A w us ⟨hl, hr⟩
        exact .fn _ _ us h3 h4
      | _ => cases ha
    · cases hb
  · cases hb
/-- the address of data -/
def asFp (q : List AV → Option γ) : AV → Option γ
  | .fp cs => q cs
  | _ => none
theorem PN.fp {q : List AV → Option γ} {c : γ → List AV} (h : PkN q c) : PN (asFp q) (fun x => .fp (c x)) := fun a b hb => by
  unfold asFp at hb
  split at hb
  · rename_i cs
    obtain ⟨h1, h2⟩ := h _ _ hb
    refine ⟨fun ρ A w v hr => ?_, fun n hn => ?_⟩
    · rw [sub_fp] at hr ⊢
      generalize ha : AVq.fp (cs.map (AVq.sub ρ)) = a at hr
      cases hr with
      | fp cs' b o us hb hA hl hc hr =>
        cases ha
        obtain ⟨h3, h4⟩ := h1 ρ A w us ⟨hl, hr⟩
        exact .fp _ b o us hb hA h3 hc h4
      | _ => cases ha
    · generalize ha : AVq.fp cs = a at hn
      cases hn with
      | fp cs' h5 => cases ha; exact .fp _ (h2 n h5)
      | _ => cases ha
  · cases hb
/-- the nil slice -/
def asNs : AV → Option Unit
  | .lit (.slice none 0 0) => some ()
  | _ => none
theorem PN.ns : PN asNs (fun _ => .lit (.slice none 0 0)) := fun a b hb => by
  unfold asNs at hb
  split at hb
  · exact ⟨fun _ _ _ _ h => h, fun _ h => h⟩
  · cases hb
/-- cells of a value of type t, whatever is owned -/
def asCs (t : Nat) (cs : List AV) : Option (U.Dat t) := match cs.all (cloB 1) with
    | true => L.parse t cs
    | false => none
theorem PkN.parse (t : Nat) : PkN (asCs t) (fun x => U.cells t x) := fun cs g h => by
  unfold asCs at h
  split at h
  · rename_i hc
    have e : ∀ ρ, cs.map (AVq.sub ρ) = cs := fun ρ => by
      have : cs.map (AVq.sub ρ) = cs.map id := List.map_congr_left fun a ha => cloB_sub 1 (List.all_eq_true.1 hc a ha)
      rw [this, List.map_id]
    exact ⟨fun ρ A w us hr => by rw [e] at hr; rw [L.clo]; exact L.parse_ok _ _ _ h A w us hr, fun n _ => L.ltd t g n⟩
  · cases h

/-! ### slots -/

def slN (_ : ET) : Option Unit := some ()
noncomputable def slC (t : Nat) (f : AV → Option β) (q : ET → Option γ) (T : ET) : Option (β × γ) := match eget T t with
  | some a => (f a).bind fun b => (q T).map fun g => (b, g)
  | none => none
/-- the slots of what q reads are d of it -/
def SlOk (q : ET → Option γ) (d : γ → Env) : Prop := ∀ T g, q T = some g → ∀ (E : Env), Hold T E → (∀ (ρ : Gh) A w tmps, Slots A w (E.sub ρ) tmps → Slots A w ((d g).sub ρ) tmps) ∧ ∀ n, E.Ltd n → (d g).Ltd n
theorem SlOk.nil : SlOk slN (fun _ => []) := fun T g _ E _ => ⟨fun ρ A w tmps _ t av h => (by cases h), fun n _ p hp => (by cases hp)⟩
theorem SlOk.cons {t : Nat} {f : AV → Option β} {c : β → AV} {q : ET → Option γ} {d : γ → Env} (hf : PN f c) (hq : SlOk q d) : SlOk (slC t f q) (fun x => (t, c x.1) :: d x.2) := fun T g h E hh => by
  unfold slC at h
  split at h
  case h_2 => cases h
  rename_i a ha
  obtain ⟨b, hb, h⟩ := Option.bind_eq_some_iff.1 h
  obtain ⟨g', hg, rfl⟩ := Option.map_eq_some_iff.1 h
  obtain ⟨h1, h2⟩ := hf a b hb
  obtain ⟨h3, h4⟩ := hq T g' hg E hh
  refine ⟨fun ρ A w tmps hs s av hx => ?_, fun n hn p hp => ?_⟩
  · have hx : Env.get ((t, (c b).sub ρ) :: (d g').sub ρ) s = some av := hx
    by_cases hts : t = s
    · subst hts
      rw [Env.get_hit] at hx
      cases hx
      obtain ⟨v, q1, q2⟩ := hs t (a.sub ρ) (by rw [Env.sub_get, hh t a ha]; rfl)
      exact ⟨v, q1, h1 ρ A w v q2⟩
    · rw [Env.get_miss _ _ hts] at hx
      exact h3 ρ A w tmps hs s av hx
  · rcases List.mem_cons.1 hp with rfl | hp
    · exact h2 n (hn _ (Env.get_mem (hh t a ha)))
    · exact h4 n hn p hp
noncomputable def etOf (E : Env) : ET := List.rec .e (fun p _ T => eput p.1 p.2 T) E
theorem etOf_hold : ∀ E : Env, Hold (etOf E) E
  | [] => fun t d h => by cases t <;> cases h
  | p :: E => (etOf_hold E).put p.1 p.2

/-! ### what is owned -/

/-- what is known of p is known of p' -/
def leR (p p' : Nat × IR) : Prop := p.1 = p'.1 ∧ (∀ (ρ : Gh) A w, (p.2.res ρ p.1).ok A w → (p'.2.res ρ p'.1).ok A w) ∧ (∀ ρ : Gh, (p.2.res ρ p.1).blk = (p'.2.res ρ p'.1).blk) ∧ ∀ n, p.2.Ltd n → p'.2.Ltd n
inductive LeRs : IRs → IRs → Prop
  | nil : LeRs [] []
  | cons {p p' : Nat × IR} {R R' : IRs} (h : leR p p') (hs : LeRs R R') : LeRs (p :: R) (p' :: R')
def rsN : IRs → Option Unit
  | [] => some ()
  | _ => none
def rsB (id T : Nat) (f : List AV → Option β) (q : IRs → Option γ) : IRs → Option (β × γ)
  | (i, .box T' cs) :: R => match Nat.beq i id && Nat.beq T' T && cs.all (cloB 1) with
    | true => (f cs).bind fun b => (q R).map fun g => (b, g)
    | false => none
  | _ => none
def rsR (id t : Nat) (q : IRs → Option γ) : IRs → Option (List (U.Dat t) × γ)
  | (i, .row t' l) :: R => match Nat.beq i id with
    | true => (castL t' t l).bind fun l => (q R).map fun g => (l, g)
    | false => none
  | _ => none
def RsOk (q : IRs → Option γ) (d : γ → IRs) : Prop := ∀ R g, q R = some g → LeRs R (d g)
theorem RsOk.nil : RsOk rsN (fun _ => []) := fun R g h => by
  cases R with
  | nil => exact .nil
  | cons p R => cases h
theorem RsOk.box {id T : Nat} {f : List AV → Option β} {c : β → List AV} {q : IRs → Option γ} {d : γ → IRs} (hf : Pk f c) (hc : ∀ b ρ, (c b).map (AVq.sub ρ) = c b) (hl : ∀ b n, ∀ a ∈ c b, Ltd n a) (hq : RsOk q d) : RsOk (rsB id T f q) (fun x => (id, .box T (c x.1)) :: d x.2) := fun R g h => by
  obtain ⟨i, T', cs, R', rfl, hcd, h9⟩ : ∃ i T' cs R', R = (i, IR.box T' cs) :: R' ∧ (Nat.beq i id && Nat.beq T' T && cs.all (cloB 1)) = true ∧ ((f cs).bind fun b => (q R').map fun g => (b, g)) = some g := by
    unfold rsB at h
    split at h
    · split at h
      · rename_i hcd; exact ⟨_, _, _, _, rfl, hcd, h⟩
      · cases h
    · cases h
  simp only [Bool.and_eq_true] at hcd
  have e1 := beqT hcd.1.1
  have e2 := beqT hcd.1.2
  subst e1 e2
  obtain ⟨b, hb, h9⟩ := Option.bind_eq_some_iff.1 h9
  obtain ⟨g', hg, rfl⟩ := Option.map_eq_some_iff.1 h9
  refine .cons ⟨rfl, fun ρ A w ⟨us, h1, h2⟩ => ⟨us, h1, ?_⟩, fun ρ => rfl, fun n _ => hl b n⟩ (hq _ _ hg)
  have e : cs.map (AVq.sub ρ) = cs := by
    have : cs.map (AVq.sub ρ) = cs.map id := List.map_congr_left fun a ha => cloB_sub 1 (List.all_eq_true.1 hcd.2 a ha)
    rw [this, List.map_id]
  rw [e] at h2
  show RelL A w ((c b).map (AVq.sub ρ)) us
  rw [hc]
  exact hf _ _ hb A w us h2
theorem RsOk.row {id t : Nat} {q : IRs → Option γ} {d : γ → IRs} (hq : RsOk q d) : RsOk (rsR id t q) (fun x => (id, .row t x.1) :: d x.2) := fun R g h => by
  obtain ⟨i, t', l, R', rfl, hcd, h9⟩ : ∃ i t' l R', R = (i, IR.row t' l) :: R' ∧ Nat.beq i id = true ∧ ((castL t' t l).bind fun l => (q R').map fun g => (l, g)) = some g := by
    unfold rsR at h
    split at h
    · split at h
      · rename_i hcd; exact ⟨_, _, _, _, rfl, hcd, h⟩
      · cases h
    · cases h
  have e1 := beqT hcd
  subst e1
  obtain ⟨l', hl, h9⟩ := Option.bind_eq_some_iff.1 h9
  obtain ⟨g', hg, rfl⟩ := Option.map_eq_some_iff.1 h9
  obtain ⟨rfl, rfl⟩ := castL_ok hl
  exact .cons ⟨rfl, fun ρ A w h => h, fun ρ => rfl, fun n h => h⟩ (hq _ _ hg)

/-- a box whose cells may name what is owned -/
def rsN2 (id T : Nat) (f : List AV → Option β) (q : IRs → Option γ) : IRs → Option (β × γ)
  | (i, .box T' cs) :: R => match Nat.beq i id && Nat.beq T' T with
    | true => (f cs).bind fun b => (q R).map fun g => (b, g)
    | false => none
  | _ => none
theorem RsOk.boxN {id T : Nat} {f : List AV → Option β} {c : β → List AV} {q : IRs → Option γ} {d : γ → IRs} (hf : PkN f c) (hq : RsOk q d) : RsOk (rsN2 id T f q) (fun x => (id, .box T (c x.1)) :: d x.2) := fun R g h => by
  obtain ⟨i, T', cs, R', rfl, hcd, h9⟩ : ∃ i T' cs R', R = (i, IR.box T' cs) :: R' ∧ (Nat.beq i id && Nat.beq T' T) = true ∧ ((f cs).bind fun b => (q R').map fun g => (b, g)) = some g := by
    unfold rsN2 at h
    split at h
    · split at h
      · rename_i hcd; exact ⟨_, _, _, _, rfl, hcd, h⟩
      · cases h
    · cases h
  rw [Bool.and_eq_true] at hcd
  have e1 := beqT hcd.1
  have e2 := beqT hcd.2
  subst e1 e2
  obtain ⟨b, hb, h9⟩ := Option.bind_eq_some_iff.1 h9
  obtain ⟨g', hg, rfl⟩ := Option.map_eq_some_iff.1 h9
  obtain ⟨k1, k2⟩ := hf _ _ hb
  exact .cons ⟨rfl, fun ρ A w ⟨us, h1, h2⟩ => ⟨us, h1, k1 ρ A w us h2⟩, fun ρ => rfl, fun n hn => k2 n hn⟩ (hq _ _ hg)

theorem leR_blks {ρ : Gh} : ∀ {R R' : IRs}, LeRs R R' → blks (IRs.res ρ R) = blks (IRs.res ρ R')
  | _, _, .nil => rfl
  | _, _, .cons (p := p) (p' := p') h hs => by
    unfold blks IRs.res
    rw [List.map_cons, List.map_cons, List.filterMap_cons, List.filterMap_cons, h.2.2.1 ρ]
    have := leR_blks (ρ := ρ) hs
    unfold blks IRs.res at this
    rw [this]
theorem leR_ok {ρ : Gh} {A : Nat → Prop} {w : World} : ∀ {R R' : IRs}, LeRs R R' → (∀ r ∈ IRs.res ρ R, r.ok A w) → ∀ r ∈ IRs.res ρ R', r.ok A w
  | _, _, .nil, _ => fun r hr => by cases hr
  | _, _, .cons (p := p) (p' := p') h hs, h0 => fun r hr => by
    rcases List.mem_cons.1 hr with rfl | hr
    · exact h.2.1 ρ A w (h0 _ List.mem_cons_self)
    · exact leR_ok hs (fun r hr => h0 r (List.mem_cons_of_mem _ hr)) r hr
theorem leR_ltd {n : Nat} : ∀ {R R' : IRs}, LeRs R R' → IRs.Ltd n R → IRs.Ltd n R'
  | _, _, .nil, h => h
  | _, _, .cons (p := p) (p' := p') h hs, h0 => fun q hq => by
    rcases List.mem_cons.1 hq with rfl | hq
    · exact ⟨by rw [← h.1]; exact (h0 _ List.mem_cons_self).1, h.2.2.2 n (h0 _ List.mem_cons_self).2⟩
    · exact leR_ltd hs (fun q hq => h0 q (List.mem_cons_of_mem _ hq)) q hq

/-! ### a state -/

noncomputable def stR (m : Nat) (q : ET → Option γ) (r : IRs → Option δ) (s : St) : Option (γ × δ) := match Nat.beq s.nx m with
  | true => (q s.E).bind fun g => (r s.R).map fun h => (g, h)
  | false => none
noncomputable def stP (m : Nat) (d : γ → Env) (e : δ → IRs) (p : γ × δ) : St := ⟨etOf (d p.1), e p.2, m⟩
theorem stR_ok {n0 n m : Nat} {q : ET → Option γ} {r : IRs → Option δ} {d : γ → Env} {e : δ → IRs} (hq : SlOk q d) (hr : RsOk r e) : RdOk n0 n (stR m q r) (stP m d e) := fun C s p a w _ h hm => by
  unfold stR at h
  split at h
  case h_2 => cases h
  rename_i hnx
  have hnx := beqT hnx
  obtain ⟨g, hg, h⟩ := Option.bind_eq_some_iff.1 h
  obtain ⟨g', hg', rfl⟩ := Option.map_eq_some_iff.1 h
  obtain ⟨E, hh, hE, hR, ρ, hag, hsim⟩ := hm
  obtain ⟨h1, h2⟩ := hq _ _ hg E hh
  have h3 := hr _ _ hg'
  have hb : blks (IRs.res ρ (e g')) = blks (IRs.res ρ s.R) := (leR_blks h3).symm
  have hal : ∀ b, al C.C (IRs.res ρ s.R) b → al C.C (IRs.res ρ (e g')) b := fun b hA => ⟨hA.1, by rw [hb]; exact hA.2⟩
  subst hnx
  have hdis : (blks (IRs.res ρ (e g'))).Nodup := by rw [hb]; exact hsim.good.dis
  refine ⟨d g, etOf_hold _, h2 _ hE, leR_ltd h3 hR, ρ, hag, hsim.defers.step (fun b _ hA => ⟨hal b hA, rfl⟩), hsim.size, fun t av ht => ?_, hsim.good.kept, fun x hx => ?_, hdis, fun b hx => hsim.good.own b (by rw [← hb]; exact hx)⟩
  · obtain ⟨v, q1, q2⟩ := h1 ρ _ w a.tmps hsim.slots t av ht
    exact ⟨v, q1, q2.mono fun b _ hA => ⟨hal b hA, rfl⟩⟩
  · exact (leR_ok h3 hsim.good.res x hx).mono (fun b _ hA => ⟨hal b hA, rfl⟩) (fun _ _ => rfl)
end

/-- what rd reads, laid out by e -/
def rdM {γ γ' : Type} (e : γ → γ') (rd : St → Option γ) (s : St) : Option γ' := match rd s with
  | some p => some (e p)
  | none => none
theorem RdOk.m {γ γ' : Type} {n0 n : Nat} {rd : St → Option γ} {pat : γ → St} (h : RdOk n0 n rd pat) (e : γ → γ') {pat' : γ' → St} (he : ∀ p, pat' (e p) = pat p) : RdOk n0 n (rdM e rd) pat' := fun C s p a w hC hr hm => by
  unfold rdM at hr
  split at hr
  · rename_i p' hp
    cases hr
    rw [he]
    exact h C s p' a w hC hp hm
  · cases hr

/-! ### the notes, one by one -/

noncomputable def obls (c : Code) : An → List (Code × An) :=
  Code.rec (fun _ => []) (fun _ _ _ an => match an with
      | .rb fs t => [(.skip, .rb fs t)]
      | _ => []) (fun _ _ x y an => x an.l ++ y an.r) (fun _ _ _ x y an => (match an with
      | .jn γ rd pat l r => [(.skip, .jn γ rd pat l r)]
      | _ => []) ++ (x an.l ++ y an.r)) (fun _ _ x => x)
    (fun c x an => match an with
      | .lp γ rd pat adv b => (c, .lp γ rd pat adv b) :: x b
      | an => x an) (fun _ _ _ _ _ _ _ => []) (fun _ _ => []) (fun _ _ _ => []) (fun _ _ => []) (fun _ _ => []) (fun _ => []) (fun _ _ => []) c
def OblOk (P : Program) (F : Orc) (n0 n : Nat) (fuel : Nat) (p : Code × An) : Prop := match p.2 with
  | .lp _ rd pat adv b => RdOk n0 n rd pat ∧ AdvOk (execA P F n fuel p.1) rd pat adv b
  | .jn _ rd pat _ _ => RdOk n0 n rd pat
  | .rb fs _ => ∀ f ∈ fs, PureF F f
  | _ => True
theorem anOk_of {P : Program} {F : Orc} {n0 n fuel : Nat} (c : Code) : ∀ an, (∀ p ∈ obls c an, OblOk P F n0 n fuel p) → AnOk P F n0 n fuel c an := by
  induction c with
  | region id ops draw =>
    intro an h
    cases an with
    | rb fs t => exact h (.skip, .rb fs t) (List.mem_singleton.2 rfl)
    | _ => exact trivial
  | seq x y hx hy =>
    intro an h
    exact ⟨hx an.l fun p hp => h p (List.mem_append_left _ hp), hy an.r fun p hp => h p (List.mem_append_right _ hp)⟩
  | cond c x y hx hy =>
    intro an h
    refine ⟨fun γ rd pat l r he => ?_, hx an.l fun p hp => h p (List.mem_append_right _ (List.mem_append_left _ hp)), hy an.r fun p hp => h p (List.mem_append_right _ (List.mem_append_right _ hp))⟩
    subst he
    exact h (.skip, .jn γ rd pat l r) (List.mem_append_left _ (List.mem_singleton.2 rfl))
  | block id x hx => exact fun an h => hx an h
  | loop c hc =>
    intro an h
    cases an with
    | lp γ rd pat adv b =>
      have h0 := h (c, .lp γ rd pat adv b) List.mem_cons_self
      exact ⟨h0.1, h0.2, hc b fun p hp => h p (List.mem_cons_of_mem _ hp)⟩
    | no => exact hc _ h
    | two l r => exact hc _ h
    | jn γ rd pat l r => exact hc _ h
    | rb fs t => exact hc _ h
  | _ => exact fun an h => trivial
theorem fnAn_of {P : Program} {F : Orc} {n0 fuel f : Nat} {fn : Func} {c : Code} {an : An} {l : List (Code × An)} (hf : P.funcs[f]? = some fn) (hb : fn.body = some c) (ho : obls c an = l) (h : ∀ p ∈ l, OblOk P F n0 fn.ntmps fuel p) : FnAn P F n0 fuel f an := fun fn' c' h1 h2 => by
  rw [hf] at h1
  cases h1
  rw [hb] at h2
  cases h2
  exact anOk_of c an (by rw [ho]; exact h)
noncomputable def bodyOf (fn : Func) : Code := match fn.body with
  | some c => c
  | none => .skip
theorem bodyOf_eq {fn : Func} (h : fn.body.isNone = false) : fn.body = some (bodyOf fn) := by
  unfold bodyOf
  cases hb : fn.body with
  | none => rw [hb] at h; cases h
  | some c => rfl
noncomputable def loopsOf (c : Code) : List Code := Code.rec [] (fun _ _ _ => []) (fun _ _ x y => x ++ y) (fun _ _ _ x y => x ++ y) (fun _ _ x => x) (fun c x => c :: x) (fun _ _ _ _ _ _ => []) (fun _ => []) (fun _ _ => []) (fun _ => []) (fun _ => []) [] (fun _ => []) c
noncomputable def loopAt (fn : Func) (i : Nat) : Code := (loopsOf (bodyOf fn)).getD i .skip
end Go.Iv
