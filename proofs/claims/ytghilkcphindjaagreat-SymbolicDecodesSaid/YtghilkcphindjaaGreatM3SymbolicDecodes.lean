/- Merged: Ix2, Ua, Ix3, Ix4, Us, Iz, Hl, Gl, Pl, Pl2, Ns1, Ns2, Gn, Ns3. -/
import Derived.Test.YtghilkcphindjaaGreatM2SymbolicDecodes
import Derived.Test.YtghilkcphindjaaGreatProg
import Derived.KernelRfl
set_option linter.unusedSectionVars false
set_option linter.unusedVariables false
set_option linter.unusedSimpArgs false
set_option linter.defProp false
noncomputable section
namespace Go.Iv
variable [U : Uni] [L : UniL]
open Go Go.RowKit
section
variable {β γ δ : Type}
def PN (f : AV → Option β) (c : β → AV) : Prop := ∀ a b, f a = some b → (∀ (ρ : Gh) A w v, Rel A w (a.sub ρ) v → Rel A w ((c b).sub ρ) v) ∧ ∀ n, Ltd n a → Ltd n (c b)
theorem PN.of {f : AV → Option β} {c : β → AV} (h : P1 f c) (hc : ∀ a b, f a = some b → cloB 2 a = true) (hl : ∀ b, (∀ ρ, (c b).sub ρ = c b) ∧ ∀ n, Ltd n (c b)) : PN f c := fun a b hb =>
 ⟨fun ρ A w v hr => by rw [cloB_sub 2 (hc a b hb)] at hr; rw [(hl b).1]; exact h a b hb A w v hr, fun n _ => (hl b).2 n⟩
theorem PN.i (k : IntKind) : PN (asI k) (AVq.n k) := .of (.i k) (fun a b h => by
  unfold asI at h
  split at h
  · rfl
  · cases h) fun b => ⟨fun ρ => sub_lit ρ _, fun n => .lit _⟩
theorem PN.b : PN asB AVq.b := .of .b (fun a b h => by
  unfold asB at h
  split at h
  · rfl
  · cases h) fun b => ⟨fun ρ => sub_lit ρ _, fun n => .lit _⟩
theorem PN.s : PN asS AVq.s := .of .s (fun a b h => by
  unfold asS at h
  split at h
  · rfl
  · cases h) fun b => ⟨fun ρ => sub_lit ρ _, fun n => .lit _⟩
theorem PN.l (t : Nat) : PN (asL t) (AVq.sl t) := .of (.l t) (fun a b h => by
  unfold asL at h
  split at h
  · rfl
  · rfl
  · cases h) fun b => ⟨fun ρ => sub_sl ρ _ _, fun n => .sl _ _⟩
def asGc (t : Nat) : AV → Option (U.Dat t)
 | .agg cs => match cs.all (cloB 1) with
  | true => L.parse t cs
  | false => none
 | _ => none
theorem PN.g (t : Nat) : PN (asGc t) (fun x => .agg (U.cells t x)) := .of (fun a b h A w v hr => by
  unfold asGc at h
  split at h
  · split at h
    · obtain ⟨us, rfl, h2⟩ := hr.aggInv
      exact Rel.aggL (L.parse_ok _ _ _ h A w us h2)
    · cases h
  · cases h) (fun a b h => by
  unfold asGc at h
  split at h
  · split at h
    · rename_i hc; exact hc
    · cases h
  · cases h) fun b => ⟨fun ρ => by rw [sub_agg, L.clo], fun n => .agg _ (L.ltd t b n)⟩
def asP (id off : Nat) : AV → Option Unit
 | .ptr i o => match Nat.beq i id && Nat.beq o off with
  | true => some ()
  | false => none
 | _ => none
theorem PN.p (id off : Nat) : PN (asP id off) (fun _ => .ptr id off) := fun a b h => by
  unfold asP at h
  split at h
  · split at h
    · rename_i hc
      rw [Bool.and_eq_true] at hc
      rw [beqT hc.1, beqT hc.2]
      exact ⟨fun _ _ _ _ h => h, fun _ h => h⟩
    · cases h
  · cases h
def asO (id : Nat) : AV → Option Unit
 | .own i => match Nat.beq i id with
  | true => some ()
  | false => none
 | _ => none
theorem PN.o (id : Nat) : PN (asO id) (fun _ => .own id) := fun a b h => by
  unfold asO at h
  split at h
  · split at h
    · rename_i hc
      rw [beqT hc]
      exact ⟨fun _ _ _ _ h => h, fun _ h => h⟩
    · cases h
  · cases h
def PkN (q : List AV → Option γ) (c : γ → List AV) : Prop := ∀ cs g, q cs = some g → (∀ (ρ : Gh) A w us, RelL A w (cs.map (AVq.sub ρ)) us → RelL A w ((c g).map (AVq.sub ρ)) us) ∧ ∀ n, (∀ a ∈ cs, Ltd n a) → ∀ a ∈ c g, Ltd n a
theorem PkN.nil : PkN pkN (fun _ => []) := fun cs g h => by
  unfold pkN at h
  split at h
  · exact ⟨fun ρ A w us hr => hr, fun n h => h⟩
  · cases h
theorem PkN.cons {f : AV → Option β} {c : β → AV} {q : List AV → Option γ} {d : γ → List AV} (h : PN f c) (hq : PkN q d) : PkN (pkC f q) (fun x => c x.1 :: d x.2) := fun cs g hg => by
  unfold pkC at hg
  split at hg
  · obtain ⟨b, h1, hg⟩ := Option.bind_eq_some_iff.1 hg
    obtain ⟨g', h2, rfl⟩ := Option.map_eq_some_iff.1 hg
    obtain ⟨h3, h4⟩ := h _ _ h1
    obtain ⟨h5, h6⟩ := hq _ _ h2
    refine ⟨fun ρ A w us hr => ?_, fun n hn a ha => ?_⟩
    · rw [List.map_cons] at hr ⊢
      obtain ⟨v, us', rfl, h7, h8⟩ := hr.head
      exact RelL.cons (h3 ρ A w v h7) (h5 ρ A w us' h8)
    · rcases List.mem_cons.1 ha with rfl | ha
      · exact h4 n (hn _ List.mem_cons_self)
      · exact h6 n (fun a ha => hn a (List.mem_cons_of_mem _ ha)) a ha
  · cases hg
def asFf (k : Nat) (q : List AV → Option γ) : AV → Option γ
 | .fn (.func i) cs => match Nat.beq i k with
  | true => q cs
  | false => none
 | _ => none
theorem PN.ff (k : Nat) {q : List AV → Option γ} {c : γ → List AV} (h : PkN q c) : PN (asFf k q) (fun x => .fn (.func k) (c x)) := fun a b hb => by
  unfold asFf at hb
  split at hb
  · rename_i i cs
    split at hb
    · rename_i hi
      have hi := beqT hi
      subst hi
      obtain ⟨h1, h2⟩ := h _ _ hb
      refine ⟨fun ρ A w v hr => ?_, fun n hn => .fn _ _ (h2 n hn.fnL)⟩
      rw [sub_fn] at hr ⊢
      generalize ha : AVq.fn (Fn.func i) (cs.map (AVq.sub ρ)) = a at hr
      cases hr with
      | fn f cs' us hl hr =>
        cases ha
        obtain ⟨h3, h4⟩ := h1 ρ A w us ⟨hl, hr⟩
        exact .fn _ _ us h3 h4
      | _ => cases ha
    · cases hb
  · cases hb
def asFp (q : List AV → Option γ) : AV → Option γ
 | .fp cs => q cs
 | _ => none
theorem PN.fp {q : List AV → Option γ} {c : γ → List AV} (h : PkN q c) : PN (asFp q) (fun x => .fp (c x)) := fun a b hb => by
  unfold asFp at hb
  split at hb
  · rename_i cs
    obtain ⟨h1, h2⟩ := h _ _ hb
    refine ⟨fun ρ A w v hr => ?_, fun n hn => ?_⟩
    · rw [sub_fp] at hr ⊢
      generalize ha : AVq.fp (cs.map (AVq.sub ρ)) = a at hr
      cases hr with
      | fp cs' b o us hb hA hl hc hr =>
        cases ha
        obtain ⟨h3, h4⟩ := h1 ρ A w us ⟨hl, hr⟩
        exact .fp _ b o us hb hA h3 hc h4
      | _ => cases ha
    · generalize ha : AVq.fp cs = a at hn
      cases hn with
      | fp cs' h5 => cases ha; exact .fp _ (h2 n h5)
      | _ => cases ha
  · cases hb
def asNs : AV → Option Unit
 | .lit (.slice none 0 0) => some ()
 | _ => none
theorem PN.ns : PN asNs (fun _ => .lit (.slice none 0 0)) := fun a b hb => by
  unfold asNs at hb
  split at hb
  · exact ⟨fun _ _ _ _ h => h, fun _ h => h⟩
  · cases hb
def asCs (t : Nat) (cs : List AV) : Option (U.Dat t) := match cs.all (cloB 1) with
  | true => L.parse t cs
  | false => none
theorem PkN.parse (t : Nat) : PkN (asCs t) (fun x => U.cells t x) := fun cs g h => by
  unfold asCs at h
  split at h
  · rename_i hc
    have e : ∀ ρ, cs.map (AVq.sub ρ) = cs := fun ρ => by
      have : cs.map (AVq.sub ρ) = cs.map id := List.map_congr_left fun a ha => cloB_sub 1 (List.all_eq_true.1 hc a ha)
      rw [this, List.map_id]
    exact ⟨fun ρ A w us hr => by rw [e] at hr; rw [L.clo]; exact L.parse_ok _ _ _ h A w us hr, fun n _ => L.ltd t g n⟩
  · cases h
def slN (_ : ET) : Option Unit := some ()
def slC (t : Nat) (f : AV → Option β) (q : ET → Option γ) (T : ET) : Option (β × γ) := match eget T t with
 | some a => (f a).bind fun b => (q T).map fun g => (b, g)
 | none => none
def SlOk (q : ET → Option γ) (d : γ → Env) : Prop := ∀ T g, q T = some g → ∀ (E : Env), Hold T E → (∀ (ρ : Gh) A w tmps, Slots A w (E.sub ρ) tmps → Slots A w ((d g).sub ρ) tmps) ∧ ∀ n, E.Ltd n → (d g).Ltd n
theorem SlOk.nil : SlOk slN (fun _ => []) := fun T g _ E _ => ⟨fun ρ A w tmps _ t av h => (by cases h), fun n _ p hp => (by cases hp)⟩
theorem SlOk.cons {t : Nat} {f : AV → Option β} {c : β → AV} {q : ET → Option γ} {d : γ → Env} (hf : PN f c) (hq : SlOk q d) : SlOk (slC t f q) (fun x => (t, c x.1) :: d x.2) := fun T g h E hh => by
  unfold slC at h
  split at h
  case h_2 => cases h
  rename_i a ha
  obtain ⟨b, hb, h⟩ := Option.bind_eq_some_iff.1 h
  obtain ⟨g', hg, rfl⟩ := Option.map_eq_some_iff.1 h
  obtain ⟨h1, h2⟩ := hf a b hb
  obtain ⟨h3, h4⟩ := hq T g' hg E hh
  refine ⟨fun ρ A w tmps hs s av hx => ?_, fun n hn p hp => ?_⟩
  · have hx : Env.get ((t, (c b).sub ρ) :: (d g').sub ρ) s = some av := hx
    by_cases hts : t = s
    · subst hts
      rw [Env.get_hit] at hx
      cases hx
      obtain ⟨v, q1, q2⟩ := hs t (a.sub ρ) (by rw [Env.sub_get, hh t a ha]; rfl)
      exact ⟨v, q1, h1 ρ A w v q2⟩
    · rw [Env.get_miss _ _ hts] at hx
      exact h3 ρ A w tmps hs s av hx
  · rcases List.mem_cons.1 hp with rfl | hp
    · exact h2 n (hn _ (Env.get_mem (hh t a ha)))
    · exact h4 n hn p hp
def etOf (E : Env) : ET := List.rec .e (fun p _ T => eput p.1 p.2 T) E
theorem etOf_hold : ∀ E : Env, Hold (etOf E) E
 | [] => fun t d h => by cases t <;> cases h
 | p :: E => (etOf_hold E).put p.1 p.2
def leR (p p' : Nat × IR) : Prop := p.1 = p'.1 ∧ (∀ (ρ : Gh) A w, (p.2.res ρ p.1).ok A w → (p'.2.res ρ p'.1).ok A w) ∧ (∀ ρ : Gh, (p.2.res ρ p.1).blk = (p'.2.res ρ p'.1).blk) ∧ ∀ n, p.2.Ltd n → p'.2.Ltd n
inductive LeRs : IRs → IRs → Prop
 | nil : LeRs [] []
 | cons {p p' : Nat × IR} {R R' : IRs} (h : leR p p') (hs : LeRs R R') : LeRs (p :: R) (p' :: R')
def rsN : IRs → Option Unit
 | [] => some ()
 | _ => none
def rsR (id t : Nat) (q : IRs → Option γ) : IRs → Option (List (U.Dat t) × γ)
 | (i, .row t' l) :: R => match Nat.beq i id with
  | true => (castL t' t l).bind fun l => (q R).map fun g => (l, g)
  | false => none
 | _ => none
def RsOk (q : IRs → Option γ) (d : γ → IRs) : Prop := ∀ R g, q R = some g → LeRs R (d g)
theorem RsOk.nil : RsOk rsN (fun _ => []) := fun R g h => by
 cases R with
 | nil => exact .nil
 | cons p R => cases h
theorem RsOk.row {id t : Nat} {q : IRs → Option γ} {d : γ → IRs} (hq : RsOk q d) : RsOk (rsR id t q) (fun x => (id, .row t x.1) :: d x.2) := fun R g h => by
  obtain ⟨i, t', l, R', rfl, hcd, h9⟩ : ∃ i t' l R', R = (i, IR.row t' l) :: R' ∧ Nat.beq i id = true ∧ ((castL t' t l).bind fun l => (q R').map fun g => (l, g)) = some g := by
    unfold rsR at h
    split at h
    · split at h
      · rename_i hcd; exact ⟨_, _, _, _, rfl, hcd, h⟩
      · cases h
    · cases h
  have e1 := beqT hcd
  subst e1
  obtain ⟨l', hl, h9⟩ := Option.bind_eq_some_iff.1 h9
  obtain ⟨g', hg, rfl⟩ := Option.map_eq_some_iff.1 h9
  obtain ⟨rfl, rfl⟩ := castL_ok hl
  exact .cons ⟨rfl, fun ρ A w h => h, fun ρ => rfl, fun n h => h⟩ (hq _ _ hg)
def rsN2 (id T : Nat) (f : List AV → Option β) (q : IRs → Option γ) : IRs → Option (β × γ)
 | (i, .box T' cs) :: R => match Nat.beq i id && Nat.beq T' T with
  | true => (f cs).bind fun b => (q R).map fun g => (b, g)
  | false => none
 | _ => none
theorem RsOk.boxN {id T : Nat} {f : List AV → Option β} {c : β → List AV} {q : IRs → Option γ} {d : γ → IRs} (hf : PkN f c) (hq : RsOk q d) : RsOk (rsN2 id T f q) (fun x => (id, .box T (c x.1)) :: d x.2) := fun R g h => by
  obtain ⟨i, T', cs, R', rfl, hcd, h9⟩ : ∃ i T' cs R', R = (i, IR.box T' cs) :: R' ∧ (Nat.beq i id && Nat.beq T' T) = true ∧ ((f cs).bind fun b => (q R').map fun g => (b, g)) = some g := by
    unfold rsN2 at h
    split at h
    · split at h
      · rename_i hcd; exact ⟨_, _, _, _, rfl, hcd, h⟩
      · cases h
    · cases h
  rw [Bool.and_eq_true] at hcd
  have e1 := beqT hcd.1
  have e2 := beqT hcd.2
  subst e1 e2
  obtain ⟨b, hb, h9⟩ := Option.bind_eq_some_iff.1 h9
  obtain ⟨g', hg, rfl⟩ := Option.map_eq_some_iff.1 h9
  obtain ⟨k1, k2⟩ := hf _ _ hb
  exact .cons ⟨rfl, fun ρ A w ⟨us, h1, h2⟩ => ⟨us, h1, k1 ρ A w us h2⟩, fun ρ => rfl, fun n hn => k2 n hn⟩ (hq _ _ hg)
theorem leR_blks {ρ : Gh} : ∀ {R R' : IRs}, LeRs R R' → blks (IRs.res ρ R) = blks (IRs.res ρ R')
 | _, _, .nil => rfl
 | _, _, .cons (p := p) (p' := p') h hs => by
  unfold blks IRs.res
  rw [List.map_cons, List.map_cons, List.filterMap_cons, List.filterMap_cons, h.2.2.1 ρ]
  have := leR_blks (ρ := ρ) hs
  unfold blks IRs.res at this
  rw [this]
theorem leR_ok {ρ : Gh} {A : Nat → Prop} {w : World} : ∀ {R R' : IRs}, LeRs R R' → (∀ r ∈ IRs.res ρ R, r.ok A w) → ∀ r ∈ IRs.res ρ R', r.ok A w
  | _, _, .nil, _ => fun r hr => by cases hr
  | _, _, .cons (p := p) (p' := p') h hs, h0 => fun r hr => by
    rcases List.mem_cons.1 hr with rfl | hr
    · exact h.2.1 ρ A w (h0 _ List.mem_cons_self)
    · exact leR_ok hs (fun r hr => h0 r (List.mem_cons_of_mem _ hr)) r hr
theorem leR_ltd {n : Nat} : ∀ {R R' : IRs}, LeRs R R' → IRs.Ltd n R → IRs.Ltd n R'
  | _, _, .nil, h => h
  | _, _, .cons (p := p) (p' := p') h hs, h0 => fun q hq => by
    rcases List.mem_cons.1 hq with rfl | hq
    · exact ⟨by rw [← h.1]; exact (h0 _ List.mem_cons_self).1, h.2.2.2 n (h0 _ List.mem_cons_self).2⟩
    · exact leR_ltd hs (fun q hq => h0 q (List.mem_cons_of_mem _ hq)) q hq
def stR (m : Nat) (q : ET → Option γ) (r : IRs → Option δ) (s : St) : Option (γ × δ) := match Nat.beq s.nx m with
 | true => (q s.E).bind fun g => (r s.R).map fun h => (g, h)
 | false => none
def stP (m : Nat) (d : γ → Env) (e : δ → IRs) (p : γ × δ) : St := ⟨etOf (d p.1), e p.2, m⟩
theorem stR_ok {n0 n m : Nat} {q : ET → Option γ} {r : IRs → Option δ} {d : γ → Env} {e : δ → IRs} (hq : SlOk q d) (hr : RsOk r e) : RdOk n0 n (stR m q r) (stP m d e) := fun C s p a w _ h hm => by
  unfold stR at h
  split at h
  case h_2 => cases h
  rename_i hnx
  have hnx := beqT hnx
  obtain ⟨g, hg, h⟩ := Option.bind_eq_some_iff.1 h
  obtain ⟨g', hg', rfl⟩ := Option.map_eq_some_iff.1 h
  obtain ⟨E, hh, hE, hR, ρ, hag, hsim⟩ := hm
  obtain ⟨h1, h2⟩ := hq _ _ hg E hh
  have h3 := hr _ _ hg'
  have hb : blks (IRs.res ρ (e g')) = blks (IRs.res ρ s.R) := (leR_blks h3).symm
  have hal : ∀ b, al C.C (IRs.res ρ s.R) b → al C.C (IRs.res ρ (e g')) b := fun b hA => ⟨hA.1, by rw [hb]; exact hA.2⟩
  subst hnx
  have hdis : (blks (IRs.res ρ (e g'))).Nodup := by rw [hb]; exact hsim.good.dis
  refine ⟨d g, etOf_hold _, h2 _ hE, leR_ltd h3 hR, ρ, hag, hsim.defers.step (fun b _ hA => ⟨hal b hA, rfl⟩), hsim.size, fun t av ht => ?_, hsim.good.kept, fun x hx => ?_, hdis, fun b hx => hsim.good.own b (by rw [← hb]; exact hx)⟩
  · obtain ⟨v, q1, q2⟩ := h1 ρ _ w a.tmps hsim.slots t av ht
    exact ⟨v, q1, q2.mono fun b _ hA => ⟨hal b hA, rfl⟩⟩
  · exact (leR_ok h3 hsim.good.res x hx).mono (fun b _ hA => ⟨hal b hA, rfl⟩) (fun _ _ => rfl)
end
def rdM {γ γ' : Type} (e : γ → γ') (rd : St → Option γ) (s : St) : Option γ' := match rd s with
 | some p => some (e p)
 | none => none
theorem RdOk.m {γ γ' : Type} {n0 n : Nat} {rd : St → Option γ} {pat : γ → St} (h : RdOk n0 n rd pat) (e : γ → γ') {pat' : γ' → St} (he : ∀ p, pat' (e p) = pat p) : RdOk n0 n (rdM e rd) pat' := fun C s p a w hC hr hm => by
  unfold rdM at hr
  split at hr
  · rename_i p' hp
    cases hr
    rw [he]
    exact h C s p' a w hC hp hm
  · cases hr
def obls (c : Code) : An → List (Code × An) :=
 Code.rec (fun _ => []) (fun _ _ _ an => match an with
   | .rb fs t => [(.skip, .rb fs t)]
   | _ => []) (fun _ _ x y an => x an.l ++ y an.r) (fun _ _ _ x y an => (match an with
   | .jn γ rd pat l r => [(.skip, .jn γ rd pat l r)]
   | _ => []) ++ (x an.l ++ y an.r)) (fun _ _ x => x)
  (fun c x an => match an with
   | .lp γ rd pat adv b => (c, .lp γ rd pat adv b) :: x b
   | an => x an) (fun _ _ _ _ _ _ _ => []) (fun _ _ => []) (fun _ _ _ => []) (fun _ _ => []) (fun _ _ => []) (fun _ => []) (fun _ _ => []) c
def OblOk (P : Program) (F : Orc) (n0 n : Nat) (fuel : Nat) (p : Code × An) : Prop := match p.2 with
 | .lp _ rd pat adv b => RdOk n0 n rd pat ∧ AdvOk (execA P F n fuel p.1) rd pat adv b
 | .jn _ rd pat _ _ => RdOk n0 n rd pat
 | .rb fs _ => ∀ f ∈ fs, PureF F f
 | _ => True
theorem anOk_of {P : Program} {F : Orc} {n0 n fuel : Nat} (c : Code) : ∀ an, (∀ p ∈ obls c an, OblOk P F n0 n fuel p) → AnOk P F n0 n fuel c an := by
 induction c with
 | region id ops draw =>
  intro an h
  cases an with
  | rb fs t => exact h (.skip, .rb fs t) (List.mem_singleton.2 rfl)
  | _ => exact trivial
 | seq x y hx hy =>
  intro an h
  exact ⟨hx an.l fun p hp => h p (List.mem_append_left _ hp), hy an.r fun p hp => h p (List.mem_append_right _ hp)⟩
 | cond c x y hx hy =>
  intro an h
  refine ⟨fun γ rd pat l r he => ?_, hx an.l fun p hp => h p (List.mem_append_right _ (List.mem_append_left _ hp)), hy an.r fun p hp => h p (List.mem_append_right _ (List.mem_append_right _ hp))⟩
  subst he
  exact h (.skip, .jn γ rd pat l r) (List.mem_append_left _ (List.mem_singleton.2 rfl))
 | block id x hx => exact fun an h => hx an h
 | loop c hc =>
  intro an h
  cases an with
  | lp γ rd pat adv b =>
   have h0 := h (c, .lp γ rd pat adv b) List.mem_cons_self
   exact ⟨h0.1, h0.2, hc b fun p hp => h p (List.mem_cons_of_mem _ hp)⟩
  | no => exact hc _ h
  | two l r => exact hc _ h
  | jn γ rd pat l r => exact hc _ h
  | rb fs t => exact hc _ h
 | _ => exact fun an h => trivial
theorem fnAn_of {P : Program} {F : Orc} {n0 fuel f : Nat} {fn : Func} {c : Code} {an : An} {l : List (Code × An)} (hf : P.funcs[f]? = some fn) (hb : fn.body = some c) (ho : obls c an = l) (h : ∀ p ∈ l, OblOk P F n0 fn.ntmps fuel p) : FnAn P F n0 fuel f an := fun fn' c' h1 h2 => by
 rw [hf] at h1
 cases h1
 rw [hb] at h2
 cases h2
 exact anOk_of c an (by rw [ho]; exact h)
def bodyOf (fn : Func) : Code := match fn.body with
 | some c => c
 | none => .skip
theorem bodyOf_eq {fn : Func} (h : fn.body.isNone = false) : fn.body = some (bodyOf fn) := by
 unfold bodyOf
 cases hb : fn.body with
 | none => rw [hb] at h; cases h
 | some c => rfl
def loopsOf (c : Code) : List Code := Code.rec [] (fun _ _ _ => []) (fun _ _ x y => x ++ y) (fun _ _ _ x y => x ++ y) (fun _ _ x => x) (fun c x => c :: x) (fun _ _ _ _ _ _ => []) (fun _ => []) (fun _ _ => []) (fun _ => []) (fun _ => []) [] (fun _ => []) c
def loopAt (fn : Func) (i : Nat) : Code := (loopsOf (bodyOf fn)).getD i .skip
end Go.Iv
end
noncomputable section
set_option maxRecDepth 100000
namespace Go.Proofs.YtghilkcphindjaaGreat
open Go Go.Iv
open Go.IntKind (i64 u64)
structure GTerm where
 fOp : Int
 fN : Int
 fKids : List GTerm
instance : Inhabited GTerm := ⟨⟨0, 0, []⟩⟩
structure GStep where
 fDo : Int
 fCost : Int
 fVar : Int
 fN : Int
 fTerm : GTerm
 fThen : List GStep
 fElse : List GStep
 fBounds : List Int
instance : Inhabited GStep := ⟨⟨0, 0, 0, 0, ⟨0, 0, []⟩, [], [], []⟩⟩
structure GVar where
 fName : ByteArray
 fKind : Int
 fLow : Int
 fHigh : Int
 fInit : Int
 deriving Inhabited, DecidableEq
structure Hatch where
 fName : ByteArray
 fLow : Int
 fHigh : Int
 fTerm : GTerm
 deriving Inhabited
structure Flat where
 fVars : List GVar
 fHatches : List Hatch
 fBody : List GStep
 deriving Inhabited
structure Slot where
 fVar : Int
 fFirst : Int
 fBits : Int
 deriving Inhabited, DecidableEq
structure Fork where
 fVar : Int
 fLow : Int
 fHigh : Int
 deriving Inhabited, DecidableEq
structure Bdd where
 fVars : Int
 fNodes : List Fork
 fRoot : Int
 deriving Inhabited, DecidableEq
structure View where
 fPublic : List Int
 fTimed : Bool
 deriving Inhabited, DecidableEq
structure Observation where
 fOutputs : List Int
 fTime : Int
 deriving Inhabited, DecidableEq
structure Mtbdd where
 fVars : Int
 fLeaves : List Int
 fNodes : List Fork
 fRoot : Int
 deriving Inhabited, DecidableEq
structure Inputs where
 fSecret : List Int
 fPublic : List Int
 fRandom : List Int
 deriving Inhabited, DecidableEq
structure GState where
 fValues : List Int
 fOutputs : List Int
 fTime : Int
 deriving Inhabited, DecidableEq
structure Map where
 fSeen : List Observation
 fDiagram : Mtbdd
 deriving Inhabited, DecidableEq
structure Executor where
 fF : Flat
 fVars : Int
 fSecret : Int
 fSlots : List Slot
 fHatches : List Mtbdd
 deriving Inhabited
structure GState2 where
 fValues : List Mtbdd
 fCount : Mtbdd
 fOut : List Mtbdd
 fTime : Mtbdd
 deriving Inhabited, DecidableEq
structure Measure where
 fNodes : Int
 fDeep : Bool
 deriving Inhabited, DecidableEq
structure Most where
 fSteps : Int
 fOutputs : Int
 fTime : Int
 deriving Inhabited, DecidableEq
structure Pair where
 fFirst : Int
 fSecond : Int
 deriving Inhabited, DecidableEq
structure End where
 fGoes : Bdd
 fState : GState2
 deriving Inhabited, DecidableEq
structure Span where
 fLow : Int
 fHigh : Int
 deriving Inhabited, DecidableEq
inductive Ky
 | k3
 | k4
 | k24
 | k26
 | k38
 | k42
 | k46
 | k53
 | k55
 | k65
 | k80
 | k84
 | k88
 | k96
 | k106
 | k108
 | k111
 | k113
 | k116
 | k138
 | k150
 | k175
 | k177
 | k181
 | k231
 | k273
 | k317
 | no
def ky : Nat → Ky
 | 3 => .k3
 | 4 => .k4
 | 24 => .k24
 | 26 => .k26
 | 38 => .k38
 | 42 => .k42
 | 46 => .k46
 | 53 => .k53
 | 55 => .k55
 | 65 => .k65
 | 80 => .k80
 | 84 => .k84
 | 88 => .k88
 | 96 => .k96
 | 106 => .k106
 | 108 => .k108
 | 111 => .k111
 | 113 => .k113
 | 116 => .k116
 | 138 => .k138
 | 150 => .k150
 | 175 => .k175
 | 177 => .k177
 | 181 => .k181
 | 231 => .k231
 | 273 => .k273
 | 317 => .k317
 | _ => .no
def datK : Ky → Type
 | .k3 => Int
 | .k4 => Bool
 | .k24 => List GStep
 | .k26 => Flat
 | .k38 => Slot
 | .k42 => Bdd
 | .k46 => List Int
 | .k53 => View
 | .k55 => Observation
 | .k65 => Int
 | .k80 => Mtbdd
 | .k84 => Inputs
 | .k88 => GState
 | .k96 => Map
 | .k106 => GTerm
 | .k108 => GVar
 | .k111 => GStep
 | .k113 => Fork
 | .k116 => Hatch
 | .k138 => Executor
 | .k150 => GState2
 | .k175 => Nat
 | .k177 => Measure
 | .k181 => Most
 | .k231 => Pair
 | .k273 => End
 | .k317 => Span
 | .no => Unit
abbrev datU (t : Nat) : Type := datK (ky t)
@[reducible] def inhK : (k : Ky) → Inhabited (datK k)
 | .k3 => ⟨(default : Int)⟩
 | .k4 => ⟨(default : Bool)⟩
 | .k24 => ⟨(default : List GStep)⟩
 | .k26 => ⟨(default : Flat)⟩
 | .k38 => ⟨(default : Slot)⟩
 | .k42 => ⟨(default : Bdd)⟩
 | .k46 => ⟨(default : List Int)⟩
 | .k53 => ⟨(default : View)⟩
 | .k55 => ⟨(default : Observation)⟩
 | .k65 => ⟨(default : Int)⟩
 | .k80 => ⟨(default : Mtbdd)⟩
 | .k84 => ⟨(default : Inputs)⟩
 | .k88 => ⟨(default : GState)⟩
 | .k96 => ⟨(default : Map)⟩
 | .k106 => ⟨(default : GTerm)⟩
 | .k108 => ⟨(default : GVar)⟩
 | .k111 => ⟨(default : GStep)⟩
 | .k113 => ⟨(default : Fork)⟩
 | .k116 => ⟨(default : Hatch)⟩
 | .k138 => ⟨(default : Executor)⟩
 | .k150 => ⟨(default : GState2)⟩
 | .k175 => ⟨(0 : Nat)⟩
 | .k177 => ⟨(default : Measure)⟩
 | .k181 => ⟨(default : Most)⟩
 | .k231 => ⟨(default : Pair)⟩
 | .k273 => ⟨(default : End)⟩
 | .k317 => ⟨(default : Span)⟩
 | .no => ⟨()⟩
def szK : Ky → Nat
 | .k3 => 1
 | .k4 => 1
 | .k24 => 1
 | .k26 => 3
 | .k38 => 3
 | .k42 => 3
 | .k46 => 1
 | .k53 => 2
 | .k55 => 2
 | .k65 => 1
 | .k80 => 4
 | .k84 => 3
 | .k88 => 3
 | .k96 => 5
 | .k106 => 3
 | .k108 => 5
 | .k111 => 10
 | .k113 => 3
 | .k116 => 6
 | .k138 => 7
 | .k150 => 10
 | .k175 => 1
 | .k177 => 2
 | .k181 => 3
 | .k231 => 2
 | .k273 => 13
 | .k317 => 2
 | .no => 0
def cellsK : (k : Ky) → datK k → List (AVq datU)
 | .k3, x => (fun x : Int => [.n .i64 x]) x
 | .k4, x => (fun x : Bool => [.b x]) x
 | .k24, x => (fun x : List GStep => [.sl 111 x]) x
 | .k26, x => (fun x : Flat => [.sl 108 x.fVars, .sl 116 x.fHatches, .sl 111 x.fBody]) x
 | .k38, x => (fun x : Slot => [.n .i64 x.fVar, .n .i64 x.fFirst, .n .i64 x.fBits]) x
 | .k42, x => (fun x : Bdd => [.n .i64 x.fVars, .sl 113 x.fNodes, .n .i64 x.fRoot]) x
 | .k46, x => (fun x : List Int => [.sl 3 x]) x
 | .k53, x => (fun x : View => [.sl 3 x.fPublic, .b x.fTimed]) x
 | .k55, x => (fun x : Observation => [.sl 3 x.fOutputs, .n .i64 x.fTime]) x
 | .k65, x => (fun x : Int => [.n .i64 x]) x
 | .k80, x => (fun x : Mtbdd => [.n .i64 x.fVars, .sl 3 x.fLeaves, .sl 113 x.fNodes, .n .i64 x.fRoot]) x
 | .k84, x => (fun x : Inputs => [.sl 3 x.fSecret, .sl 3 x.fPublic, .sl 3 x.fRandom]) x
 | .k88, x => (fun x : GState => [.sl 3 x.fValues, .sl 3 x.fOutputs, .n .i64 x.fTime]) x
 | .k96, x => (fun x : Map => [.sl 55 x.fSeen, .n .i64 x.fDiagram.fVars, .sl 3 x.fDiagram.fLeaves, .sl 113 x.fDiagram.fNodes, .n .i64 x.fDiagram.fRoot]) x
 | .k106, x => (fun x : GTerm => [.n .i64 x.fOp, .n .i64 x.fN, .sl 106 x.fKids]) x
 | .k108, x => (fun x : GVar => [.s x.fName, .n .i64 x.fKind, .n .i64 x.fLow, .n .i64 x.fHigh, .n .i64 x.fInit]) x
 | .k111, x => (fun x : GStep => [.n .i64 x.fDo, .n .i64 x.fCost, .n .i64 x.fVar, .n .i64 x.fN, .n .i64 x.fTerm.fOp, .n .i64 x.fTerm.fN, .sl 106 x.fTerm.fKids, .sl 111 x.fThen, .sl 111 x.fElse, .sl 3 x.fBounds]) x
 | .k113, x => (fun x : Fork => [.n .i64 x.fVar, .n .i64 x.fLow, .n .i64 x.fHigh]) x
 | .k116, x => (fun x : Hatch => [.s x.fName, .n .i64 x.fLow, .n .i64 x.fHigh, .n .i64 x.fTerm.fOp, .n .i64 x.fTerm.fN, .sl 106 x.fTerm.fKids]) x
 | .k138, x => (fun x : Executor => [.sl 108 x.fF.fVars, .sl 116 x.fF.fHatches, .sl 111 x.fF.fBody, .n .i64 x.fVars, .n .i64 x.fSecret, .sl 38 x.fSlots, .sl 80 x.fHatches]) x
 | .k150, x => (fun x : GState2 => [.sl 80 x.fValues, .n .i64 x.fCount.fVars, .sl 3 x.fCount.fLeaves, .sl 113 x.fCount.fNodes, .n .i64 x.fCount.fRoot, .sl 80 x.fOut, .n .i64 x.fTime.fVars, .sl 3 x.fTime.fLeaves, .sl 113 x.fTime.fNodes, .n .i64 x.fTime.fRoot]) x
 | .k175, x => (fun x : Nat => [.fn (.func x) []]) x
 | .k177, x => (fun x : Measure => [.n .i64 x.fNodes, .b x.fDeep]) x
 | .k181, x => (fun x : Most => [.n .i64 x.fSteps, .n .i64 x.fOutputs, .n .i64 x.fTime]) x
 | .k231, x => (fun x : Pair => [.n .i64 x.fFirst, .n .i64 x.fSecond]) x
 | .k273, x => (fun x : End => [.n .i64 x.fGoes.fVars, .sl 113 x.fGoes.fNodes, .n .i64 x.fGoes.fRoot, .sl 80 x.fState.fValues, .n .i64 x.fState.fCount.fVars, .sl 3 x.fState.fCount.fLeaves, .sl 113 x.fState.fCount.fNodes, .n .i64 x.fState.fCount.fRoot, .sl 80 x.fState.fOut, .n .i64 x.fState.fTime.fVars, .sl 3 x.fState.fTime.fLeaves, .sl 113 x.fState.fTime.fNodes, .n .i64 x.fState.fTime.fRoot]) x
 | .k317, x => (fun x : Span => [.n .i64 x.fLow, .n .i64 x.fHigh]) x
 | .no, _ => []
instance uni : Uni := ⟨datU, fun t => inhK (ky t), fun t => szK (ky t), fun t => cellsK (ky t)⟩
def parseK : (k : Ky) → List AV → Option (datK k)
 | .k3 => fun cs => ((pkC (asI .i64) pkN) cs).map (fun g : Int × Unit => (g.1 : Int))
 | .k4 => fun cs => ((pkC asB pkN) cs).map (fun g : Bool × Unit => (g.1 : Bool))
 | .k24 => fun cs => ((pkC (asL 111) pkN) cs).map (fun g : (List (datU 111)) × Unit => (g.1 : List GStep))
 | .k26 => fun cs => ((pkC (asL 108) (pkC (asL 116) (pkC (asL 111) pkN))) cs).map (fun g : (List (datU 108)) × (List (datU 116)) × (List (datU 111)) × Unit => ((Flat.mk g.1 g.2.1 g.2.2.1) : Flat))
 | .k38 => fun cs => ((pkC (asI .i64) (pkC (asI .i64) (pkC (asI .i64) pkN))) cs).map (fun g : Int × Int × Int × Unit => ((Slot.mk g.1 g.2.1 g.2.2.1) : Slot))
 | .k42 => fun cs => ((pkC (asI .i64) (pkC (asL 113) (pkC (asI .i64) pkN))) cs).map (fun g : Int × (List (datU 113)) × Int × Unit => ((Bdd.mk g.1 g.2.1 g.2.2.1) : Bdd))
 | .k46 => fun cs => ((pkC (asL 3) pkN) cs).map (fun g : (List (datU 3)) × Unit => (g.1 : List Int))
 | .k53 => fun cs => ((pkC (asL 3) (pkC asB pkN)) cs).map (fun g : (List (datU 3)) × Bool × Unit => ((View.mk g.1 g.2.1) : View))
 | .k55 => fun cs => ((pkC (asL 3) (pkC (asI .i64) pkN)) cs).map (fun g : (List (datU 3)) × Int × Unit => ((Observation.mk g.1 g.2.1) : Observation))
 | .k65 => fun cs => ((pkC (asI .i64) pkN) cs).map (fun g : Int × Unit => (g.1 : Int))
 | .k80 => fun cs => ((pkC (asI .i64) (pkC (asL 3) (pkC (asL 113) (pkC (asI .i64) pkN)))) cs).map (fun g : Int × (List (datU 3)) × (List (datU 113)) × Int × Unit => ((Mtbdd.mk g.1 g.2.1 g.2.2.1 g.2.2.2.1) : Mtbdd))
 | .k84 => fun cs => ((pkC (asL 3) (pkC (asL 3) (pkC (asL 3) pkN))) cs).map (fun g : (List (datU 3)) × (List (datU 3)) × (List (datU 3)) × Unit => ((Inputs.mk g.1 g.2.1 g.2.2.1) : Inputs))
 | .k88 => fun cs => ((pkC (asL 3) (pkC (asL 3) (pkC (asI .i64) pkN))) cs).map (fun g : (List (datU 3)) × (List (datU 3)) × Int × Unit => ((GState.mk g.1 g.2.1 g.2.2.1) : GState))
 | .k96 => fun cs => ((pkC (asL 55) (pkC (asI .i64) (pkC (asL 3) (pkC (asL 113) (pkC (asI .i64) pkN))))) cs).map (fun g : (List (datU 55)) × Int × (List (datU 3)) × (List (datU 113)) × Int × Unit => ((Map.mk g.1 (Mtbdd.mk g.2.1 g.2.2.1 g.2.2.2.1 g.2.2.2.2.1)) : Map))
 | .k106 => fun cs => ((pkC (asI .i64) (pkC (asI .i64) (pkC (asL 106) pkN))) cs).map (fun g : Int × Int × (List (datU 106)) × Unit => ((GTerm.mk g.1 g.2.1 g.2.2.1) : GTerm))
 | .k108 => fun cs => ((pkC asS (pkC (asI .i64) (pkC (asI .i64) (pkC (asI .i64) (pkC (asI .i64) pkN))))) cs).map (fun g : ByteArray × Int × Int × Int × Int × Unit => ((GVar.mk g.1 g.2.1 g.2.2.1 g.2.2.2.1 g.2.2.2.2.1) : GVar))
 | .k111 => fun cs => ((pkC (asI .i64) (pkC (asI .i64) (pkC (asI .i64) (pkC (asI .i64) (pkC (asI .i64) (pkC (asI .i64) (pkC (asL 106) (pkC (asL 111) (pkC (asL 111) (pkC (asL 3) pkN)))))))))) cs).map (fun g : Int × Int × Int × Int × Int × Int × (List (datU 106)) × (List (datU 111)) × (List (datU 111)) × (List (datU 3)) × Unit => ((GStep.mk g.1 g.2.1 g.2.2.1 g.2.2.2.1 (GTerm.mk g.2.2.2.2.1 g.2.2.2.2.2.1 g.2.2.2.2.2.2.1) g.2.2.2.2.2.2.2.1 g.2.2.2.2.2.2.2.2.1 g.2.2.2.2.2.2.2.2.2.1) : GStep))
 | .k113 => fun cs => ((pkC (asI .i64) (pkC (asI .i64) (pkC (asI .i64) pkN))) cs).map (fun g : Int × Int × Int × Unit => ((Fork.mk g.1 g.2.1 g.2.2.1) : Fork))
 | .k116 => fun cs => ((pkC asS (pkC (asI .i64) (pkC (asI .i64) (pkC (asI .i64) (pkC (asI .i64) (pkC (asL 106) pkN)))))) cs).map (fun g : ByteArray × Int × Int × Int × Int × (List (datU 106)) × Unit => ((Hatch.mk g.1 g.2.1 g.2.2.1 (GTerm.mk g.2.2.2.1 g.2.2.2.2.1 g.2.2.2.2.2.1)) : Hatch))
 | .k138 => fun cs => ((pkC (asL 108) (pkC (asL 116) (pkC (asL 111) (pkC (asI .i64) (pkC (asI .i64) (pkC (asL 38) (pkC (asL 80) pkN))))))) cs).map (fun g : (List (datU 108)) × (List (datU 116)) × (List (datU 111)) × Int × Int × (List (datU 38)) × (List (datU 80)) × Unit => ((Executor.mk (Flat.mk g.1 g.2.1 g.2.2.1) g.2.2.2.1 g.2.2.2.2.1 g.2.2.2.2.2.1 g.2.2.2.2.2.2.1) : Executor))
 | .k150 => fun cs => ((pkC (asL 80) (pkC (asI .i64) (pkC (asL 3) (pkC (asL 113) (pkC (asI .i64) (pkC (asL 80) (pkC (asI .i64) (pkC (asL 3) (pkC (asL 113) (pkC (asI .i64) pkN)))))))))) cs).map (fun g : (List (datU 80)) × Int × (List (datU 3)) × (List (datU 113)) × Int × (List (datU 80)) × Int × (List (datU 3)) × (List (datU 113)) × Int × Unit => ((GState2.mk g.1 (Mtbdd.mk g.2.1 g.2.2.1 g.2.2.2.1 g.2.2.2.2.1) g.2.2.2.2.2.1 (Mtbdd.mk g.2.2.2.2.2.2.1 g.2.2.2.2.2.2.2.1 g.2.2.2.2.2.2.2.2.1 g.2.2.2.2.2.2.2.2.2.1)) : GState2))
 | .k175 => pkFn
 | .k177 => fun cs => ((pkC (asI .i64) (pkC asB pkN)) cs).map (fun g : Int × Bool × Unit => ((Measure.mk g.1 g.2.1) : Measure))
 | .k181 => fun cs => ((pkC (asI .i64) (pkC (asI .i64) (pkC (asI .i64) pkN))) cs).map (fun g : Int × Int × Int × Unit => ((Most.mk g.1 g.2.1 g.2.2.1) : Most))
 | .k231 => fun cs => ((pkC (asI .i64) (pkC (asI .i64) pkN)) cs).map (fun g : Int × Int × Unit => ((Pair.mk g.1 g.2.1) : Pair))
 | .k273 => fun cs => ((pkC (asI .i64) (pkC (asL 113) (pkC (asI .i64) (pkC (asL 80) (pkC (asI .i64) (pkC (asL 3) (pkC (asL 113) (pkC (asI .i64) (pkC (asL 80) (pkC (asI .i64) (pkC (asL 3) (pkC (asL 113) (pkC (asI .i64) pkN))))))))))))) cs).map (fun g : Int × (List (datU 113)) × Int × (List (datU 80)) × Int × (List (datU 3)) × (List (datU 113)) × Int × (List (datU 80)) × Int × (List (datU 3)) × (List (datU 113)) × Int × Unit => ((End.mk (Bdd.mk g.1 g.2.1 g.2.2.1) (GState2.mk g.2.2.2.1 (Mtbdd.mk g.2.2.2.2.1 g.2.2.2.2.2.1 g.2.2.2.2.2.2.1 g.2.2.2.2.2.2.2.1) g.2.2.2.2.2.2.2.2.1 (Mtbdd.mk g.2.2.2.2.2.2.2.2.2.1 g.2.2.2.2.2.2.2.2.2.2.1 g.2.2.2.2.2.2.2.2.2.2.2.1 g.2.2.2.2.2.2.2.2.2.2.2.2.1))) : End))
 | .k317 => fun cs => ((pkC (asI .i64) (pkC (asI .i64) pkN)) cs).map (fun g : Int × Int × Unit => ((Span.mk g.1 g.2.1) : Span))
 | .no => fun _ => none
theorem parseK_ok : (k : Ky) → Pk (parseK k) (cellsK k)
 | .k3 => Pk.map (fun g : Int × Unit => (g.1 : Int)) (.cons (.i .i64) .nil) (fun _ => rfl)
 | .k4 => Pk.map (fun g : Bool × Unit => (g.1 : Bool)) (.cons .b .nil) (fun _ => rfl)
 | .k24 => Pk.map (fun g : (List (datU 111)) × Unit => (g.1 : List GStep)) (.cons (.l 111) .nil) (fun _ => rfl)
 | .k26 => Pk.map (fun g : (List (datU 108)) × (List (datU 116)) × (List (datU 111)) × Unit => ((Flat.mk g.1 g.2.1 g.2.2.1) : Flat)) (.cons (.l 108) (.cons (.l 116) (.cons (.l 111) .nil))) (fun _ => rfl)
 | .k38 => Pk.map (fun g : Int × Int × Int × Unit => ((Slot.mk g.1 g.2.1 g.2.2.1) : Slot)) (.cons (.i .i64) (.cons (.i .i64) (.cons (.i .i64) .nil))) (fun _ => rfl)
 | .k42 => Pk.map (fun g : Int × (List (datU 113)) × Int × Unit => ((Bdd.mk g.1 g.2.1 g.2.2.1) : Bdd)) (.cons (.i .i64) (.cons (.l 113) (.cons (.i .i64) .nil))) (fun _ => rfl)
 | .k46 => Pk.map (fun g : (List (datU 3)) × Unit => (g.1 : List Int)) (.cons (.l 3) .nil) (fun _ => rfl)
 | .k53 => Pk.map (fun g : (List (datU 3)) × Bool × Unit => ((View.mk g.1 g.2.1) : View)) (.cons (.l 3) (.cons .b .nil)) (fun _ => rfl)
 | .k55 => Pk.map (fun g : (List (datU 3)) × Int × Unit => ((Observation.mk g.1 g.2.1) : Observation)) (.cons (.l 3) (.cons (.i .i64) .nil)) (fun _ => rfl)
 | .k65 => Pk.map (fun g : Int × Unit => (g.1 : Int)) (.cons (.i .i64) .nil) (fun _ => rfl)
 | .k80 => Pk.map (fun g : Int × (List (datU 3)) × (List (datU 113)) × Int × Unit => ((Mtbdd.mk g.1 g.2.1 g.2.2.1 g.2.2.2.1) : Mtbdd)) (.cons (.i .i64) (.cons (.l 3) (.cons (.l 113) (.cons (.i .i64) .nil)))) (fun _ => rfl)
 | .k84 => Pk.map (fun g : (List (datU 3)) × (List (datU 3)) × (List (datU 3)) × Unit => ((Inputs.mk g.1 g.2.1 g.2.2.1) : Inputs)) (.cons (.l 3) (.cons (.l 3) (.cons (.l 3) .nil))) (fun _ => rfl)
 | .k88 => Pk.map (fun g : (List (datU 3)) × (List (datU 3)) × Int × Unit => ((GState.mk g.1 g.2.1 g.2.2.1) : GState)) (.cons (.l 3) (.cons (.l 3) (.cons (.i .i64) .nil))) (fun _ => rfl)
 | .k96 => Pk.map (fun g : (List (datU 55)) × Int × (List (datU 3)) × (List (datU 113)) × Int × Unit => ((Map.mk g.1 (Mtbdd.mk g.2.1 g.2.2.1 g.2.2.2.1 g.2.2.2.2.1)) : Map)) (.cons (.l 55) (.cons (.i .i64) (.cons (.l 3) (.cons (.l 113) (.cons (.i .i64) .nil))))) (fun _ => rfl)
 | .k106 => Pk.map (fun g : Int × Int × (List (datU 106)) × Unit => ((GTerm.mk g.1 g.2.1 g.2.2.1) : GTerm)) (.cons (.i .i64) (.cons (.i .i64) (.cons (.l 106) .nil))) (fun _ => rfl)
 | .k108 => Pk.map (fun g : ByteArray × Int × Int × Int × Int × Unit => ((GVar.mk g.1 g.2.1 g.2.2.1 g.2.2.2.1 g.2.2.2.2.1) : GVar)) (.cons .s (.cons (.i .i64) (.cons (.i .i64) (.cons (.i .i64) (.cons (.i .i64) .nil))))) (fun _ => rfl)
 | .k111 => Pk.map (fun g : Int × Int × Int × Int × Int × Int × (List (datU 106)) × (List (datU 111)) × (List (datU 111)) × (List (datU 3)) × Unit => ((GStep.mk g.1 g.2.1 g.2.2.1 g.2.2.2.1 (GTerm.mk g.2.2.2.2.1 g.2.2.2.2.2.1 g.2.2.2.2.2.2.1) g.2.2.2.2.2.2.2.1 g.2.2.2.2.2.2.2.2.1 g.2.2.2.2.2.2.2.2.2.1) : GStep)) (.cons (.i .i64) (.cons (.i .i64) (.cons (.i .i64) (.cons (.i .i64) (.cons (.i .i64) (.cons (.i .i64) (.cons (.l 106) (.cons (.l 111) (.cons (.l 111) (.cons (.l 3) .nil)))))))))) (fun _ => rfl)
 | .k113 => Pk.map (fun g : Int × Int × Int × Unit => ((Fork.mk g.1 g.2.1 g.2.2.1) : Fork)) (.cons (.i .i64) (.cons (.i .i64) (.cons (.i .i64) .nil))) (fun _ => rfl)
 | .k116 => Pk.map (fun g : ByteArray × Int × Int × Int × Int × (List (datU 106)) × Unit => ((Hatch.mk g.1 g.2.1 g.2.2.1 (GTerm.mk g.2.2.2.1 g.2.2.2.2.1 g.2.2.2.2.2.1)) : Hatch)) (.cons .s (.cons (.i .i64) (.cons (.i .i64) (.cons (.i .i64) (.cons (.i .i64) (.cons (.l 106) .nil)))))) (fun _ => rfl)
 | .k138 => Pk.map (fun g : (List (datU 108)) × (List (datU 116)) × (List (datU 111)) × Int × Int × (List (datU 38)) × (List (datU 80)) × Unit => ((Executor.mk (Flat.mk g.1 g.2.1 g.2.2.1) g.2.2.2.1 g.2.2.2.2.1 g.2.2.2.2.2.1 g.2.2.2.2.2.2.1) : Executor)) (.cons (.l 108) (.cons (.l 116) (.cons (.l 111) (.cons (.i .i64) (.cons (.i .i64) (.cons (.l 38) (.cons (.l 80) .nil))))))) (fun _ => rfl)
 | .k150 => Pk.map (fun g : (List (datU 80)) × Int × (List (datU 3)) × (List (datU 113)) × Int × (List (datU 80)) × Int × (List (datU 3)) × (List (datU 113)) × Int × Unit => ((GState2.mk g.1 (Mtbdd.mk g.2.1 g.2.2.1 g.2.2.2.1 g.2.2.2.2.1) g.2.2.2.2.2.1 (Mtbdd.mk g.2.2.2.2.2.2.1 g.2.2.2.2.2.2.2.1 g.2.2.2.2.2.2.2.2.1 g.2.2.2.2.2.2.2.2.2.1)) : GState2)) (.cons (.l 80) (.cons (.i .i64) (.cons (.l 3) (.cons (.l 113) (.cons (.i .i64) (.cons (.l 80) (.cons (.i .i64) (.cons (.l 3) (.cons (.l 113) (.cons (.i .i64) .nil)))))))))) (fun _ => rfl)
 | .k175 => Pk.fn
 | .k177 => Pk.map (fun g : Int × Bool × Unit => ((Measure.mk g.1 g.2.1) : Measure)) (.cons (.i .i64) (.cons .b .nil)) (fun _ => rfl)
 | .k181 => Pk.map (fun g : Int × Int × Int × Unit => ((Most.mk g.1 g.2.1 g.2.2.1) : Most)) (.cons (.i .i64) (.cons (.i .i64) (.cons (.i .i64) .nil))) (fun _ => rfl)
 | .k231 => Pk.map (fun g : Int × Int × Unit => ((Pair.mk g.1 g.2.1) : Pair)) (.cons (.i .i64) (.cons (.i .i64) .nil)) (fun _ => rfl)
 | .k273 => Pk.map (fun g : Int × (List (datU 113)) × Int × (List (datU 80)) × Int × (List (datU 3)) × (List (datU 113)) × Int × (List (datU 80)) × Int × (List (datU 3)) × (List (datU 113)) × Int × Unit => ((End.mk (Bdd.mk g.1 g.2.1 g.2.2.1) (GState2.mk g.2.2.2.1 (Mtbdd.mk g.2.2.2.2.1 g.2.2.2.2.2.1 g.2.2.2.2.2.2.1 g.2.2.2.2.2.2.2.1) g.2.2.2.2.2.2.2.2.1 (Mtbdd.mk g.2.2.2.2.2.2.2.2.2.1 g.2.2.2.2.2.2.2.2.2.2.1 g.2.2.2.2.2.2.2.2.2.2.2.1 g.2.2.2.2.2.2.2.2.2.2.2.2.1))) : End)) (.cons (.i .i64) (.cons (.l 113) (.cons (.i .i64) (.cons (.l 80) (.cons (.i .i64) (.cons (.l 3) (.cons (.l 113) (.cons (.i .i64) (.cons (.l 80) (.cons (.i .i64) (.cons (.l 3) (.cons (.l 113) (.cons (.i .i64) .nil))))))))))))) (fun _ => rfl)
 | .k317 => Pk.map (fun g : Int × Int × Unit => ((Span.mk g.1 g.2.1) : Span)) (.cons (.i .i64) (.cons (.i .i64) .nil)) (fun _ => rfl)
 | .no => .none
def numsK : (k : Ky) → List (datK k) → Option (List Int)
 | _, _ => none
theorem flat_one (l : List Int) : l.flatMap (fun x => [AVq.n (Dat := datU) .u8 x]) = l.map (.n .u8) := by
 induction l with
 | nil => rfl
 | cons a l ih => rw [List.flatMap_cons, ih]; rfl
theorem numsK_ok : (k : Ky) → (l : List (datK k)) → (ns : List Int) → numsK k l = some ns → l.flatMap (cellsK k) = ns.map (.n .u8) ∧ szK k = 1 := by
 intro k l ns h
 cases k <;> first | (cases h; done) | (cases h; exact ⟨flat_one _, rfl⟩)
theorem lenK (k : Ky) (x : datK k) : (cellsK k x).length = szK k := by cases k <;> rfl
theorem oneK (k : Ky) (x : datK k) : (cellsK k x).all acell1 = true := by cases k <;> rfl
theorem cloK (k : Ky) (x : datK k) (ρ : Gh) : (cellsK k x).map (AVq.sub ρ) = cellsK k x := sub_flat _ (by cases k <;> rfl) ρ
theorem ltdK (k : Ky) (x : datK k) (n : Nat) : ∀ c ∈ cellsK k x, Ltd n c := ltd_flat _ (by cases k <;> rfl) n
instance uniL : UniL where
 len := fun t x => lenK (ky t) x
 one := fun t x => oneK (ky t) x
 clo := fun t x ρ => cloK (ky t) x ρ
 ltd := fun t x n => ltdK (ky t) x n
 parse := fun t => parseK (ky t)
 parse_ok := fun t => parseK_ok (ky t)
 nums := fun t => numsK (ky t)
 nums_ok := fun t => numsK_ok (ky t)
 fz := fun f => Nat.beq f 91 || Nat.beq f 1000080 || Nat.beq f 1000042 || Nat.beq f 189 || Nat.beq f 210 || Nat.beq f 151 || Nat.beq f 178 || Nat.beq f 134 || Nat.beq f 184 || Nat.beq f 145 || Nat.beq f 148 || Nat.beq f 117
end Go.Proofs.YtghilkcphindjaaGreat
end
noncomputable section
namespace Go.Iv
variable [U : Uni] [L : UniL]
open Go Go.RowKit
def renA (f : Nat → Nat) (n : Nat) : AV → AV := Nat.rec (fun d => match d with
 | .own i => .own (f i)
 | .ptr i o => .ptr (f i) o
 | .ra i t m o => .ra (f i) t m o
 | d => d) (fun _ ih d => match d with
 | .own i => .own (f i)
 | .ptr i o => .ptr (f i) o
 | .ra i t m o => .ra (f i) t m o
 | .agg cs => .agg (cs.map ih)
 | .tup cs => .tup (cs.map ih)
 | .fn g cs => .fn g (cs.map ih)
 | .fp cs => .fp (cs.map ih)
 | d => d) n
theorem renA_sub {f : Nat → Nat} {ρ ρ' : Gh} {p : Nat → Bool} (hp : ∀ i, p i = true → ρ'.v (f i) = ρ.v i ∧ ρ'.b (f i) = ρ.b i) : ∀ (n : Nat) {d : AV}, idsC p n d = true → (renA f n d).sub ρ' = d.sub ρ
 | 0, d, h => by
  cases d with
  | lit v => show AVq.sub ρ' (.lit v) = _; rw [sub_lit, sub_lit]
  | sl t l => show AVq.sub ρ' (.sl t l) = _; rw [sub_sl, sub_sl]
  | rp v k => show AVq.sub ρ' (.rp v k) = _; simp only [AVq.sub]
  | own i => show AVq.sub ρ' (.own (f i)) = _; rw [sub_own, sub_own, (hp _ h).1]
  | ptr i o => show AVq.sub ρ' (.ptr (f i) o) = _; rw [sub_ptr, sub_ptr, (hp _ h).2]
  | ra i t m o => show AVq.sub ρ' (.ra (f i) t m o) = _; rw [sub_ra, sub_ra, (hp _ h).1]
  | _ => cases h
 | n + 1, d, h => by
  have hL : ∀ {cs : List AV}, cs.all (idsC p n) = true → (cs.map (renA f n)).map (AVq.sub ρ') = cs.map (AVq.sub ρ) := fun {cs} h => by
   rw [List.map_map]
   exact List.map_congr_left fun c hc => renA_sub hp n (List.all_eq_true.1 h c hc)
  cases d with
  | lit v => show AVq.sub ρ' (.lit v) = _; rw [sub_lit, sub_lit]
  | sl t l => show AVq.sub ρ' (.sl t l) = _; rw [sub_sl, sub_sl]
  | rp v k => show AVq.sub ρ' (.rp v k) = _; simp only [AVq.sub]
  | own i => show AVq.sub ρ' (.own (f i)) = _; rw [sub_own, sub_own, (hp _ h).1]
  | ptr i o => show AVq.sub ρ' (.ptr (f i) o) = _; rw [sub_ptr, sub_ptr, (hp _ h).2]
  | ra i t m o => show AVq.sub ρ' (.ra (f i) t m o) = _; rw [sub_ra, sub_ra, (hp _ h).1]
  | fp cs => show AVq.sub ρ' (.fp (List.map (renA f n) cs)) = _; rw [sub_fp, sub_fp, hL h]
  | agg cs => show AVq.sub ρ' (.agg (List.map (renA f n) cs)) = _; rw [sub_agg, sub_agg, hL h]
  | tup cs => show AVq.sub ρ' (.tup (List.map (renA f n) cs)) = _; rw [sub_tup, sub_tup, hL h]
  | fn g cs => show AVq.sub ρ' (.fn g (List.map (renA f n) cs)) = _; rw [sub_fn, sub_fn, hL h]
theorem renA_ltd {f : Nat → Nat} {p : Nat → Bool} {m : Nat} (hp : ∀ i, p i = true → f i < m) : ∀ (n : Nat) {d : AV}, idsC p n d = true → Ltd m (renA f n d)
 | 0, d, h => by
  cases d <;> first | exact .lit _ | exact .sl _ _ | exact .rp _ _ | exact .own _ (hp _ h) | exact .ptr _ _ (hp _ h) | exact .ra _ _ _ _ (hp _ h) | (cases h; done)
 | n + 1, d, h => by
  have hL : ∀ {cs : List AV}, cs.all (idsC p n) = true → ∀ c ∈ cs.map (renA f n), Ltd m c := fun {cs} h c hc => by
   obtain ⟨c', h1, rfl⟩ := List.mem_map.1 hc
   exact renA_ltd hp n (List.all_eq_true.1 h c' h1)
  cases d <;> first | exact .lit _ | exact .sl _ _ | exact .rp _ _ | exact .own _ (hp _ h) | exact .ptr _ _ (hp _ h) | exact .ra _ _ _ _ (hp _ h) | exact .agg _ (hL h) | exact .tup _ (hL h) | exact .fn _ _ (hL h) | exact .fp _ (hL h)
def renR (f : Nat → Nat) : IR → IR
 | .box T cs => .box T (cs.map (renA f 4))
 | r => r
def posN (l : List Nat) (i : Nat) : Nat := List.rec 0 (fun j _ ih => match Nat.beq j i with
 | true => 0
 | false => ih + 1) l
theorem posN_get : ∀ {l : List Nat} {i : Nat}, i ∈ l → l[posN l i]? = some i
 | j :: l, i, h => by
  show (j :: l)[match Nat.beq j i with
   | true => 0
   | false => posN l i + 1]? = some i
  cases hb : Nat.beq j i with
  | true => have := beqT hb; subst this; rfl
  | false =>
   have hne : i ≠ j := fun e => by subst e; rw [Nat.beq_refl] at hb; cases hb
   exact posN_get ((List.mem_cons.1 h).resolve_left hne)
def liveE (ts : List Nat) (E : ET) : Env := ts.filterMap fun t => (eget E t).map fun d => (t, d)
theorem liveE_get {E : ET} : ∀ (ts : List Nat) t d, Env.get (liveE ts E) t = some d → eget E t = some d := fun ts => by
  induction ts with
  | nil => intro t d h; cases h
  | cons u ts ih =>
    intro t d h
    unfold liveE at h
    rw [List.filterMap_cons] at h
    cases hu : eget E u with
    | none => rw [hu] at h; exact ih t d h
    | some x =>
      rw [hu] at h
      by_cases hut : u = t
      · subst hut
        have h : Env.get ((u, x) :: _) u = some d := h
        rw [Env.get_hit] at h
        rw [hu, h]
      · have h : Env.get ((u, x) :: _) t = some d := h
        rw [Env.get_miss _ _ hut] at h
        exact ih t d h
def pick (i : Nat) (R : IRs) : Option ((Nat × IR) × IRs) := List.rec none (fun p R ih => match Nat.beq p.1 i with
 | true => some (p, R)
 | false => match ih with
  | some x => some (x.1, p :: x.2)
  | none => none) R
theorem pick_perm {i : Nat} : ∀ {R : IRs} {x}, pick i R = some x → List.Perm R (x.1 :: x.2)
  | [], x, h => by cases h
  | p :: R, x, h => by
    have h : (match Nat.beq p.1 i with
      | true => some (p, R)
      | false => match pick i R with
        | some x => some (x.1, p :: x.2)
        | none => none) = some x := h
    split at h
    · cases h; exact .refl _
    · split at h
      · rename_i y hy
        cases h
        exact ((pick_perm hy).cons p).trans (.swap _ _ _)
      · cases h
def picks (ns : List Nat) : IRs → IRs × IRs := List.rec (fun R => ([], R)) (fun i _ ih R => match pick i R with
 | some x => (x.1 :: (ih x.2).1, (ih x.2).2)
 | none => ih R) ns
theorem picks_perm : ∀ (ns : List Nat) (R : IRs), List.Perm R ((picks ns R).1 ++ (picks ns R).2)
  | [], R => .refl _
  | i :: ns, R => by
    show List.Perm R ((match pick i R with
      | some x => (x.1 :: (picks ns x.2).1, (picks ns x.2).2)
      | none => picks ns R).1 ++ (match pick i R with
      | some x => (x.1 :: (picks ns x.2).1, (picks ns x.2).2)
      | none => picks ns R).2)
    split
    · rename_i x hx
      exact (pick_perm hx).trans ((picks_perm ns x.2).cons _)
    · exact picks_perm ns R
def upto (n : Nat) : List Nat := Nat.rec [] (fun i ih => ih ++ [i]) n
theorem upto_mem {n i : Nat} (h : i < n) : i ∈ upto n := by
  induction n with
  | zero => omega
  | succ n ih =>
    show i ∈ upto n ++ [n]
    by_cases hi : i = n
    · subst hi; simp
    · exact List.mem_append_left _ (ih (by omega))
theorem upto_get {n i : Nat} (h : i < n) : (upto n)[i]? = some i := by
  induction n with
  | zero => omega
  | succ n ih =>
    show (upto n ++ [n])[i]? = some i
    have hl : ∀ n, (upto n).length = n := fun n => by
      induction n with
      | zero => rfl
      | succ n ih => show (upto n ++ [n]).length = n + 1; simp [ih]
    by_cases hi : i = n
    · subst hi; rw [List.getElem?_append_right (by rw [hl]; exact Nat.le_refl _), hl, Nat.sub_self]; rfl
    · rw [List.getElem?_append_left (by rw [hl]; omega)]; exact ih (by omega)
theorem upto_len : ∀ n, (upto n).length = n := fun n => by
 induction n with
 | zero => rfl
 | succ n ih => show (upto n ++ [n]).length = n + 1; simp [ih]
def numN (n0 : Nat) (dr rest : List Nat) (i : Nat) : Nat := match memB i dr with
 | true => n0 + posN rest i
 | false => posN (upto n0 ++ rest) i
def canon2 (n0 : Nat) (dr : List Nat) (l : Env) (R : IRs) (rest : List Nat) : Option St := match l.all (fun q => idsC (fun i => memB i rest || !memB i dr && Nat.blt i n0) 4 q.2) && R.all (fun q => (memB q.1 rest || !memB q.1 dr && Nat.blt q.1 n0) && match q.2 with
  | .box _ cs => cs.all (idsC (fun i => memB i rest || !memB i dr && Nat.blt i n0) 4)
  | .row _ _ => true
  | .mp _ => true) with
 | true => some ⟨etOf (l.map fun q => (q.1, renA (numN n0 dr rest) 4 q.2)), R.map fun q => (numN n0 dr rest q.1, renR (numN n0 dr rest) q.2), n0 + rest.length⟩
 | false => none
def canon1 (n0 : Nat) (dr : List Nat) (l : Env) (R : IRs) : Option St := canon2 n0 dr l R ((R.map fun q => q.1).filter fun i => memB i dr || !Nat.blt i n0)
def canon (n0 : Nat) (dr : List Nat) (ts : List Nat) (s : St) : Option St := canon1 n0 dr (liveE ts s.E) (picks ((upto n0).filter (fun i => !memB i dr) ++ reach s.R 3 (((liveE ts s.E).flatMap fun q => idsN 4 q.2) ++ (upto n0).filter (fun i => !memB i dr))) s.R).1
theorem canon_ok {n0 n : Nat} {dr ts : List Nat} {C : Cg} {s s' : St} {a : Act} {w : World} (hC : C.n = n0) (h : canon n0 dr ts s = some s') (hm : Mt C n s a w) : Mt C n s' a w := by
  unfold canon canon1 at h
  generalize hl : liveE ts s.E = l at h
  generalize hR : (picks ((upto n0).filter (fun i => !memB i dr) ++ reach s.R 3 ((l.flatMap fun q => idsN 4 q.2) ++ (upto n0).filter (fun i => !memB i dr))) s.R) = R2 at h
  have hperm : List.Perm s.R (R2.1 ++ R2.2) := by rw [← hR]; exact picks_perm _ _
  obtain ⟨R, Rr⟩ := R2
  dsimp only at h hperm
  generalize hns : ((R.map fun q => q.1).filter fun i => memB i dr || !Nat.blt i n0) = rest at h
  unfold canon2 at h
  split at h
  case h_2 => cases h
  rename_i hb
  cases h
  rw [Bool.and_eq_true] at hb
  obtain ⟨hb1, hb2⟩ := hb
  obtain ⟨E, hh, hE, hR0, ρ, hag, hsim⟩ := hm
  let ρ' : Gh := ⟨fun j => ρ.v ((upto n0 ++ rest).getD j 0), fun j => ρ.b ((upto n0 ++ rest).getD j 0)⟩
  have hget : ∀ i, (memB i rest || !memB i dr && Nat.blt i n0) = true → (upto n0 ++ rest)[numN n0 dr rest i]? = some i := fun i hi => by
    unfold numN
    cases hd : memB i dr with
    | true =>
      rw [hd] at hi
      have hi : memB i rest = true := by simpa using hi
      show (upto n0 ++ rest)[n0 + posN rest i]? = some i
      rw [List.getElem?_append_right (by rw [upto_len]; omega), upto_len, Nat.add_sub_cancel_left]
      exact posN_get (memB_iff.1 hi)
    | false =>
      rw [hd] at hi
      show (upto n0 ++ rest)[posN (upto n0 ++ rest) i]? = some i
      refine posN_get ?_
      rw [Bool.or_eq_true] at hi
      rcases hi with hi | hi
      · exact List.mem_append_right _ (memB_iff.1 hi)
      · refine List.mem_append_left _ (upto_mem ?_)
        simpa [Nat.blt_eq] using hi
  have hp : ∀ i, (memB i rest || !memB i dr && Nat.blt i n0) = true → ρ'.v (numN n0 dr rest i) = ρ.v i ∧ ρ'.b (numN n0 dr rest i) = ρ.b i := fun i hi => by
    have e : (upto n0 ++ rest).getD (numN n0 dr rest i) 0 = i := by rw [List.getD_eq_getElem?_getD, hget i hi]; rfl
    exact ⟨by show ρ.v ((upto n0 ++ rest).getD (numN n0 dr rest i) 0) = _; rw [e], by show ρ.b ((upto n0 ++ rest).getD (numN n0 dr rest i) 0) = _; rw [e]⟩
  have hll : (upto n0 ++ rest).length = n0 + rest.length := by rw [List.length_append, upto_len]
  have hlt : ∀ i, (memB i rest || !memB i dr && Nat.blt i n0) = true → numN n0 dr rest i < n0 + rest.length := fun i hi => by
    rw [← hll]; exact (List.getElem?_eq_some_iff.1 (hget i hi)).1
  have hres : IRs.res ρ' (R.map fun q => (numN n0 dr rest q.1, renR (numN n0 dr rest) q.2)) = IRs.res ρ R := by
    unfold IRs.res
    rw [List.map_map]
    refine List.map_congr_left fun q hq => ?_
    have hbq := List.all_eq_true.1 hb2 q hq
    rw [Bool.and_eq_true] at hbq
    have hm := hbq.1
    have hbq := hbq.2
    obtain ⟨i, r⟩ := q
    cases r with
    | row t l => show Res.row (ρ'.v (numN n0 dr rest i)) t l = .row (ρ.v i) t l; rw [(hp i hm).1]
    | mp es => show Res.mp (ρ'.v (numN n0 dr rest i)) es = .mp (ρ.v i) es; rw [(hp i hm).1]
    | box T cs =>
      show Res.box (ρ'.b (numN n0 dr rest i)) T ((cs.map (renA (numN n0 dr rest) 4)).map (AVq.sub ρ')) = .box (ρ.b i) T (cs.map (AVq.sub ρ))
      rw [(hp i hm).2, List.map_map]
      congr 1
      exact List.map_congr_left fun c hc => renA_sub hp 4 (List.all_eq_true.1 hbq c hc)
  have hp2 : List.Perm (IRs.res ρ s.R) (IRs.res ρ (R ++ Rr)) := hperm.map _
  have hsim2 := hsim.perm hp2
  rw [res_app] at hsim2
  have hless := hsim2.less (List.sublist_append_left _ _)
  refine ⟨l.map fun q => (q.1, renA (numN n0 dr rest) 4 q.2), etOf_hold _, fun q hq => ?_, fun q hq => ?_, ρ', ⟨fun i hi => ?_, ?_⟩, ?_⟩
  · obtain ⟨q', h1, rfl⟩ := List.mem_map.1 hq
    exact renA_ltd hlt 4 (List.all_eq_true.1 hb1 q' h1)
  · obtain ⟨q', h1, rfl⟩ := List.mem_map.1 hq
    have hbq := List.all_eq_true.1 hb2 q' h1
    rw [Bool.and_eq_true] at hbq
    have hm := hbq.1
    have hbq := hbq.2
    refine ⟨hlt _ hm, ?_⟩
    obtain ⟨i, r⟩ := q'
    cases r with
    | row t l => trivial
    | mp es => trivial
    | box T cs =>
      intro c hc
      obtain ⟨c', h3, rfl⟩ := List.mem_map.1 hc
      exact renA_ltd hlt 4 (List.all_eq_true.1 hbq c' h3)
  · rw [hC] at hi
    have e : (upto n0 ++ rest).getD i 0 = i := by
      rw [List.getD_eq_getElem?_getD, List.getElem?_append_left (by rw [upto_len]; exact hi), upto_get hi]; rfl
    have := hag.1 i (by rw [hC]; exact hi)
    exact ⟨by show C.ρ.v i = ρ.v ((upto n0 ++ rest).getD i 0); rw [e]; exact this.1, by show C.ρ.b i = ρ.b ((upto n0 ++ rest).getD i 0); rw [e]; exact this.2⟩
  · rw [hC]
    show n0 ≤ n0 + rest.length
    exact Nat.le_add_right _ _
  · rw [hres]
    refine ⟨hless.defers, hless.size, fun t av ht => ?_, hless.good⟩
    have e : ∀ (l : Env), (∀ q ∈ l, idsC (fun i => memB i rest || !memB i dr && Nat.blt i n0) 4 q.2 = true) → Env.sub ρ' (l.map fun q => (q.1, renA (numN n0 dr rest) 4 q.2)) = Env.sub ρ l := fun l hl => by
      unfold Env.sub
      rw [List.map_map]
      exact List.map_congr_left fun q hq => by
        show (q.1, (renA (numN n0 dr rest) 4 q.2).sub ρ') = _
        rw [renA_sub hp 4 (hl q hq)]
    rw [e l (fun q hq => List.all_eq_true.1 hb1 q hq), Env.sub_get] at ht
    obtain ⟨d, hd, rfl⟩ := Option.map_eq_some_iff.1 ht
    rw [← hl] at hd
    exact hless.slots t _ (by rw [Env.sub_get, hh t d (liveE_get ts t d hd)]; rfl)
def rdC {γ : Type} (n0 : Nat) (dr ts : List Nat) (rd : St → Option γ) (s : St) : Option γ := (canon n0 dr ts s).bind rd
theorem rdC_ok {γ : Type} {n0 n : Nat} {dr ts : List Nat} {rd : St → Option γ} {pat : γ → St} (h : RdOk n0 n rd pat) : RdOk n0 n (rdC n0 dr ts rd) pat := fun C s p a w hC hr hm => by
 obtain ⟨s', h1, h2⟩ := Option.bind_eq_some_iff.1 hr
 exact h C s' p a w hC h2 (canon_ok hC h1 hm)
def modN {β : Type} (f : β → β) (j : Nat) (l : List β) : List β := List.rec (fun _ => []) (fun b l ih j => match Nat.beq j 0 with
 | true => f b :: l
 | false => b :: ih (j - 1)) l j
theorem modN_map {β γ : Type} {f : β → β} {g g' : β → γ} : ∀ (l : List β) (j : Nat), (∀ b ∈ l, g (f b) = g' b) → (∀ b ∈ l, g b = g' b) → (modN f j l).map g = l.map g'
  | [], _, _, _ => rfl
  | b :: l, j, h1, h2 => by
    show (match Nat.beq j 0 with
      | true => f b :: l
      | false => b :: modN f (j - 1) l).map g = _
    split
    · rw [List.map_cons, List.map_cons, h1 b List.mem_cons_self, List.map_congr_left fun c hc => h2 c (List.mem_cons_of_mem _ hc)]
    · rw [List.map_cons, List.map_cons, h2 b List.mem_cons_self, modN_map l (j - 1) (fun c hc => h1 c (List.mem_cons_of_mem _ hc)) (fun c hc => h2 c (List.mem_cons_of_mem _ hc))]
theorem modN_mem {β : Type} {f : β → β} {p : β → Prop} : ∀ (l : List β) (j : Nat), (∀ b ∈ l, p (f b)) → (∀ b ∈ l, p b) → ∀ b ∈ modN f j l, p b
  | [], _, _, _, b, hb => by cases hb
  | c :: l, j, h1, h2, b, hb => by
    have hb : b ∈ (match Nat.beq j 0 with
      | true => f c :: l
      | false => c :: modN f (j - 1) l) := hb
    split at hb
    · rcases List.mem_cons.1 hb with rfl | hb
      · exact h1 c List.mem_cons_self
      · exact h2 b (List.mem_cons_of_mem _ hb)
    · rcases List.mem_cons.1 hb with rfl | hb
      · exact h2 b List.mem_cons_self
      · exact modN_mem l (j - 1) (fun c hc => h1 c (List.mem_cons_of_mem _ hc)) (fun c hc => h2 c (List.mem_cons_of_mem _ hc)) b hb
def ownA (nx : Nat) (p : List Nat) : AV → AV := List.rec (fun d => match d with
 | .lit (.slice none 0 0) => .own nx
 | d => d) (fun j _ ih d => match d with
 | .agg cs => .agg (modN ih j cs)
 | .tup cs => .tup (modN ih j cs)
 | d => d) p
theorem ownA_sub {ρ : Gh} {nx : Nat} : ∀ (p : List Nat) (d : AV), Ltd nx d → (ownA nx p d).sub (ρ.putV nx (.slice none 0 0)) = d.sub ρ
  | [], d, h => by
    show AVq.sub _ (match d with
      | .lit (.slice none 0 0) => .own nx
      | d => d) = _
    split
    · rw [sub_own, sub_lit]; simp [Gh.putV]
    · exact (h.sub (.putV ρ nx _)).symm
  | j :: p, d, h => by
    show AVq.sub _ (match d with
      | .agg cs => .agg (modN (ownA nx p) j cs)
      | .tup cs => .tup (modN (ownA nx p) j cs)
      | d => d) = _
    split
    · rw [sub_agg, sub_agg, modN_map _ j (fun b hb => ownA_sub p b (h.aggL b hb)) (fun b hb => ((h.aggL b hb).sub (.putV ρ nx _)).symm)]
    · rw [sub_tup, sub_tup, modN_map _ j (fun b hb => ownA_sub p b (h.tupL b hb)) (fun b hb => ((h.tupL b hb).sub (.putV ρ nx _)).symm)]
    · exact (h.sub (.putV ρ nx _)).symm
theorem ownA_ltd {nx : Nat} : ∀ (p : List Nat) (d : AV), Ltd nx d → Ltd (nx + 1) (ownA nx p d)
  | [], d, h => by
    show Ltd (nx + 1) (match d with
      | .lit (.slice none 0 0) => .own nx
      | d => d)
    split
    · exact .own _ (Nat.lt_succ_self _)
    · exact h.mono (Nat.le_succ _)
  | j :: p, d, h => by
    show Ltd (nx + 1) (match d with
      | .agg cs => .agg (modN (ownA nx p) j cs)
      | .tup cs => .tup (modN (ownA nx p) j cs)
      | d => d)
    split
    · exact .agg _ (modN_mem _ j (fun b hb => ownA_ltd p b (h.aggL b hb)) (fun b hb => (h.aggL b hb).mono (Nat.le_succ _)))
    · exact .tup _ (modN_mem _ j (fun b hb => ownA_ltd p b (h.tupL b hb)) (fun b hb => (h.tupL b hb).mono (Nat.le_succ _)))
    · exact h.mono (Nat.le_succ _)
def ownS (t : Nat) (p : List Nat) (e : Nat) (s : St) : St := match eget s.E t with
 | some d => ⟨eput t (ownA s.nx p d) s.E, (s.nx, .row e []) :: s.R, s.nx + 1⟩
 | none => s
def ownC (id j : Nat) (p : List Nat) (e : Nat) (s : St) : St := match rget s.R id with
 | some (.box T cs) => ⟨s.E, (s.nx, .row e []) :: rset id (.box T (modN (ownA s.nx p) j cs)) s.R, s.nx + 1⟩
 | _ => s
theorem res_new {ρ : Gh} {R : IRs} {nx e : Nat} : IRs.res (ρ.putV nx (.slice none 0 0)) ((nx, IR.row e []) :: R) = Res.row (.slice none 0 0) e [] :: IRs.res (ρ.putV nx (.slice none 0 0)) R := by
 show Res.row ((ρ.putV nx (.slice none 0 0)).v nx) e [] :: _ = _
 simp [Gh.putV, IRs.res]
theorem ownS_ok {C : Cg} {n t e : Nat} {p : List Nat} {s : St} {a : Act} {w : World} (hm : Mt C n s a w) : Mt C n (ownS t p e s) a w := by
  unfold ownS
  split
  case h_2 => exact hm
  rename_i d hg
  obtain ⟨E, hh, hE, hR, ρ, hag, hsim⟩ := hm
  have ht := tr_own (C := C.C) none e hsim.good
  have hs := hsim.tr ht
  have hs1 : E.sub ρ = E.sub (ρ.putV s.nx (.slice none 0 0)) := hE.sub (.putV ρ s.nx _)
  have hr1 : IRs.res ρ s.R = IRs.res (ρ.putV s.nx (.slice none 0 0)) s.R := hR.res (.putV ρ s.nx _)
  have hd : Ltd s.nx d := hE _ (Env.get_mem (hh t d hg))
  refine ⟨(t, ownA s.nx p d) :: E, hh.put t _, Env.cons_ltd (hE.mono (Nat.le_succ _)) (ownA_ltd p d hd), fun q hq => ?_, ρ.putV s.nx (.slice none 0 0), ⟨hag.1.trans (.putV ρ s.nx _) hag.2, Nat.le_trans hag.2 (Nat.le_succ _)⟩, ?_⟩
  · rcases List.mem_cons.1 hq with rfl | hq
    · exact ⟨Nat.lt_succ_self _, trivial⟩
    · exact (hR.mono (Nat.le_succ _)) q hq
  · show Sim C.C n ((t, AVq.sub _ (ownA s.nx p d)) :: E.sub _) (IRs.res _ ((s.nx, IR.row e []) :: s.R)) a w
    rw [res_new, ← hr1, ← hs1, ownA_sub p d hd]
    refine ⟨hs.defers, hs.size, fun u av hu => ?_, hs.good⟩
    by_cases htu : t = u
    · subst htu
      rw [Env.get_hit] at hu
      cases hu
      exact hs.slots t _ (by rw [Env.sub_get, hh t _ hg, Option.map_some])
    · rw [Env.get_miss _ _ htu] at hu
      exact hs.slots u av hu
def atA (p : List Nat) : AV → Option Nat := List.rec (fun d => match d with
 | .own i => some i
 | _ => none) (fun j _ ih d => match d with
 | .agg cs => (cs[j]?).bind ih
 | .tup cs => (cs[j]?).bind ih
 | _ => none) p
def frzS (t : Nat) (p : List Nat) (s : St) : St := match eget s.E t with
 | some d => match atA p d with
  | some i => s.frz i
  | none => s
 | none => s
def frzC (id j : Nat) (p : List Nat) (s : St) : St := match rget s.R id with
 | some (.box _ cs) => match (cs[j]?).bind (atA p) with
  | some i => s.frz i
  | none => s
 | _ => s
def rdF {γ : Type} (f : St → St) (rd : St → Option γ) (s : St) : Option γ := rd (f s)
def TurnOk (f : St → St) : Prop := ∀ (C : Cg) n s a w, Mt C n s a w → Mt C n (f s) a w
theorem TurnOk.s (t : Nat) (p : List Nat) (e : Nat) : TurnOk (ownS t p e) := fun _ _ _ _ _ h => ownS_ok h
theorem TurnOk.fs (t : Nat) (p : List Nat) : TurnOk (frzS t p) := fun _ _ _ _ _ h => by
  unfold frzS
  split
  · split
    · exact h.frz _
    · exact h
  · exact h
theorem TurnOk.fc (id j : Nat) (p : List Nat) : TurnOk (frzC id j p) := fun _ _ _ _ _ h => by
  unfold frzC
  split
  · split
    · exact h.frz _
    · exact h
  · exact h
theorem rdF_ok {γ : Type} {n0 n : Nat} {f : St → St} {rd : St → Option γ} {pat : γ → St} (hf : TurnOk f) (h : RdOk n0 n rd pat) : RdOk n0 n (rdF f rd) pat := fun C s p a w hC hr hm => h C (f s) p a w hC hr (hf C n s a w hm)
section
variable {P : Program} {f : FuncId} {args : List AV} {σp σr : List Res} {Φ : AV → List Res → Prop}
theorem good_start {σ : List Res} {w : World} {A : Nat → Prop} (hd : Hd A σ w) (hnd : (blks σ).Nodup) : Good ⟨w, A, blks σ⟩ σ w :=
 have hal : ∀ b, A b → al ⟨w, A, blks σ⟩ σ b := fun b hA => ⟨.inl hA, fun hx => hd.2 b hx hA⟩
 ⟨Kp.refl _ _, fun r hr => (hd.1 r hr).mono (fun b _ hA => ⟨hal b hA, rfl⟩) (fun _ _ => rfl), hnd, fun b hb => .inl hb⟩
theorem tr_widen {σ σ' : List Res} {X : List Nat} {C : Cx} {w w' : World} (h : Tr C X σ w σ' w') (hX : ∀ b ∈ X, b ∈ blks σ) : Tr C (blks σ) σ w σ' w' :=
 ⟨h.good, ⟨h.kp.os, h.kp.tape, h.kp.output, h.kp.size, fun k hk hn => h.kp.block k hk fun hx => hn (hX k hx)⟩, fun b hb hA => ⟨(h.al b hb hA).1, hA.2⟩⟩
theorem Fn.besides (h : Fn P f args σp Φ) : Fn P f args (σp ++ σr) (fun a s => ∃ so, Φ a so ∧ s = so ++ σr) := fun w A vs hrel hd0 hnd0 => by
  have hg := good_start hd0 hnd0
  generalize hC : (⟨w, A, blks (σp ++ σr)⟩ : Cx) = C at hg ⊢
  have hdis := hg.dis
  rw [blks_app] at hdis
  obtain ⟨d1, d2, d3⟩ := List.nodup_append.1 hdis
  have hlt : ∀ b ∈ blks (σp ++ σr), b < w.heap.size := fun b hb => by
    obtain ⟨s, h1, h2⟩ := mem_blks.1 hb
    exact (hg.res s h1).lt h2
  have hal0 : ∀ b, A b → al C (σp ++ σr) b := fun b hA => by
    subst hC; exact ⟨.inl hA, fun hx => hd0.2 b hx hA⟩
  have hd : Hd (al C (σp ++ σr)) σp w := ⟨fun r hr => hg.res r (List.mem_append_left _ hr), fun b hb hA => hA.2 (blks_mem_app.2 (.inl hb))⟩
  refine (h w (al C (σp ++ σr)) vs (hrel.mono fun b _ hA => ⟨hal0 b hA, rfl⟩) hd d1).mono fun e w' ⟨v, av, σo, q1, q2, q3, q4⟩ => ?_
  have hsub : ∀ b, al ⟨w, al C (σp ++ σr), blks σp⟩ σo b → al C (σo ++ σr) b := fun b hb => by
    obtain ⟨hb1, hb2⟩ := hb
    rcases hb1 with hb1 | hb1 | hb1
    · exact ⟨hb1.1, fun hx => (blks_mem_app.1 hx).elim hb2 (fun h => hb1.2 (blks_mem_app.2 (.inr h)))⟩
    · have hbp : b ∈ blks σp := hb1
      refine ⟨?_, fun hx => (blks_mem_app.1 hx).elim hb2 (fun h => d3 b hbp b h rfl)⟩
      rcases hg.own b (blks_mem_app.2 (.inl hbp)) with h | h
      · simp_all
      · omega
    · have hbw : w.heap.size ≤ b := hb1
      exact ⟨.inr (.inr (Nat.le_trans hg.kept.size hbw)), fun hx => (blks_mem_app.1 hx).elim hb2 (fun h => by have := hlt b (blks_mem_app.2 (.inr h)); omega)⟩
  have ht := tr_call hg (fun b hA _ => .inl hA) q3 (fun r hr => (q3.good.res r hr).mono (fun b hb hA => ⟨hsub b hA, rfl⟩) (fun _ _ => rfl))
  exact ⟨v, av, σo ++ σr, q1, ⟨σo, q2, rfl⟩, tr_widen ht (fun b hb => blks_mem_app.2 (.inl hb)), q4.mono fun b hb hA => ⟨hsub b hA, rfl⟩⟩
theorem Fn.lent {args' : List AV} {σr : List Res} (h : Fn P f args' [] Φ) (hv : ∀ (A : Nat → Prop) (w : World) (us : List Value), Hd A σr w → RelL A w args us → RelL (fun b => A b ∨ b ∈ blks σr) w args' us)
  (hc : ∀ av σo, Φ av σo → Cl av ∧ ∀ r ∈ σo, ClR r) : Fn P f args σr (fun a s => ∃ so, Φ a so ∧ s = so ++ σr) := fun w A vs hrel hd0 hnd0 => by
 have hg := good_start hd0 hnd0
 generalize hC : (⟨w, A, blks σr⟩ : Cx) = C at hg ⊢
 have hal0 : ∀ b, A b → al C σr b := fun b hA => by
  subst hC; exact ⟨.inl hA, fun hx => hd0.2 b hx hA⟩
 have h3 := hv (al C σr) w vs hg.hd (hrel.mono fun b _ hA => ⟨hal0 b hA, rfl⟩)
 refine (h w _ vs h3 ⟨fun r hr => (by cases hr), fun b hb => (by cases hb)⟩ List.nodup_nil).mono fun e w' ⟨v, av, σo, q1, q2, q3, q4⟩ => ?_
 obtain ⟨c1, c2⟩ := hc av σo q2
 have ht := tr_call (σp := []) (σr := σr) hg (fun b hA _ => hA) q3 (fun r hr => c2 r hr _ _ w' (q3.good.res r hr))
 exact ⟨v, av, σo ++ σr, q1, ⟨σo, q2, rfl⟩, tr_widen (σ := σr) ht (fun b hb => by cases hb), c1 _ _ w' v q4⟩
end
def cloC (n : Nat) : AV → Bool := idsC (fun _ => false) n
theorem fpInv {A : Nat → Prop} {w : World} {cs : List AV} {v : Value} (h : Rel A w (.fp cs) v) : ∃ (b o : Nat) (us : List Value), v = .pointer (some ⟨b, o, none⟩) ∧ b < w.heap.size ∧ A b ∧ (∀ j v, us[j]? = some v → w.cell? ⟨b, o + j, none⟩ = some v) ∧ RelL A w cs us := by
 generalize ha : AVq.fp cs = a at h
 cases h with
 | fp cs' b o us hb hA hl hc hr => cases ha; exact ⟨b, o, us, rfl, hb, hA, hc, hl, hr⟩
 | _ => cases ha
def lendC (lb : Bool) (rd : Nat → Option IR) (n : Nat) : AV → AV := Nat.rec (fun d => match d with
 | .own id => match rd id with
  | some (.row t l) => .sl t l
  | _ => .own id
 | d => d) (fun _ ih d => match d with
 | .own id => match rd id with
  | some (.row t l) => .sl t l
  | _ => .own id
 | .ptr id 0 => match lb with
  | true => match rd id with
   | some (.box _ cs) => .fp (cs.map ih)
   | _ => .ptr id 0
  | false => .ptr id 0
 | .agg cs => .agg (cs.map ih)
 | .fn f cs => .fn f (cs.map ih)
 | d => d) n
theorem lend_box {R : IRs} {ρ : Gh} {A : Nat → Prop} {w : World} {v : Value} {id T : Nat} {cs : List AV} (hd : Hd A (IRs.res ρ R) w) (hg : rget R id = some (.box T cs)) (hr : Rel A w ((AVq.ptr (Dat := U.Dat) id 0).sub ρ) v) :
  Rel (fun b => A b ∨ b ∈ blks (IRs.res ρ R)) w (.fp (cs.map (AVq.sub ρ))) v := by
 obtain ⟨i, hi, _⟩ := rget_idx hg
 have hres := res_get (ρ := ρ) hi
 rw [sub_ptr] at hr
 exact Vw.box i hres A w v hd hr
theorem lendC_rel {lb : Bool} {R : IRs} {ρ : Gh} {A : Nat → Prop} {w : World} (hd : Hd A (IRs.res ρ R) w) : ∀ (n : Nat) {d : AV} {v : Value}, Rel (fun b => A b ∨ b ∈ blks (IRs.res ρ R)) w (d.sub ρ) v → Rel (fun b => A b ∨ b ∈ blks (IRs.res ρ R)) w ((lendC lb (rget R) n d).sub ρ) v := by
  have hown : ∀ {id : Nat} {v : Value}, Rel (fun b => A b ∨ b ∈ blks (IRs.res ρ R)) w ((AVq.own (Dat := U.Dat) id).sub ρ) v → Rel (fun b => A b ∨ b ∈ blks (IRs.res ρ R)) w ((match rget R id with
    | some (.row t l) => AVq.sl t l
    | _ => .own id).sub ρ) v := fun {id v} h => by
    rw [sub_own] at h
    rw [h.litEq]
    exact lend_own hd (by rw [sub_own]; exact .lit _)
  intro n
  induction n with
  | zero =>
    intro d v h
    cases d <;> first | exact h | exact hown h
  | succ n ih =>
    have hL : ∀ {cs : List AV} {us : List Value}, RelL (fun b => A b ∨ b ∈ blks (IRs.res ρ R)) w (cs.map (AVq.sub ρ)) us → RelL (fun b => A b ∨ b ∈ blks (IRs.res ρ R)) w ((cs.map (lendC lb (rget R) n)).map (AVq.sub ρ)) us := fun {cs us} h =>
      ⟨by simpa using h.1, fun j a u q1 q2 => by
        rw [List.map_map, List.getElem?_map] at q1
        obtain ⟨c, hc, rfl⟩ := Option.map_eq_some_iff.1 q1
        exact ih (h.2 j _ u (by rw [List.getElem?_map, hc]; rfl) q2)⟩
    intro d v h
    cases d with
    | own id => exact hown h
    | agg cs =>
      show Rel _ w ((AVq.agg (cs.map (lendC lb (rget R) n))).sub ρ) v
      rw [sub_agg] at h ⊢
      obtain ⟨us, rfl, h2⟩ := h.aggInv
      exact Rel.aggL (hL h2)
    | fn f cs =>
      show Rel _ w ((AVq.fn f (cs.map (lendC lb (rget R) n))).sub ρ) v
      rw [sub_fn] at h ⊢
      obtain ⟨us, rfl, h2⟩ := h.fnInv
      have h3 := hL h2
      exact .fn f _ us h3.1 h3.2
    | ptr id off =>
      cases off with
      | succ o => exact h
      | zero =>
        cases lb with
        | false => exact h
        | true =>
          show Rel _ w (AVq.sub ρ (match rget R id with
            | some (.box _ cs) => .fp (cs.map (lendC true (rget R) n))
            | _ => .ptr id 0)) v
          split
          · rename_i T cs hg
            have h0 : Rel A w ((AVq.ptr (Dat := U.Dat) id 0).sub ρ) v := by
              rw [sub_ptr] at h ⊢
              rw [h.litEq]; exact .lit _
            obtain ⟨b, o, us, rfl, q1, q2, q3, q4⟩ := fpInv (lend_box hd hg h0)
            rw [sub_fp]
            have q5 := hL q4
            exact .fp _ b o us q1 q2 q5.1 q3 q5.2
          · exact h
    | _ => exact h
def backN (l : List Nat) (n0 nx : Nat) (i : Nat) : Nat := match Nat.blt i n0 with
 | true => l.getD i 0
 | false => nx + (i - n0)
def Out.okB (n0 : Nat) (x : Out) : Bool := Nat.ble n0 x.c && idsC (fun i => Nat.blt i x.c) 4 x.d && x.R.all fun q => Nat.blt q.1 x.c && match q.2 with
 | .box _ cs => cs.all (idsC (fun i => Nat.blt i x.c) 4)
 | .row _ _ => true
 | .mp _ => true
def entY3 {α γ β : Type} (q : List AV → IRs → Option γ) (t : γ → Option β) (out : β → Out) (n0 : Nat) (args : List AV) (nx : Nat) (k : AV → IRs → Nat → Option α) (F : Option α) (Rp Rr : IRs) (ns : List Nat) : Option α :=
 match Nat.beq Rp.length n0 && args.all (idsC (fun i => memB i ns) 4) && Rp.all (fun q => match q.2 with
  | .box _ cs => cs.all (idsC (fun i => memB i ns) 4)
  | .row _ _ => true
  | .mp _ => true) with
 | true => match q (args.map (renA (posN ns) 4)) (Rp.map fun q => (posN ns q.1, renR (posN ns) q.2)) with
  | some g => match t g with
   | some b => k (renA (backN ns n0 nx) 4 (out b).d) ((out b).R.map (fun q => (backN ns n0 nx q.1, renR (backN ns n0 nx) q.2)) ++ Rr) (nx + ((out b).c - n0))
   | none => none
  | none => F
 | false => F
def entY2 {α γ β : Type} (q : List AV → IRs → Option γ) (t : γ → Option β) (out : β → Out) (n0 : Nat) (args : List AV) (nx : Nat) (k : AV → IRs → Nat → Option α) (F : Option α) (R2 : IRs × IRs) : Option α :=
 entY3 q t out n0 args nx k F R2.1 R2.2 (R2.1.map fun q => q.1)
def orY {γ β : Type} (f0 n0 : Nat) (q : List AV → IRs → Option γ) (t : γ → Option β) (out : β → Out) (F : Orc) : Orc := fun _ f args R nx k => match Nat.beq f f0 with
 | true => entY2 q t out n0 args nx k (F _ f args R nx k) (picks (reach R 3 (args.flatMap (idsN 4))) R)
 | false => F _ f args R nx k
def QY {γ : Type} (q : List AV → IRs → Option γ) (ca : γ → List AV) (cr : γ → IRs) : Prop := ∀ xs R g, q xs R = some g → (∀ (ρ : Gh) A w us, RelL A w (xs.map (AVq.sub ρ)) us → RelL A w ((ca g).map (AVq.sub ρ)) us) ∧ LeRs R (cr g)
theorem Fn.pre {P : Program} {f : FuncId} {args args' : List AV} {R R' : IRs} {ρ : Gh} {Φ : AV → List Res → Prop} (h : Fn P f args' (IRs.res ρ R') Φ) (ha : ∀ A w us, RelL A w args us → RelL A w args' us) (hr : LeRs R R') : Fn P f args (IRs.res ρ R) Φ := fun w A vs h1 h2 h3 => by
 have hb : blks (IRs.res ρ R) = blks (IRs.res ρ R') := leR_blks hr
 rw [hb]
 refine (h w A vs (ha A w vs h1) ⟨leR_ok hr h2.1, fun b hb' => h2.2 b (by rw [hb]; exact hb')⟩ (by rw [← hb]; exact h3)).mono fun e w' ⟨v, av, σ', q1, q2, q3, q4⟩ => ⟨v, av, σ', q1, q2, ⟨q3.good, q3.kp, fun b hb' hA => ?_⟩, q4⟩
 refine q3.al b hb' ⟨hA.1, ?_⟩
 rw [← hb]; exact hA.2
theorem orY_ok {P : Program} {F : Orc} {γ β : Type} {f0 n0 : Nat} {q : List AV → IRs → Option γ} {ca : γ → List AV} {cr : γ → IRs} {t : γ → Option β} {out : β → Out} (hF : OrcOk P F) (hf : fnOk P f0) (hq : QY q ca cr) (hm : ∀ b, (out b).okB n0 = true)
    (h : ∀ g b, t g = some b → FnY P f0 (ca g) (cr g) n0 (out b)) : OrcOk P (orY f0 n0 q t out F) := fun α f args R nx k r hr hargs hR => by
  unfold orY at hr
  split at hr
  case h_2 => exact hF α f args R nx k r hr hargs hR
  rename_i hb
  have hb := beqT hb
  subst hb
  unfold entY2 at hr
  generalize hR2 : picks (reach R 3 (args.flatMap (idsN 4))) R = R2 at hr
  have hperm : List.Perm R (R2.1 ++ R2.2) := by rw [← hR2]; exact picks_perm _ _
  obtain ⟨Rp, Rr⟩ := R2
  dsimp only at hr hperm
  generalize hns : (Rp.map fun q => q.1) = ns at hr
  unfold entY3 at hr
  split at hr
  case h_2 => exact hF α f args R nx k r hr hargs hR
  rename_i hchk
  rw [Bool.and_eq_true, Bool.and_eq_true] at hchk
  obtain ⟨⟨hc0, hc1⟩, hc2⟩ := hchk
  have hc0 := beqT hc0
  split at hr
  case h_2 => exact hF α f args R nx k r hr hargs hR
  rename_i g hg
  split at hr
  case h_2 => cases hr
  rename_i b hb
  have hlen : ns.length = n0 := by rw [← hns, List.length_map, hc0]
  have hRs : ∀ p ∈ Rp ++ Rr, p.1 < nx ∧ p.2.Ltd nx := fun p hp => hR p (hperm.mem_iff.2 hp)
  have hnsl : ∀ i ∈ ns, i < nx := fun i hi => by
    rw [← hns] at hi
    obtain ⟨p, hp, rfl⟩ := List.mem_map.1 hi
    exact (hRs p (List.mem_append_left _ hp)).1
  obtain ⟨hqa, hqr⟩ := hq _ _ g hg
  have hok := hm b
  unfold Out.okB at hok
  rw [Bool.and_eq_true, Bool.and_eq_true] at hok
  obtain ⟨⟨ho0, ho1⟩, ho2⟩ := hok
  have ho0 : n0 ≤ (out b).c := by simpa using ho0
  refine ⟨hf, fun ρ => ?_⟩
  let ρ0 : Gh := ⟨fun j => ρ.v (ns.getD j 0), fun j => ρ.b (ns.getD j 0)⟩
  have hp : ∀ i, memB i ns = true → ρ0.v (posN ns i) = ρ.v i ∧ ρ0.b (posN ns i) = ρ.b i := fun i hi => by
    have := posN_get (memB_iff.1 hi)
    have e : ns.getD (posN ns i) 0 = i := by rw [List.getD_eq_getElem?_getD, this]; rfl
    exact ⟨by show ρ.v (ns.getD (posN ns i) 0) = _; rw [e], by show ρ.b (ns.getD (posN ns i) 0) = _; rw [e]⟩
  have ea : (args.map (renA (posN ns) 4)).map (AVq.sub ρ0) = args.map (AVq.sub ρ) := by
    rw [List.map_map]
    exact List.map_congr_left fun c hc => renA_sub hp 4 (List.all_eq_true.1 hc1 c hc)
  have er : IRs.res ρ0 (Rp.map fun q => (posN ns q.1, renR (posN ns) q.2)) = IRs.res ρ Rp := by
    unfold IRs.res
    rw [List.map_map]
    refine List.map_congr_left fun q hq => ?_
    have hm : memB q.1 ns = true := memB_iff.2 (by rw [← hns]; exact List.mem_map.2 ⟨q, hq, rfl⟩)
    have hbq := List.all_eq_true.1 hc2 q hq
    obtain ⟨i, rr⟩ := q
    cases rr with
    | row t l => show Res.row (ρ0.v (posN ns i)) t l = .row (ρ.v i) t l; rw [(hp i hm).1]
    | mp es => show Res.mp (ρ0.v (posN ns i)) es = .mp (ρ.v i) es; rw [(hp i hm).1]
    | box T cs =>
      show Res.box (ρ0.b (posN ns i)) T ((cs.map (renA (posN ns) 4)).map (AVq.sub ρ0)) = .box (ρ.b i) T (cs.map (AVq.sub ρ))
      rw [(hp i hm).2, List.map_map]
      congr 1
      exact List.map_congr_left fun c hc => renA_sub hp 4 (List.all_eq_true.1 hbq c hc)
  have h1 := Fn.pre (h g b hb ρ0) (hqa ρ0) hqr
  rw [ea, er] at h1
  have h2 := Fn.besides (σr := IRs.res ρ Rr) h1
  rw [← res_app] at h2
  have hp2 : List.Perm (IRs.res ρ R) (IRs.res ρ (Rp ++ Rr)) := hperm.map _
  have h3 : Fn P f (args.map (AVq.sub ρ)) (IRs.res ρ R) (fun a s => ∃ so, (∃ ρ' : Gh, Agr n0 ρ0 ρ' ∧ a = (out b).d.sub ρ' ∧ List.Perm so (IRs.res ρ' (out b).R)) ∧ s = so ++ IRs.res ρ Rr) := fun w A vs q1 q2 q3 => by
    have hbm : ∀ x, x ∈ blks (IRs.res ρ (Rp ++ Rr)) ↔ x ∈ blks (IRs.res ρ R) := fun x => (hp2.symm.filterMap _).mem_iff
    refine (h2 w A vs q1 ⟨fun r hr => q2.1 r (hp2.mem_iff.2 hr), fun x hx => q2.2 x ((hbm x).1 hx)⟩ ((hp2.filterMap _).nodup_iff.1 q3)).mono fun e w' ⟨v, av, σ', g1, g2, g3, g4⟩ => ?_
    have hal : ∀ s x, al ⟨w, A, blks (IRs.res ρ (Rp ++ Rr))⟩ s x → al ⟨w, A, blks (IRs.res ρ R)⟩ s x := fun s x hx => ⟨hx.1.imp id (Or.imp (fun h => (hbm x).1 h) id), hx.2⟩
    refine ⟨v, av, σ', g1, g2, ⟨⟨⟨g3.kp.os, g3.kp.tape, g3.kp.output, g3.kp.size, fun k hk hn => g3.kp.block k hk fun hx => hn ((hbm k).1 hx)⟩, fun rr hrr => (g3.good.res rr hrr).mono (fun x _ hA => ⟨hal _ x hA, rfl⟩) (fun _ _ => rfl), g3.good.dis, fun x hx => (g3.good.own x hx).imp (fun h => (hbm x).1 h) id⟩, ⟨g3.kp.os, g3.kp.tape, g3.kp.output, g3.kp.size, fun k hk hn => g3.kp.block k hk fun hx => hn ((hbm k).1 hx)⟩, fun x hx hA => ?_⟩, g4.mono fun x _ hA => ⟨hal _ x hA, rfl⟩⟩
    have hA' : al ⟨w, A, blks (IRs.res ρ (Rp ++ Rr))⟩ (IRs.res ρ (Rp ++ Rr)) x := ⟨hA.1.imp id (Or.imp (fun h => (hbm x).2 h) id), fun h => hA.2 ((hbm x).1 h)⟩
    exact ⟨hal _ x (g3.al x hx hA').1, fun h => hA.2 h⟩
  refine Fn.mono h3 fun a s ⟨so, ⟨ρ1, g0, g1, g2⟩, g3⟩ => ?_
  let ρ2 : Gh := ⟨fun i => if i < nx then ρ.v i else ρ1.v (n0 + (i - nx)), fun i => if i < nx then ρ.b i else ρ1.b (n0 + (i - nx))⟩
  have hag : Agr nx ρ ρ2 := fun i hi => ⟨by simp only [ρ2, if_pos hi], by simp only [ρ2, if_pos hi]⟩
  have hb2 : ∀ i, Nat.blt i (out b).c = true → (ρ2.v (backN ns n0 nx i) = ρ1.v i ∧ ρ2.b (backN ns n0 nx i) = ρ1.b i) ∧ backN ns n0 nx i < nx + ((out b).c - n0) := fun i hi => by
    have hi : i < (out b).c := by simpa  using hi
    unfold backN
    split
    · rename_i hlt
      have hlt : i < n0 := by simpa  using hlt
      obtain ⟨e1, e2⟩ := g0 i hlt
      have hlt2 : i < ns.length := by rw [hlen]; exact hlt
      have hmem : ns.getD i 0 ∈ ns := by rw [List.getD_eq_getElem?_getD, List.getElem?_eq_getElem hlt2]; exact List.getElem_mem hlt2
      have h4 := hnsl _ hmem
      refine ⟨⟨?_, ?_⟩, by omega⟩
      · show (if ns.getD i 0 < nx then ρ.v (ns.getD i 0) else _) = _
        rw [if_pos h4]; exact e1
      · show (if ns.getD i 0 < nx then ρ.b (ns.getD i 0) else _) = _
        rw [if_pos h4]; exact e2
    · rename_i hlt
      have hlt : ¬ i < n0 := by
        intro hx
        have : Nat.blt i n0 = true := by rw [Nat.blt_eq]; exact hx
        rw [this] at hlt; cases hlt
      have h5 : ¬ nx + (i - n0) < nx := by omega
      have h6 : n0 + (nx + (i - n0) - nx) = i := by omega
      refine ⟨⟨?_, ?_⟩, by omega⟩
      · show (if nx + (i - n0) < nx then _ else ρ1.v (n0 + (nx + (i - n0) - nx))) = _
        rw [if_neg h5, h6]
      · show (if nx + (i - n0) < nx then _ else ρ1.b (n0 + (nx + (i - n0) - nx))) = _
        rw [if_neg h5, h6]
  have hres : IRs.res ρ2 ((out b).R.map fun q => (backN ns n0 nx q.1, renR (backN ns n0 nx) q.2)) = IRs.res ρ1 (out b).R := by
    unfold IRs.res
    rw [List.map_map]
    refine List.map_congr_left fun q hq => ?_
    have hbq := List.all_eq_true.1 ho2 q hq
    rw [Bool.and_eq_true] at hbq
    obtain ⟨i, rr⟩ := q
    cases rr with
    | row t l => show Res.row (ρ2.v (backN ns n0 nx i)) t l = .row (ρ1.v i) t l; rw [(hb2 i hbq.1).1.1]
    | mp es => show Res.mp (ρ2.v (backN ns n0 nx i)) es = .mp (ρ1.v i) es; rw [(hb2 i hbq.1).1.1]
    | box T cs =>
      show Res.box (ρ2.b (backN ns n0 nx i)) T ((cs.map (renA (backN ns n0 nx) 4)).map (AVq.sub ρ2)) = .box (ρ1.b i) T (cs.map (AVq.sub ρ1))
      rw [(hb2 i hbq.1).1.2, List.map_map]
      congr 1
      exact List.map_congr_left fun c hc => renA_sub (fun i hi => (hb2 i hi).1) 4 (List.all_eq_true.1 hbq.2 c hc)
  refine ⟨_, _, _, hr, by omega, renA_ltd (fun i hi => (hb2 i hi).2) 4 ho1, fun q hq => ?_, ρ2, hag, ?_, ?_⟩
  · rcases List.mem_append.1 hq with hq | hq
    · obtain ⟨q', h4, rfl⟩ := List.mem_map.1 hq
      have hbq := List.all_eq_true.1 ho2 q' h4
      rw [Bool.and_eq_true] at hbq
      refine ⟨(hb2 _ hbq.1).2, ?_⟩
      obtain ⟨i, rr⟩ := q'
      cases rr with
      | row t l => trivial
      | mp es => trivial
      | box T cs =>
        intro c hc
        obtain ⟨c', h5, rfl⟩ := List.mem_map.1 hc
        exact renA_ltd (fun i hi => (hb2 i hi).2) 4 (List.all_eq_true.1 hbq.2 c' h5)
    · have := hRs q (List.mem_append_right _ hq)
      exact ⟨by omega, this.2.mono (by omega)⟩
  · rw [g1]; exact (renA_sub (fun i hi => (hb2 i hi).1) 4 ho1).symm
  · rw [g3, res_app, hres, ← IRs.Ltd.res (R := Rr) (fun q hq => hRs q (List.mem_append_right _ hq)) hag]
    exact g2.append_right _
def scD (n : Nat) : AV → Bool := Nat.rec (fun d => match d with
 | .lit _ => true
 | .own _ => true
 | .ptr _ _ => true
 | _ => false) (fun _ ih d => match d with
 | .lit _ => true
 | .own _ => true
 | .ptr _ _ => true
 | .agg cs => cs.all ih
 | .tup cs => cs.all ih
 | _ => false) n
theorem scD_cl {ρ : Gh} : ∀ (n : Nat) {d : AV}, scD n d = true → Cl (d.sub ρ) := fun n => by
  induction n with
  | zero =>
    intro d h
    cases d <;> first | (cases h; done) | (rw [sub_lit]; exact .lit _) | (rw [sub_own]; exact .lit _) | (rw [sub_ptr]; exact .lit _)
  | succ n ih =>
    have hL : ∀ {cs : List AV}, cs.all (scD n) = true → ClL (cs.map (AVq.sub ρ)) := fun {cs} h => by
      induction cs with
      | nil => exact .nil
      | cons c cs ihc =>
        rw [List.all_cons, Bool.and_eq_true] at h
        exact .cons (ih h.1) (ihc h.2)
    intro d h
    cases d <;> first | (cases h; done) | (rw [sub_lit]; exact .lit _) | (rw [sub_own]; exact .lit _) | (rw [sub_ptr]; exact .lit _) | skip
    · rw [sub_agg]; exact .agg (hL h)
    · rw [sub_tup]; exact .tup (hL h)
theorem scD_clL {n : Nat} {ρ : Gh} : ∀ cs : List AV, cs.all (scD n) = true → ClL (cs.map (AVq.sub ρ))
 | [], _ => .nil
 | c :: cs, h => by
  rw [List.all_cons, Bool.and_eq_true] at h
  exact .cons (scD_cl n h.1) (scD_clL cs h.2)
def Out.scB (sc : Nat → Bool) (x : Out) : Bool := scD 4 x.d && x.R.all fun q => match q.2 with
 | .row t _ => sc t
 | .mp _ => false
 | .box _ cs => cs.all (scD 3)
theorem scB_clr {sc : Nat → Bool} (hsc : ∀ t, sc t = true → ∀ x, ClL (U.cells t x)) {x : Out} (h : x.scB sc = true) (ρ : Gh) : Cl (x.d.sub ρ) ∧ ∀ r ∈ IRs.res ρ x.R, ClR r := by
 unfold Out.scB at h
 rw [Bool.and_eq_true] at h
 refine ⟨scD_cl 4 h.1, fun r hr => ?_⟩
 obtain ⟨q, hq, rfl⟩ := List.mem_map.1 hr
 have hb := List.all_eq_true.1 h.2 q hq
 obtain ⟨i, rr⟩ := q
 cases rr with
 | row t l => exact ClR.row (hsc t hb)
 | mp es => cases hb
 | box T cs =>
  exact ClR.box (scD_clL cs hb)
def entL2 {α γ β : Type} (q : List AV → Option γ) (t : γ → Option β) (out : β → Out) (args : List AV) (R : IRs) (nx : Nat) (k : AV → IRs → Nat → Option α) (F : Option α) : Option α :=
 match args.all (cloC 4) with
 | true => match q args with
  | some g => match t g with
   | some b => k (renA (fun i => i + nx) 4 (out b).d) ((out b).R.map (fun q => (q.1 + nx, renR (fun i => i + nx) q.2)) ++ R) ((out b).c + nx)
   | none => none
  | none => F
 | false => F
def orL {γ β : Type} (f0 : Nat) (lb : Bool) (q : List AV → Option γ) (t : γ → Option β) (out : β → Out) (F : Orc) : Orc := fun _ f args R nx k => match Nat.beq f f0 with
 | true => entL2 q t out (args.map (lendC lb (rget R) 3)) R nx k (F _ f args R nx k)
 | false => F _ f args R nx k
theorem orL_ok {P : Program} {F : Orc} {γ β : Type} {f0 : Nat} {lb : Bool} {q : List AV → Option γ} {ca : γ → List AV} {t : γ → Option β} {out : β → Out} {sc : Nat → Bool} (hF : OrcOk P F) (hsc : ∀ t, sc t = true → ∀ x, ClL (U.cells t x)) (hf : fnOk P f0) (hq : PkN q ca) (hm : ∀ b, (out b).okB 0 = true) (hs : ∀ b, (out b).scB sc = true)
    (h : ∀ g b, t g = some b → FnY P f0 (ca g) [] 0 (out b)) : OrcOk P (orL f0 lb q t out F) := fun α f args R nx k r hr hargs hR => by
  unfold orL at hr
  split at hr
  case h_2 => exact hF α f args R nx k r hr hargs hR
  rename_i hb
  have hb := beqT hb
  subst hb
  unfold entL2 at hr
  split at hr
  case h_2 => exact hF α f args R nx k r hr hargs hR
  split at hr
  case h_2 => exact hF α f args R nx k r hr hargs hR
  rename_i g hg
  split at hr
  case h_2 => cases hr
  rename_i b hb
  obtain ⟨hqa, _⟩ := hq _ g hg
  have hok := hm b
  unfold Out.okB at hok
  rw [Bool.and_eq_true, Bool.and_eq_true] at hok
  obtain ⟨⟨_, ho1⟩, ho2⟩ := hok
  refine ⟨hf, fun ρ => ?_⟩
  have h1 : Fn P f ((ca g).map (AVq.sub ρ)) [] _ := h g b hb ρ
  have h2 := Fn.lent (args := args.map (AVq.sub ρ)) (σr := IRs.res ρ R) h1 (fun A w us hd hrel => by
    refine hqa ρ _ w us ⟨by simpa using hrel.1, fun j a v q1 q2 => ?_⟩
    rw [List.map_map, List.getElem?_map] at q1
    obtain ⟨c, hc, rfl⟩ := Option.map_eq_some_iff.1 q1
    exact lendC_rel hd 3 ((hrel.2 j _ v (by rw [List.getElem?_map, hc]; rfl) q2).mono fun b _ hA => ⟨.inl hA, rfl⟩)) (fun av σo ⟨ρ', _, e1, e2⟩ => by
      obtain ⟨c1, c2⟩ := scB_clr hsc (hs b) ρ'
      subst e1
      exact ⟨c1, fun r hr => c2 r (e2.mem_iff.1 hr)⟩)
  have hlt : ∀ i, Nat.blt i (out b).c = true → i + nx < (out b).c + nx := fun i hi => by rw [Nat.blt_eq] at hi; omega
  refine Fn.mono h2 fun a s ⟨s', ⟨ρ1, _, g1, g2⟩, g3⟩ => ?_
  let ρ2 : Gh := ⟨fun i => if i < nx then ρ.v i else ρ1.v (i - nx), fun i => if i < nx then ρ.b i else ρ1.b (i - nx)⟩
  have hag : Agr nx ρ ρ2 := fun i hi => ⟨by simp only [ρ2, if_pos hi], by simp only [ρ2, if_pos hi]⟩
  have hp : ∀ i, Nat.blt i (out b).c = true → ρ2.v (i + nx) = ρ1.v i ∧ ρ2.b (i + nx) = ρ1.b i := fun i _ => by
    have : ¬ i + nx < nx := by omega
    exact ⟨by simp only [ρ2, if_neg this, Nat.add_sub_cancel], by simp only [ρ2, if_neg this, Nat.add_sub_cancel]⟩
  have hres : IRs.res ρ2 ((out b).R.map fun q => (q.1 + nx, renR (fun i => i + nx) q.2)) = IRs.res ρ1 (out b).R := by
    unfold IRs.res
    rw [List.map_map]
    refine List.map_congr_left fun q hq => ?_
    have hbq := List.all_eq_true.1 ho2 q hq
    rw [Bool.and_eq_true] at hbq
    obtain ⟨i, rr⟩ := q
    cases rr with
    | row t l => show Res.row (ρ2.v (i + nx)) t l = .row (ρ1.v i) t l; rw [(hp i hbq.1).1]
    | mp es => show Res.mp (ρ2.v (i + nx)) es = .mp (ρ1.v i) es; rw [(hp i hbq.1).1]
    | box T cs =>
      show Res.box (ρ2.b (i + nx)) T ((cs.map (renA (fun i => i + nx) 4)).map (AVq.sub ρ2)) = .box (ρ1.b i) T (cs.map (AVq.sub ρ1))
      rw [(hp i hbq.1).2, List.map_map]
      congr 1
      exact List.map_congr_left fun c hc => renA_sub hp 4 (List.all_eq_true.1 hbq.2 c hc)
  refine ⟨_, _, _, hr, Nat.le_add_left _ _, renA_ltd hlt 4 ho1, fun q hq => ?_, ρ2, hag, ?_, ?_⟩
  · rcases List.mem_append.1 hq with hq | hq
    · obtain ⟨q', h4, rfl⟩ := List.mem_map.1 hq
      have hbq := List.all_eq_true.1 ho2 q' h4
      rw [Bool.and_eq_true] at hbq
      refine ⟨hlt _ hbq.1, ?_⟩
      obtain ⟨i, rr⟩ := q'
      cases rr with
      | row t l => trivial
      | mp es => trivial
      | box T cs =>
        intro c hc
        obtain ⟨c', h5, rfl⟩ := List.mem_map.1 hc
        exact renA_ltd hlt 4 (List.all_eq_true.1 hbq.2 c' h5)
    · exact (hR.mono (Nat.le_add_left _ _)) q hq
  · rw [g1]; exact (renA_sub hp 4 ho1).symm
  · rw [g3, res_app, hres, ← hR.res hag]
    exact g2.append_right _
theorem or0_g {P : Program} : OrcG P or0 := ⟨or0_ok, fun _ _ _ _ _ _ _ _ => rfl⟩
theorem orY_nat {γ δ : Type} {f0 n0 : Nat} {q : List AV → IRs → Option γ} {t : γ → Option δ} {out : δ → Out} {F : Orc} (hN : OrcNat F) : OrcNat (orY f0 n0 q t out F) := fun α β f args R nx k D => by
  unfold orY
  split
  · unfold entY2 entY3
    split
    · split
      · split <;> rfl
      · exact hN ..
    · exact hN ..
  · exact hN ..
theorem orL_nat {γ δ : Type} {f0 : Nat} {lb : Bool} {q : List AV → Option γ} {t : γ → Option δ} {out : δ → Out} {F : Orc} (hN : OrcNat F) : OrcNat (orL f0 lb q t out F) := fun α β f args R nx k D => by
  unfold orL
  split
  · unfold entL2
    split
    · split
      · split <;> rfl
      · exact hN ..
    · exact hN ..
  · exact hN ..
theorem orY_g {P : Program} {F : Orc} {γ β : Type} {f0 n0 : Nat} {q : List AV → IRs → Option γ} {ca : γ → List AV} {cr : γ → IRs} {t : γ → Option β} {out : β → Out} (hF : OrcG P F) (hf : fnOk P f0) (hq : QY q ca cr) (hm : ∀ b, (out b).okB n0 = true)
  (h : ∀ g b, t g = some b → FnY P f0 (ca g) (cr g) n0 (out b)) : OrcG P (orY f0 n0 q t out F) := ⟨orY_ok hF.ok hf hq hm h, orY_nat hF.nat⟩
theorem orL_g {P : Program} {F : Orc} {γ β : Type} {f0 : Nat} {lb : Bool} {q : List AV → Option γ} {ca : γ → List AV} {t : γ → Option β} {out : β → Out} {sc : Nat → Bool} (hF : OrcG P F) (hsc : ∀ t, sc t = true → ∀ x, ClL (U.cells t x)) (hf : fnOk P f0) (hq : PkN q ca) (hm : ∀ b, (out b).okB 0 = true) (hs : ∀ b, (out b).scB sc = true)
  (h : ∀ g b, t g = some b → FnY P f0 (ca g) [] 0 (out b)) : OrcG P (orL f0 lb q t out F) := ⟨orL_ok hF.ok hsc hf hq hm hs h, orL_nat hF.nat⟩
theorem or0_pure {f : FuncId} : PureF or0 f := fun _ _ _ _ _ _ h => by cases h
theorem orL_pure {γ β : Type} {f0 : Nat} {lb : Bool} {q : List AV → Option γ} {t : γ → Option β} {out : β → Out} {F : Orc} {f : FuncId} (h : PureF F f) (hm : ∀ b, (out b).R = []) : PureF (orL f0 lb q t out F) f := fun args R nx d R' nx' hr => by
  unfold orL at hr
  split at hr
  · unfold entL2 at hr
    split at hr
    · split at hr
      · split at hr
        · simp_all
        · cases hr
      · exact h _ _ _ _ _ _ hr
    · exact h _ _ _ _ _ _ hr
  · exact h _ _ _ _ _ _ hr
theorem orL_skip {γ β : Type} {f0 : Nat} {lb : Bool} {q : List AV → Option γ} {t : γ → Option β} {out : β → Out} {F : Orc} {f : FuncId} (hne : Nat.beq f f0 = false) (h : PureF F f) : PureF (orL f0 lb q t out F) f := fun args R nx d R' nx' hr => by
 unfold orL at hr
 rw [hne] at hr
 exact h _ _ _ _ _ _ hr
theorem cond_some {α : Type} (b : Bool) (x y : α) : (bif b then some x else some y) = some (bif b then x else y) := by cases b <;> rfl
theorem ite_some {α : Type} (p : Prop) [Decidable p] (x y : α) : (if p then some x else some y) = some (if p then x else y) := by split <;> rfl
theorem ltd_of {n0 : Nat} {args : List AV} (h : args.all (idsC (fun i => Nat.blt i n0) 4) = true) : ∀ d ∈ args, Ltd n0 d := fun d hd => (idsC_ok 4 (List.all_eq_true.1 h d hd)).mono fun i hi => by rw [Nat.blt_eq] at hi; exact hi
theorem rltd_of {n0 : Nat} {R : IRs} (h : R.all (fun q => Nat.blt q.1 n0 && match q.2 with
  | .box _ cs => cs.all (idsC (fun i => Nat.blt i n0) 4)
  | .row _ _ => true
  | .mp _ => true) = true) : IRs.Ltd n0 R := fun q hq => by
 have hb := List.all_eq_true.1 h q hq
 rw [Bool.and_eq_true, Nat.blt_eq] at hb
 refine ⟨hb.1, ?_⟩
 obtain ⟨i, rr⟩ := q
 cases rr with
 | row t l => trivial
 | mp es => trivial
 | box T cs => exact ltd_of hb.2
def qy0 {γ : Type} (q : List AV → Option γ) (xs : List AV) (R : IRs) : Option γ := match R with
 | [] => q xs
 | _ => none
theorem qy0_ok {γ : Type} {q : List AV → Option γ} {ca : γ → List AV} (h : PkN q ca) : QY (qy0 q) ca (fun _ => []) := fun xs R g hg => by
  unfold qy0 at hg
  split at hg
  · exact ⟨(h xs g hg).1, .nil⟩
  · cases hg
def qyR {γ δ : Type} (q : List AV → Option γ) (r : IRs → Option δ) (xs : List AV) (R : IRs) : Option (γ × δ) := match q xs with
 | some g => match r R with
  | some h => some (g, h)
  | none => none
 | none => none
theorem qyR_ok {γ δ : Type} {q : List AV → Option γ} {ca : γ → List AV} {r : IRs → Option δ} {cr : δ → IRs} (hq : PkN q ca) (hr : RsOk r cr) : QY (qyR q r) (fun g => ca g.1) (fun g => cr g.2) := fun xs R g hg => by
  unfold qyR at hg
  split at hg
  · rename_i g' h1
    split at hg
    · rename_i h' h2
      cases hg
      exact ⟨(hq xs g' h1).1, hr R h' h2⟩
    · cases hg
  · cases hg
open Classical in
def lim {β : Type} (m : Nat → Option β) : Option β := if h : ∃ b N, ∀ n, N ≤ n → m n = some b then some (Classical.choose h) else none
theorem lim_some {β : Type} {m : Nat → Option β} {b : β} (h : lim m = some b) : ∃ n, m n = some b := by
  unfold lim at h
  split at h
  · rename_i hx
    cases h
    obtain ⟨N, hN⟩ := Classical.choose_spec hx
    exact ⟨N, hN N (Nat.le_refl _)⟩
  · cases h
theorem lim_eq {β : Type} {m : Nat → Option β} {b : β} (N : Nat) (h : ∀ n, N ≤ n → m n = some b) : lim m = some b := by
 have hx : ∃ b N, ∀ n, N ≤ n → m n = some b := ⟨b, N, h⟩
 unfold lim
 rw [dif_pos hx]
 obtain ⟨M, hM⟩ := Classical.choose_spec hx
 have h1 := hM (max M N) (Nat.le_max_left _ _)
 rw [h (max M N) (Nat.le_max_right _ _)] at h1
 exact h1.symm
theorem fnY_nil {P : Program} {f : FuncId} {t : Nat} {x : Out} (h1 : ∀ c, FnY P f [.lit (.slice none 0 c)] [] 0 x) (h2 : ∀ a c, FnY P f [.lit (.slice (some a) 0 c)] [] 0 x) : FnY P f [.sl t []] [] 0 x := fun ρ w A vs hr hd hn => by
 have hr' : RelL A w [(AVq.sl t [] : AV).sub ρ] vs := hr
 obtain ⟨v, us, rfl, h3, h4⟩ := hr'.head
 rw [sub_sl] at h3
 obtain ⟨p, c, g, hv, _⟩ := h3.slInv
 have hz : us = [] := List.eq_nil_of_length_eq_zero (by simpa using h4.1)
 subst hz hv
 cases p with
 | none => exact h1 c ρ w A _ (RelL.cons (by rw [sub_lit]; exact .lit _) RelL.nil) hd hn
 | some a => exact h2 a c ρ w A _ (RelL.cons (by rw [sub_lit]; exact .lit _) RelL.nil) hd hn
def litB : AV → Bool
 | .lit _ => true
 | _ => false
theorem clL_lit : ∀ (cs : List AV), cs.all litB = true → ClL cs
 | [], _ => .nil
 | c :: cs, h => by
  rw [List.all_cons, Bool.and_eq_true] at h
  refine .cons ?_ (clL_lit cs h.2)
  cases c <;> first | (cases h.1; done) | exact .lit _
end Go.Iv
end
noncomputable section
set_option maxRecDepth 100000
namespace Go.Proofs.YtghilkcphindjaaGreat
open Go Go.Iv
open Go.IntKind (i64 u64)
def scK : Ky → Bool
 | .k3 => true
 | .k4 => true
 | .k38 => true
 | .k65 => true
 | .k108 => true
 | .k113 => true
 | .k177 => true
 | .k181 => true
 | .k231 => true
 | .k317 => true
 | _ => false
def scU (t : Nat) : Bool := scK (ky t)
theorem scK_ok : (k : Ky) → scK k = true → (x : datK k) → ClL (cellsK k x) := by
 intro k h x
 cases k <;> first | (cases h; done) | exact clL_lit _ rfl
theorem scU_ok (t : Nat) (h : scU t = true) (x : uni.Dat t) : ClL (uni.cells t x) := scK_ok (ky t) h x
end Go.Proofs.YtghilkcphindjaaGreat
end
noncomputable section
namespace Go.Iv
variable [U : Uni] [L : UniL]
open Go Go.RowKit
section
variable {β γ δ : Type}
structure Rq (β : Type) where
 f : AV → Option β
 c : β → AV
 ok : PN f c
structure Rl (γ : Type) where
 q : List AV → Option γ
 c : γ → List AV
 ok : PkN q c
def qi (k : IntKind) : Rq Int := ⟨asI k, AVq.n k, .i k⟩
def qb : Rq Bool := ⟨asB, AVq.b, .b⟩
def qs : Rq ByteArray := ⟨asS, AVq.s, .s⟩
def ql (t : Nat) : Rq (List (U.Dat t)) := ⟨asL t, AVq.sl t, .l t⟩
def qg (t : Nat) : Rq (U.Dat t) := ⟨asGc t, fun x => .agg (U.cells t x), .g t⟩
def qp (i o : Nat) : Rq Unit := ⟨asP i o, fun _ => .ptr i o, .p i o⟩
def qo (i : Nat) : Rq Unit := ⟨asO i, fun _ => .own i, .o i⟩
def qn : Rq Unit := ⟨asNs, fun _ => .lit (.slice none 0 0), .ns⟩
def qf (k : Nat) (l : Rl γ) : Rq γ := ⟨asFf k l.q, fun x => .fn (.func k) (l.c x), .ff k l.ok⟩
def qr (l : Rl γ) : Rq γ := ⟨asFp l.q, fun x => .fp (l.c x), .fp l.ok⟩
def ln : Rl Unit := ⟨pkN, fun _ => [], .nil⟩
def lc (a : Rq β) (l : Rl γ) : Rl (β × γ) := ⟨pkC a.f l.q, fun x => a.c x.1 :: l.c x.2, .cons a.ok l.ok⟩
def lg (t : Nat) : Rl (U.Dat t) := ⟨asCs t, fun x => U.cells t x, PkN.parse t⟩
structure Re (γ : Type) where
 q : ET → Option γ
 d : γ → Env
 ok : SlOk q d
def en : Re Unit := ⟨slN, fun _ => [], .nil⟩
def ec (t : Nat) (a : Rq β) (l : Re γ) : Re (β × γ) := ⟨slC t a.f l.q, fun x => (t, a.c x.1) :: l.d x.2, .cons a.ok l.ok⟩
structure Rs (γ : Type) where
 q : IRs → Option γ
 d : γ → IRs
 ok : RsOk q d
def sn : Rs Unit := ⟨rsN, fun _ => [], .nil⟩
def sr (i t : Nat) (l : Rs γ) : Rs (List (U.Dat t) × γ) := ⟨rsR i t l.q, fun x => (i, .row t x.1) :: l.d x.2, .row l.ok⟩
def sb (i t : Nat) (a : Rl β) (l : Rs γ) : Rs (β × γ) := ⟨rsN2 i t a.q l.q, fun x => (i, .box t (a.c x.1)) :: l.d x.2, .boxN a.ok l.ok⟩
structure Td (n0 : Nat) (γ : Type) where
 rd : St → Option γ
 pat : γ → St
 ok : ∀ n, RdOk n0 n rd pat
def Td.r (n0 m : Nat) (e : Re β) (s : Rs δ) (mk : β × δ → γ) (un : γ → β × δ) (h : ∀ z, un (mk z) = z) : Td n0 γ :=
 ⟨rdM mk (stR m e.q s.q), fun x => stP m e.d s.d (un x), fun _ => (stR_ok e.ok s.ok).m mk fun z => by rw [h]⟩
def Td.c {n0 : Nat} (dr ts : List Nat) (d : Td n0 γ) : Td n0 γ := ⟨rdC n0 dr ts d.rd, d.pat, fun n => rdC_ok (d.ok n)⟩
def Td.t {n0 : Nat} {f : St → St} (h : TurnOk f) (d : Td n0 γ) : Td n0 γ := ⟨rdF f d.rd, d.pat, fun n => rdF_ok h (d.ok n)⟩
def Td.lp {n0 : Nat} (d : Td n0 γ) (a : γ → Option γ) (b : An) : An := .lp γ d.rd d.pat a b
end
def outY (P : Program) (f n0 : Nat) (s : St) : Out := match (match outOf P f s with
  | some ds => some (Out.mk (resA ds) (keepR s.R n0 (resA ds)) s.nx)
  | none => none) with
 | some o => o
 | none => ⟨.tup [], [], 0⟩
theorem ob_nil {α : Type _} {Q : α → Prop} : ∀ p ∈ ([] : List α), Q p := fun p h => by cases h
theorem ob_cons {α : Type _} {Q : α → Prop} {a : α} {l : List α} (h : Q a) (t : ∀ p ∈ l, Q p) : ∀ p ∈ a :: l, Q p := fun p hp => (List.mem_cons.1 hp).elim (fun e => e ▸ h) (t p)
section
variable {P : Program} {F : Orc} {f n0 : Nat} {γ δ β : Type}
def HY (P : Program) (f n0 : Nat) (a : Rl γ) (s : Rs δ) (d : Td n0 β) (t : γ × δ → Option β) : Prop := ∀ g b, t g = some b → FnY P f (a.c g.1) (s.d g.2) n0 (outY P f n0 (d.pat b))
def HL (P : Program) (f : Nat) (a : Rl γ) (d : Td 0 β) (t : γ → Option β) : Prop := ∀ g b, t g = some b → FnY P f (a.c g) [] 0 (outY P f 0 (d.pat b))
theorem hy_of (hF : OrcG P F) {an : An} (fa : FnAn P F n0 300 f an) {a : Rl γ} {s : Rs δ} {d : Td n0 β} {t : γ × δ → Option β} (ho : ∀ p, (match outOf P f (d.pat p) with
   | some ds => some (Out.mk (resA ds) (keepR (d.pat p).R n0 (resA ds)) (d.pat p).nx)
   | none => none) = some (outY P f n0 (d.pat p)))
  (h1 : ∀ g, (a.c g).all (idsC (fun i => Nat.blt i n0) 4) = true) (h2 : ∀ g, (s.d g).all (fun q => Nat.blt q.1 n0 && match q.2 with
  | .box _ cs => cs.all (idsC (fun i => Nat.blt i n0) 4)
  | .row _ _ => true
  | .mp _ => true) = true) (c : ∀ g, callR P F 300 an f (a.c g.1) (s.d g.2) n0 d.rd = t g) : HY P f n0 a s d t :=
 fun g b hb => (fnY_of (p := b) hF fa d.ok ho (ltd_of (h1 g.1)) (rltd_of (h2 g.2)) ((c g).trans hb)).2
theorem hl_of (hF : OrcG P F) {an : An} (fa : FnAn P F 0 300 f an) {a : Rl γ} {d : Td 0 β} {t : γ → Option β} (ho : ∀ p, (match outOf P f (d.pat p) with
   | some ds => some (Out.mk (resA ds) (keepR (d.pat p).R 0 (resA ds)) (d.pat p).nx)
   | none => none) = some (outY P f 0 (d.pat p)))
  (h1 : ∀ g, (a.c g).all (idsC (fun i => Nat.blt i 0) 4) = true) (c : ∀ g, callR P F 300 an f (a.c g) [] 0 d.rd = t g) : HL P f a d t :=
 fun g b hb => (fnY_of (p := b) hF fa d.ok ho (ltd_of (h1 g)) (rltd_of rfl) ((c g).trans hb)).2
def eY (P : Program) (f n0 : Nat) (a : Rl γ) (s : Rs δ) (d : Td n0 β) (t : γ × δ → Option β) (F : Orc) : Orc := orY f n0 (qyR a.q s.q) t (fun x => outY P f n0 (d.pat x)) F
def eZ (P : Program) (f : Nat) (a : Rl γ) (d : Td 0 β) (t : γ → Option β) (F : Orc) : Orc := orY f 0 (qy0 a.q) t (fun x => outY P f 0 (d.pat x)) F
def eL (P : Program) (f : Nat) (lb : Bool) (a : Rl γ) (d : Td 0 β) (t : γ → Option β) (F : Orc) : Orc := orL f lb a.q t (fun x => outY P f 0 (d.pat x)) F
theorem eY_ok {a : Rl γ} {s : Rs δ} {d : Td n0 β} {t : γ × δ → Option β} (h : HY P f n0 a s d t) (hf : fnOk P f) (h3 : ∀ b, (outY P f n0 (d.pat b)).okB n0 = true) (hF : OrcG P F) : OrcG P (eY P f n0 a s d t F) :=
 orY_g hF hf (qyR_ok a.ok s.ok) h3 h
theorem eZ_ok {a : Rl γ} {d : Td 0 β} {t : γ → Option β} (h : HL P f a d t) (hf : fnOk P f) (h3 : ∀ b, (outY P f 0 (d.pat b)).okB 0 = true) (hF : OrcG P F) : OrcG P (eZ P f a d t F) :=
 orY_g hF hf (qy0_ok a.ok) h3 h
theorem eL_ok {lb : Bool} {sc : Nat → Bool} (hsc : ∀ t, sc t = true → ∀ x, ClL (U.cells t x)) {a : Rl γ} {d : Td 0 β} {t : γ → Option β} (h : HL P f a d t) (hf : fnOk P f) (h3 : ∀ b, (outY P f 0 (d.pat b)).okB 0 = true) (h4 : ∀ b, (outY P f 0 (d.pat b)).scB sc = true) (hF : OrcG P F) : OrcG P (eL P f lb a d t F) :=
 orL_g hF hsc hf a.ok h3 h4 h
end
end Go.Iv
end
noncomputable section
namespace Go.Proofs.YtghilkcphindjaaGreat
def lenTab : ByteArray := ByteArray.mk #[0, 1, 2, 2, 3, 3, 3, 3, 4, 4, 4, 4, 4, 4, 4, 4, 5, 5, 5, 5, 5, 5, 5, 5, 5, 5, 5, 5, 5, 5, 5, 5, 6, 6, 6, 6, 6, 6, 6, 6, 6, 6, 6, 6, 6, 6, 6, 6, 6, 6, 6, 6, 6, 6, 6, 6, 6, 6, 6, 6, 6, 6, 6, 6, 7, 7, 7, 7, 7, 7, 7, 7, 7, 7, 7, 7, 7, 7, 7, 7, 7, 7, 7, 7, 7, 7, 7, 7, 7, 7, 7, 7, 7, 7, 7, 7, 7, 7, 7, 7, 7, 7, 7, 7, 7, 7, 7, 7, 7, 7, 7, 7, 7, 7, 7, 7, 7, 7, 7, 7, 7, 7, 7, 7, 7, 7, 7, 7, 8, 8, 8, 8, 8, 8, 8, 8, 8, 8, 8, 8, 8, 8, 8, 8, 8, 8, 8, 8, 8, 8, 8, 8, 8, 8, 8, 8, 8, 8, 8, 8, 8, 8, 8, 8, 8, 8, 8, 8, 8, 8, 8, 8, 8, 8, 8, 8, 8, 8, 8, 8, 8, 8, 8, 8, 8, 8, 8, 8, 8, 8, 8, 8, 8, 8, 8, 8, 8, 8, 8, 8, 8, 8, 8, 8, 8, 8, 8, 8, 8, 8, 8, 8, 8, 8, 8, 8, 8, 8, 8, 8, 8, 8, 8, 8, 8, 8, 8, 8, 8, 8, 8, 8, 8, 8, 8, 8, 8, 8, 8, 8, 8, 8, 8, 8, 8, 8, 8, 8, 8, 8, 8, 8, 8, 8, 8, 8]
end Go.Proofs.YtghilkcphindjaaGreat
end
noncomputable section
set_option maxRecDepth 100000
namespace Go.Proofs.YtghilkcphindjaaGreat
open Go Go.Iv
open Go.IntKind (i64 u64)
def F65 : Orc := or0
theorem F65_ok : OrcG Tryz.prog F65 := or0_g
structure L65_0 where
 t1 : Int
 t5 : List Int
 t9 : List GVar
 t10 : Int
 t11 : Int
def d65_0 : Td 0 L65_0 := .c [] [1, 5, 9, 10, 11] (.t (TurnOk.s 5 [] 3) (.c [] [1, 5, 9, 10, 11] (.r 0 1 (ec 1 (qi .i64) (ec 5 (qo 0) (ec 9 (ql 108) (ec 10 (qi .i64) (ec 11 (qi .i64) en))))) (sr 0 3 sn) (fun z => ⟨z.1.1, z.2.1, z.1.2.2.1, z.1.2.2.2.1, z.1.2.2.2.2.1⟩) (fun x => ((x.t1, (), x.t9, x.t10, x.t11, ()), (x.t5, ()))) fun _ => rfl)))
def n65_0 (p : L65_0) : Option (Option L65_0) :=
 bif decide (p.t11 < p.t10) then if (0 : Int) ≤ p.t11 ∧ p.t11 < (↑p.t9.length : Int) then bif decide (p.t9[p.t11.toNat]!.fKind = p.t1) then if (p.t5 ++ [p.t11]).length ≤ 1073741824 then some (some (L65_0.mk p.t1 (p.t5 ++ [p.t11]) p.t9 p.t10 (i64.wrap (p.t11 + 1)))) else none else some (some (L65_0.mk p.t1 p.t5 p.t9 p.t10 (i64.wrap (p.t11 + 1)))) else none else some (none)
theorem q65_0 (p : L65_0) : execA Tryz.prog (F65) Tryz.f65.ntmps 300 (loopAt Tryz.f65 0) .no (Option L65_0) (d65_0.pat p) (kOn d65_0.rd) = n65_0 p := by kernel_rfl
def a65_0 : L65_0 → Option L65_0 := advG (n65_0)
abbrev E65 : Type := List Int
def d65 : Td 0 E65 := .c [] [4] (.r 0 1 (ec 4 (qo 0) en) (sr 0 3 sn) (fun z => z.2.1) (fun x => (((), ()), (x, ()))) fun _ => rfl)
def A65 := (lc (qg 26) (lc (qi .i64) ln))
def an65 : An := (.two .no (.two .no (.two (.two .no (d65_0.lp a65_0 .no)) .no)))
theorem fa65 : FnAn Tryz.prog (F65) 0 300 65 (an65) := fnAn_of (l := [(loopAt Tryz.f65 0, (d65_0.lp a65_0 .no))]) Tryz.func65 (bodyOf_eq (by kernel_rfl)) (by kernel_rfl) (ob_cons ⟨d65_0.ok _, advG_ok (q65_0)⟩ ob_nil)
def m65 (a0 : Flat) (a1 : Int) : Option E65 :=
 match a65_0 (L65_0.mk a1 [] a0.fVars (↑a0.fVars.length : Int) (0)) with | none => none | some r1 => bif decide (r1.t11 < r1.t10) then if (0 : Int) ≤ r1.t11 ∧ r1.t11 < (↑r1.t9.length : Int) then bif decide (r1.t9[r1.t11.toNat]!.fKind = r1.t1) then if (r1.t5 ++ [r1.t11]).length ≤ 1073741824 then none else none else none else none else some (r1.t5)
theorem c65 (a0 : Flat) (a1 : Int) : callR Tryz.prog (F65) 300 (an65) 65 (A65.c (a0, a1, ())) [] 0 d65.rd = m65 a0 a1 := by kernel_rfl
def e65 : Orc → Orc := eL Tryz.prog 65 false A65 d65 (fun g => m65 g.1 g.2.1)
theorem e65_ok {F : Orc} (h : OrcG Tryz.prog F) : OrcG Tryz.prog (e65 F) := eL_ok (sc := scU) scU_ok (hl_of F65_ok fa65 (fun _ => by kernel_rfl) (fun _ => by kernel_rfl) fun g => c65 g.1 g.2.1) ⟨_, Tryz.func65, by kernel_rfl, by kernel_rfl⟩ (fun _ => by kernel_rfl) (fun _ => by kernel_rfl) h
def F172 : Orc := or0
theorem F172_ok : OrcG Tryz.prog F172 := or0_g
abbrev E172 : Type := Int
def d172 : Td 0 E172 := .c [] [2] (.r 0 0 (ec 2 (qi .i64) en) sn (fun z => z.1.1) (fun x => ((x, ()), (()))) fun _ => rfl)
def A172 := (lc (qi .u32) ln)
def an172 : An := .no
theorem fa172 : FnAn Tryz.prog (F172) 0 300 172 (an172) := fnAn_of (l := []) Tryz.func172 (bodyOf_eq (by kernel_rfl)) (by kernel_rfl) ob_nil
def m172 (a0 : Int) : Option E172 :=
 bif decide (65536 ≤ a0) then bif decide (256 ≤ bShr IntKind.u32 a0 (16)) then if (0 : Int) ≤ IntKind.u8.wrap (bShr IntKind.u32 (bShr IntKind.u32 a0 ((16 : Int))) ((8 : Int))) ∧ IntKind.u8.wrap (bShr IntKind.u32 (bShr IntKind.u32 a0 ((16 : Int))) ((8 : Int))) < (256 : Int) then some (i64.wrap (24 + i64.wrap (byteAt lenTab (IntKind.u8.wrap (bShr IntKind.u32 (bShr IntKind.u32 a0 (16)) (8))).toNat))) else none else if (0 : Int) ≤ IntKind.u8.wrap (bShr IntKind.u32 a0 ((16 : Int))) ∧ IntKind.u8.wrap (bShr IntKind.u32 a0 ((16 : Int))) < (256 : Int) then some (i64.wrap (16 + i64.wrap (byteAt lenTab (IntKind.u8.wrap (bShr IntKind.u32 a0 (16))).toNat))) else none else bif decide (256 ≤ a0) then if (0 : Int) ≤ IntKind.u8.wrap (bShr IntKind.u32 a0 ((8 : Int))) ∧ IntKind.u8.wrap (bShr IntKind.u32 a0 ((8 : Int))) < (256 : Int) then some (i64.wrap (8 + i64.wrap (byteAt lenTab (IntKind.u8.wrap (bShr IntKind.u32 a0 (8))).toNat))) else none else if (0 : Int) ≤ IntKind.u8.wrap a0 ∧ IntKind.u8.wrap a0 < (256 : Int) then some (i64.wrap (0 + i64.wrap (byteAt lenTab (IntKind.u8.wrap a0).toNat))) else none
theorem c172 (a0 : Int) : callR Tryz.prog (F172) 300 (an172) 172 (A172.c (a0, ())) [] 0 d172.rd = m172 a0 := by kernel_rfl
def e172 : Orc → Orc := eL Tryz.prog 172 false A172 d172 (fun g => m172 g.1)
theorem e172_ok {F : Orc} (h : OrcG Tryz.prog F) : OrcG Tryz.prog (e172 F) := eL_ok (sc := scU) scU_ok (hl_of F172_ok fa172 (fun _ => by kernel_rfl) (fun _ => by kernel_rfl) fun g => c172 g.1) ⟨_, Tryz.func172, by kernel_rfl, by kernel_rfl⟩ (fun _ => by kernel_rfl) (fun _ => by kernel_rfl) h
def F173 : Orc := or0
theorem F173_ok : OrcG Tryz.prog F173 := or0_g
abbrev E173 : Type := Int
def d173 : Td 0 E173 := .c [] [2] (.r 0 0 (ec 2 (qi .i64) en) sn (fun z => z.1.1) (fun x => ((x, ()), (()))) fun _ => rfl)
def A173 := (lc (qi .u64) ln)
def an173 : An := .no
theorem fa173 : FnAn Tryz.prog (F173) 0 300 173 (an173) := fnAn_of (l := []) Tryz.func173 (bodyOf_eq (by kernel_rfl)) (by kernel_rfl) ob_nil
def m173 (a0 : Int) : Option E173 :=
 bif decide (4294967296 ≤ a0) then bif decide (65536 ≤ bShr IntKind.u64 a0 (32)) then bif decide (256 ≤ bShr IntKind.u64 (bShr IntKind.u64 a0 (32)) (16)) then if (0 : Int) ≤ IntKind.u8.wrap (bShr IntKind.u64 (bShr IntKind.u64 (bShr IntKind.u64 a0 ((32 : Int))) ((16 : Int))) ((8 : Int))) ∧ IntKind.u8.wrap (bShr IntKind.u64 (bShr IntKind.u64 (bShr IntKind.u64 a0 ((32 : Int))) ((16 : Int))) ((8 : Int))) < (256 : Int) then some (i64.wrap (56 + i64.wrap (byteAt lenTab (IntKind.u8.wrap (bShr IntKind.u64 (bShr IntKind.u64 (bShr IntKind.u64 a0 (32)) (16)) (8))).toNat))) else none else if (0 : Int) ≤ IntKind.u8.wrap (bShr IntKind.u64 (bShr IntKind.u64 a0 ((32 : Int))) ((16 : Int))) ∧ IntKind.u8.wrap (bShr IntKind.u64 (bShr IntKind.u64 a0 ((32 : Int))) ((16 : Int))) < (256 : Int) then some (i64.wrap (48 + i64.wrap (byteAt lenTab (IntKind.u8.wrap (bShr IntKind.u64 (bShr IntKind.u64 a0 (32)) (16))).toNat))) else none else bif decide (256 ≤ bShr IntKind.u64 a0 (32)) then if (0 : Int) ≤ IntKind.u8.wrap (bShr IntKind.u64 (bShr IntKind.u64 a0 ((32 : Int))) ((8 : Int))) ∧ IntKind.u8.wrap (bShr IntKind.u64 (bShr IntKind.u64 a0 ((32 : Int))) ((8 : Int))) < (256 : Int) then some (i64.wrap (40 + i64.wrap (byteAt lenTab (IntKind.u8.wrap (bShr IntKind.u64 (bShr IntKind.u64 a0 (32)) (8))).toNat))) else none else if (0 : Int) ≤ IntKind.u8.wrap (bShr IntKind.u64 a0 ((32 : Int))) ∧ IntKind.u8.wrap (bShr IntKind.u64 a0 ((32 : Int))) < (256 : Int) then some (i64.wrap (32 + i64.wrap (byteAt lenTab (IntKind.u8.wrap (bShr IntKind.u64 a0 (32))).toNat))) else none else bif decide (65536 ≤ a0) then bif decide (256 ≤ bShr IntKind.u64 a0 (16)) then if (0 : Int) ≤ IntKind.u8.wrap (bShr IntKind.u64 (bShr IntKind.u64 a0 ((16 : Int))) ((8 : Int))) ∧ IntKind.u8.wrap (bShr IntKind.u64 (bShr IntKind.u64 a0 ((16 : Int))) ((8 : Int))) < (256 : Int) then some (i64.wrap (24 + i64.wrap (byteAt lenTab (IntKind.u8.wrap (bShr IntKind.u64 (bShr IntKind.u64 a0 (16)) (8))).toNat))) else none else if (0 : Int) ≤ IntKind.u8.wrap (bShr IntKind.u64 a0 ((16 : Int))) ∧ IntKind.u8.wrap (bShr IntKind.u64 a0 ((16 : Int))) < (256 : Int) then some (i64.wrap (16 + i64.wrap (byteAt lenTab (IntKind.u8.wrap (bShr IntKind.u64 a0 (16))).toNat))) else none else bif decide (256 ≤ a0) then if (0 : Int) ≤ IntKind.u8.wrap (bShr IntKind.u64 a0 ((8 : Int))) ∧ IntKind.u8.wrap (bShr IntKind.u64 a0 ((8 : Int))) < (256 : Int) then some (i64.wrap (8 + i64.wrap (byteAt lenTab (IntKind.u8.wrap (bShr IntKind.u64 a0 (8))).toNat))) else none else if (0 : Int) ≤ IntKind.u8.wrap a0 ∧ IntKind.u8.wrap a0 < (256 : Int) then some (i64.wrap (0 + i64.wrap (byteAt lenTab (IntKind.u8.wrap a0).toNat))) else none
theorem c173 (a0 : Int) : callR Tryz.prog (F173) 300 (an173) 173 (A173.c (a0, ())) [] 0 d173.rd = m173 a0 := by kernel_rfl
def e173 : Orc → Orc := eL Tryz.prog 173 false A173 d173 (fun g => m173 g.1)
theorem e173_ok {F : Orc} (h : OrcG Tryz.prog F) : OrcG Tryz.prog (e173 F) := eL_ok (sc := scU) scU_ok (hl_of F173_ok fa173 (fun _ => by kernel_rfl) (fun _ => by kernel_rfl) fun g => c173 g.1) ⟨_, Tryz.func173, by kernel_rfl, by kernel_rfl⟩ (fun _ => by kernel_rfl) (fun _ => by kernel_rfl) h
def F102 : Orc := (e173 (e172 or0))
theorem F102_ok : OrcG Tryz.prog F102 := (e173_ok (e172_ok or0_g))
abbrev E102 : Type := Int
def d102 : Td 0 E102 := .c [] [2] (.r 0 0 (ec 2 (qi .i64) en) sn (fun z => z.1.1) (fun x => ((x, ()), (()))) fun _ => rfl)
def A102 := (lc (qi .u64) ln)
def an102 : An := .no
theorem fa102 : FnAn Tryz.prog (F102) 0 300 102 (an102) := fnAn_of (l := []) Tryz.func102 (bodyOf_eq (by kernel_rfl)) (by kernel_rfl) ob_nil
def m102 (a0 : Int) : Option E102 :=
 match m173 a0 with | none => none | some r1 => some (r1)
theorem c102 (a0 : Int) : callR Tryz.prog (F102) 300 (an102) 102 (A102.c (a0, ())) [] 0 d102.rd = m102 a0 := by kernel_rfl
def e102 : Orc → Orc := eL Tryz.prog 102 false A102 d102 (fun g => m102 g.1)
theorem e102_ok {F : Orc} (h : OrcG Tryz.prog F) : OrcG Tryz.prog (e102 F) := eL_ok (sc := scU) scU_ok (hl_of F102_ok fa102 (fun _ => by kernel_rfl) (fun _ => by kernel_rfl) fun g => c102 g.1) ⟨_, Tryz.func102, by kernel_rfl, by kernel_rfl⟩ (fun _ => by kernel_rfl) (fun _ => by kernel_rfl) h
def F49 : Orc := (e102 (e65 or0))
theorem F49_ok : OrcG Tryz.prog F49 := (e102_ok (e65_ok or0_g))
structure L49_1 where
 t2 : List Slot
 t3 : Int
 t4 : Int
 t6 : Int
 t10 : List Int
 t11 : Int
 t12 : Int
 t18 : List Int
 t19 : Int
 t20 : Int
 b0 : Flat
def d49_1 : Td 0 L49_1 := .c [] [1, 2, 3, 4, 6, 10, 11, 12, 18, 19, 20] (.r 0 4 (ec 1 (qp 0 0) (ec 2 (qo 1) (ec 3 (qi .i64) (ec 4 (qi .i64) (ec 6 (qi .i64) (ec 10 (qo 2) (ec 11 (qi .i64) (ec 12 (qi .i64) (ec 18 (qo 3) (ec 19 (qi .i64) (ec 20 (qi .i64) en))))))))))) (sb 0 26 (lg 26) (sr 1 38 (sr 2 65 (sr 3 3 sn)))) (fun z => ⟨z.2.2.1, z.1.2.2.1, z.1.2.2.2.1, z.1.2.2.2.2.1, z.2.2.2.1, z.1.2.2.2.2.2.2.1, z.1.2.2.2.2.2.2.2.1, z.2.2.2.2.1, z.1.2.2.2.2.2.2.2.2.2.1, z.1.2.2.2.2.2.2.2.2.2.2.1, z.2.1⟩) (fun x => (((), (), x.t3, x.t4, x.t6, (), x.t11, x.t12, (), x.t19, x.t20, ()), (x.b0, x.t2, x.t10, x.t18, ()))) fun _ => rfl)
def n49_1 (p : L49_1) : Option (Option L49_1) :=
 bif decide (p.t20 < p.t19) then if (0 : Int) ≤ p.t20 ∧ p.t20 < (↑p.t18.length : Int) then if 3 = 3 ∧ p.t20.toNat < p.t18.length then if (0 : Int) ≤ p.t18[p.t20.toNat]! ∧ p.t18[p.t20.toNat]! < (↑p.b0.fVars.length : Int) then if (0 : Int) ≤ p.t18[p.t20.toNat]! ∧ p.t18[p.t20.toNat]! < (↑p.b0.fVars.length : Int) then match m102 (IntKind.u64.wrap (i64.wrap (p.b0.fVars[Int.toNat p.t18[p.t20.toNat]!]!.fHigh - p.b0.fVars[Int.toNat p.t18[p.t20.toNat]!]!.fLow))) with | none => none | some r4 => if (p.t2 ++ [Slot.mk p.t18[p.t20.toNat]! p.t4 r4]).length ≤ 1073741824 then some (some (L49_1.mk (p.t2 ++ [Slot.mk p.t18[p.t20.toNat]! p.t4 r4]) p.t3 (i64.wrap (p.t4 + r4)) p.t6 p.t10 p.t11 p.t12 p.t18 p.t19 (i64.wrap (p.t20 + 1)) p.b0)) else none else none else none else none else none else some (none)
theorem q49_1 (p : L49_1) : execA Tryz.prog (F49) Tryz.f49.ntmps 300 (loopAt Tryz.f49 1) .no (Option L49_1) (d49_1.pat p) (kOn d49_1.rd) = n49_1 p := by kernel_rfl
def a49_1 : L49_1 → Option L49_1 := advG (n49_1)
structure L49_0 where
 t2 : List Slot
 t3 : Int
 t4 : Int
 t10 : List Int
 t11 : Int
 t12 : Int
 b0 : Flat
def d49_0 : Td 0 L49_0 := .c [] [1, 2, 3, 4, 10, 11, 12] (.t (TurnOk.s 2 [] 38) (.c [] [1, 2, 3, 4, 10, 11, 12] (.r 0 3 (ec 1 (qp 0 0) (ec 2 (qo 1) (ec 3 (qi .i64) (ec 4 (qi .i64) (ec 10 (qo 2) (ec 11 (qi .i64) (ec 12 (qi .i64) en))))))) (sb 0 26 (lg 26) (sr 1 38 (sr 2 65 sn))) (fun z => ⟨z.2.2.1, z.1.2.2.1, z.1.2.2.2.1, z.2.2.2.1, z.1.2.2.2.2.2.1, z.1.2.2.2.2.2.2.1, z.2.1⟩) (fun x => (((), (), x.t3, x.t4, (), x.t11, x.t12, ()), (x.b0, x.t2, x.t10, ()))) fun _ => rfl)))
def n49_0 (p : L49_0) : Option (Option L49_0) :=
 bif decide (p.t12 < p.t11) then if (0 : Int) ≤ p.t12 ∧ p.t12 < (↑p.t10.length : Int) then if 65 = 65 ∧ p.t12.toNat < p.t10.length then match m65 p.b0 p.t10[p.t12.toNat]! with | none => none | some r1 => match a49_1 (L49_1.mk p.t2 p.t3 p.t4 p.t10[p.t12.toNat]! p.t10 p.t11 p.t12 r1 (↑(List.length r1) : Int) (0) p.b0) with | none => none | some r2 => bif decide (r2.t20 < r2.t19) then if (0 : Int) ≤ r2.t20 ∧ r2.t20 < (↑r2.t18.length : Int) then if 3 = 3 ∧ r2.t20.toNat < r2.t18.length then if (0 : Int) ≤ r2.t18[r2.t20.toNat]! ∧ r2.t18[r2.t20.toNat]! < (↑r2.b0.fVars.length : Int) then if (0 : Int) ≤ r2.t18[r2.t20.toNat]! ∧ r2.t18[r2.t20.toNat]! < (↑r2.b0.fVars.length : Int) then match m102 (IntKind.u64.wrap (i64.wrap (r2.b0.fVars[Int.toNat r2.t18[r2.t20.toNat]!]!.fHigh - r2.b0.fVars[Int.toNat r2.t18[r2.t20.toNat]!]!.fLow))) with | none => none | some r3 => if (r2.t2 ++ [Slot.mk r2.t18[r2.t20.toNat]! r2.t4 r3]).length ≤ 1073741824 then none else none else none else none else none else none else bif decide (r2.t6 = 1) then some (some (L49_0.mk r2.t2 r2.t4 r2.t4 r2.t10 r2.t11 (i64.wrap (r2.t12 + 1)) r2.b0)) else some (some (L49_0.mk r2.t2 r2.t3 r2.t4 r2.t10 r2.t11 (i64.wrap (r2.t12 + 1)) r2.b0)) else none else none else some (none)
def g49_0 : An := (.two .no (.two .no (.two (.two .no (.two (.two .no (d49_1.lp a49_1 .no)) .no)) .no)))
theorem q49_0 (p : L49_0) : execA Tryz.prog (F49) Tryz.f49.ntmps 300 (loopAt Tryz.f49 0) g49_0 (Option L49_0) (d49_0.pat p) (kOn d49_0.rd) = n49_0 p := by kernel_rfl
def a49_0 : L49_0 → Option L49_0 := advG (n49_0)
abbrev E49 : Type := (List Slot) × Int × Int
def d49 : Td 0 E49 := .c [] [2, 3, 4] (.r 0 1 (ec 2 (qo 0) (ec 3 (qi .i64) (ec 4 (qi .i64) en))) (sr 0 38 sn) (fun z => (z.2.1, z.1.2.1, z.1.2.2.1)) (fun x => (((), x.2.1, x.2.2, ()), (x.1, ()))) fun _ => rfl)
def A49 := (lc (qg 26) ln)
def an49 : An := (.two .no (.two (.two .no (d49_0.lp a49_0 g49_0)) .no))
theorem fa49 : FnAn Tryz.prog (F49) 0 300 49 (an49) := fnAn_of (l := [(loopAt Tryz.f49 0, (d49_0.lp a49_0 g49_0)), (loopAt Tryz.f49 1, (d49_1.lp a49_1 .no))]) Tryz.func49 (bodyOf_eq (by kernel_rfl)) (by kernel_rfl) (ob_cons ⟨d49_0.ok _, advG_ok (q49_0)⟩ (ob_cons ⟨d49_1.ok _, advG_ok (q49_1)⟩ ob_nil))
def m49 (a0 : Flat) : Option E49 :=
 match a49_0 (L49_0.mk [] (0) (0) [1, 3] (↑2 : Int) (0) a0) with | none => none | some r5 => bif decide (r5.t12 < r5.t11) then if (0 : Int) ≤ r5.t12 ∧ r5.t12 < (↑r5.t10.length : Int) then if 65 = 65 ∧ r5.t12.toNat < r5.t10.length then match m65 r5.b0 r5.t10[r5.t12.toNat]! with | none => none | some r6 => match a49_1 (L49_1.mk r5.t2 r5.t3 r5.t4 r5.t10[r5.t12.toNat]! r5.t10 r5.t11 r5.t12 r6 (↑(List.length r6) : Int) (0) r5.b0) with | none => none | some r7 => bif decide (r7.t20 < r7.t19) then if (0 : Int) ≤ r7.t20 ∧ r7.t20 < (↑r7.t18.length : Int) then if 3 = 3 ∧ r7.t20.toNat < r7.t18.length then if (0 : Int) ≤ r7.t18[r7.t20.toNat]! ∧ r7.t18[r7.t20.toNat]! < (↑r7.b0.fVars.length : Int) then if (0 : Int) ≤ r7.t18[r7.t20.toNat]! ∧ r7.t18[r7.t20.toNat]! < (↑r7.b0.fVars.length : Int) then match m102 (IntKind.u64.wrap (i64.wrap (r7.b0.fVars[Int.toNat r7.t18[r7.t20.toNat]!]!.fHigh - r7.b0.fVars[Int.toNat r7.t18[r7.t20.toNat]!]!.fLow))) with | none => none | some r8 => if (r7.t2 ++ [Slot.mk r7.t18[r7.t20.toNat]! r7.t4 r8]).length ≤ 1073741824 then none else none else none else none else none else none else bif decide (r7.t6 = 1) then none else none else none else none else some ((r5.t2, r5.t3, r5.t4))
theorem c49 (a0 : Flat) : callR Tryz.prog (F49) 300 (an49) 49 (A49.c (a0, ())) [] 0 d49.rd = m49 a0 := by kernel_rfl
def e49 : Orc → Orc := eL Tryz.prog 49 false A49 d49 (fun g => m49 g.1)
theorem e49_ok {F : Orc} (h : OrcG Tryz.prog F) : OrcG Tryz.prog (e49 F) := eL_ok (sc := scU) scU_ok (hl_of F49_ok fa49 (fun _ => by kernel_rfl) (fun _ => by kernel_rfl) fun g => c49 g.1) ⟨_, Tryz.func49, by kernel_rfl, by kernel_rfl⟩ (fun _ => by kernel_rfl) (fun _ => by kernel_rfl) h
end Go.Proofs.YtghilkcphindjaaGreat
end
noncomputable section
namespace Go.Iv
open Go
variable [U : Uni] [L : UniL]
theorem wrap_id {n : Int} (h1 : -9223372036854775808 ≤ n) (h2 : n < 9223372036854775808) : IntKind.i64.wrap n = n := by
 simp [IntKind.wrap, IntKind.bits, IntKind.signed]
 omega
def foldE {α β ρ : Type} (step : β → α → Option β) (ret : β → α → ρ) (fin : β → ρ) : List α → β → ρ
 | [], b => fin b
 | x :: xs, b => match step b x with
  | some b' => foldE step ret fin xs b'
  | none => ret b x
theorem advG_list {γ α β ρ : Type} {rnd : γ → Option (Option γ)} (l : List α) (mk : Nat → β → γ) (step : β → α → Option β) (ret : β → α → ρ) (fin : β → ρ) (I : Nat → β → Prop)
  (h1 : ∀ i b (hi : i < l.length), I i b → ∀ b', step b l[i] = some b' → rnd (mk i b) = some (some (mk (i + 1) b')) ∧ I (i + 1) b')
  (h2 : ∀ i b (hi : i < l.length), I i b → step b l[i] = none → ∀ r, rnd (mk i b) ≠ some (some r)) (h3 : ∀ b, I l.length b → ∀ r, rnd (mk l.length b) ≠ some (some r)) {b : β} (hb : I 0 b) :
  ∃ i v, i ≤ l.length ∧ advG rnd (mk 0 b) = some (mk i v) ∧ I i v ∧ ((i = l.length ∧ foldE step ret fin l b = fin v) ∨ ∃ hi : i < l.length, step v l[i] = none ∧ foldE step ret fin l b = ret v l[i]) := by
 have key : ∀ (xs : List α) (i : Nat) (b : β), l.drop i = xs → i ≤ l.length → I i b → ∃ j v, j ≤ l.length ∧ advG rnd (mk i b) = some (mk j v) ∧ I j v ∧ ((j = l.length ∧ foldE step ret fin xs b = fin v) ∨ ∃ hi : j < l.length, step v l[j] = none ∧ foldE step ret fin xs b = ret v l[j]) := by
  intro xs
  induction xs with
  | nil =>
   intro i b hd hi hb
   have : i = l.length := by have := congrArg List.length hd; simp at this; omega
   subst this
   exact ⟨_, b, Nat.le_refl _, advG_stop (h3 b hb), hb, .inl ⟨rfl, rfl⟩⟩
  | cons x xs ih =>
   intro i b hd hi hb
   have hil : i < l.length := by have := congrArg List.length hd; simp at this; omega
   have hx : l[i] = x := by
    have := congrArg List.head? hd
    rw [List.head?_drop, List.getElem?_eq_getElem hil] at this
    simp_all
   have hd' : l.drop (i + 1) = xs := by
    have := congrArg List.tail hd
    rw [List.tail_drop] at this
    assumption
   cases hs : step b x with
   | some b' =>
    obtain ⟨q1, q2⟩ := h1 i b hil hb b' (by rw [hx]; exact hs)
    obtain ⟨j, v, e1, e2, e3, e4⟩ := ih (i + 1) b' hd' hil q2
    have er : foldE step ret fin (x :: xs) b = foldE step ret fin xs b' := by simp only [foldE, hs]
    exact ⟨j, v, e1, by rw [advG_step q1]; exact e2, e3, by rw [er]; exact e4⟩
   | none =>
    have er : foldE step ret fin (x :: xs) b = ret b x := by simp only [foldE, hs]
    exact ⟨i, b, hi, advG_stop (h2 i b hil hb (by rw [hx]; exact hs)), hb, .inr ⟨hil, by rw [hx]; exact hs, by rw [er, hx]⟩⟩
 exact key l 0 b rfl (Nat.zero_le _) hb
def goE {α β ρ τ : Type} (step : Nat → β → α → β ⊕ ρ) (out : ρ → τ) (fin : β → τ) : List α → Nat → β → τ
 | [], _, b => fin b
 | x :: xs, i, b => match step i b x with
  | .inl b' => goE step out fin xs (i + 1) b'
  | .inr r => out r
theorem goE_inl {α β ρ τ : Type} {step : Nat → β → α → β ⊕ ρ} {out : ρ → τ} {fin : β → τ} {x : α} {xs : List α} {i : Nat} {b b' : β} (h : step i b x = .inl b') : goE step out fin (x :: xs) i b = goE step out fin xs (i + 1) b' := by
 simp only [goE, h]
theorem goE_inr {α β ρ τ : Type} {step : Nat → β → α → β ⊕ ρ} {out : ρ → τ} {fin : β → τ} {x : α} {xs : List α} {i : Nat} {b : β} {r : ρ} (h : step i b x = .inr r) : goE step out fin (x :: xs) i b = out r := by
 simp only [goE, h]
theorem loopV {γ α β ρ τ : Type} [Inhabited α] {rnd : γ → Option (Option γ)} (l : List α) (mk : Nat → β → γ) (step : Nat → β → α → β ⊕ ρ) (out : ρ → τ) (fin : β → τ) (I : Nat → β → Prop)
  (h1 : ∀ i b, i < l.length → I i b → (∀ b', step i b l[i]! = .inl b' → rnd (mk i b) = some (some (mk (i + 1) b')) ∧ I (i + 1) b') ∧ ∀ r, step i b l[i]! = .inr r → rnd (mk i b) = some none)
  (h2 : ∀ b, I l.length b → rnd (mk l.length b) = some none) {b : β} (hb : I 0 b) :
  ∃ i v, advG rnd (mk 0 b) = some (mk i v) ∧ I i v ∧ ((i = l.length ∧ goE step out fin l 0 b = fin v) ∨ (i < l.length ∧ ∃ r, step i v l[i]! = .inr r ∧ goE step out fin l 0 b = out r)) := by
 have key : ∀ (xs : List α) (i : Nat) (b : β), l.drop i = xs → i ≤ l.length → I i b → ∃ j v, advG rnd (mk i b) = some (mk j v) ∧ I j v ∧ ((j = l.length ∧ goE step out fin xs i b = fin v) ∨ (j < l.length ∧ ∃ r, step j v l[j]! = .inr r ∧ goE step out fin xs i b = out r)) := by
  intro xs
  induction xs with
  | nil =>
   intro i b hd hi hb
   have : i = l.length := by have := congrArg List.length hd; simp at this; omega
   subst this
   exact ⟨_, b, advG_stop (fun r => by rw [h2 b hb]; simp), hb, .inl ⟨rfl, rfl⟩⟩
  | cons x xs ih =>
   intro i b hd hi hb
   have hil : i < l.length := by have := congrArg List.length hd; simp at this; omega
   have hx : l[i]! = x := by
    have := congrArg List.head? hd
    rw [List.head?_drop, List.getElem?_eq_getElem hil] at this
    simp_all
   have hd' : l.drop (i + 1) = xs := by
    have := congrArg List.tail hd
    rw [List.tail_drop] at this
    assumption
   obtain ⟨p1, p2⟩ := h1 i b hil hb
   cases hs : step i b x with
   | inl b' =>
    obtain ⟨q1, q2⟩ := p1 b' (by rw [hx]; exact hs)
    obtain ⟨j, v, e2, e3, e4⟩ := ih (i + 1) b' hd' hil q2
    rw [goE_inl hs]
    exact ⟨j, v, by rw [advG_step q1]; exact e2, e3, e4⟩
   | inr r =>
    rw [goE_inr hs]
    exact ⟨i, b, advG_stop (fun r' => by rw [p2 r (by rw [hx]; exact hs)]; simp), hb, .inr ⟨hil, r, by rw [hx]; exact hs, rfl⟩⟩
 exact key l 0 b rfl (Nat.zero_le _) hb
theorem get_memL {α : Type} [Inhabited α] {l : List α} {i : Nat} (h : i < l.length) : l[i]! ∈ l := by rw [getElem!_pos l i h]; exact List.getElem_mem h
theorem w1L {i n : Nat} (h : i < n) (hn : n ≤ 1000000) : IntKind.i64.wrap ((i : Int) + 1) = ((i + 1 : Nat) : Int) := by rw [wrap_id (by omega) (by omega)]; omega
theorem loopJ {γ β : Type} {rnd : γ → Option (Option γ)} (n : Nat) (mk : Nat → β → γ) (I S : Nat → β → Prop)
    (h1 : ∀ i b, i < n → I i b → (∃ b', rnd (mk i b) = some (some (mk (i + 1) b')) ∧ I (i + 1) b') ∨ (rnd (mk i b) = some none ∧ S i b))
    (h2 : ∀ b, I n b → rnd (mk n b) = some none) {b : β} (hb : I 0 b) :
    ∃ i v, advG rnd (mk 0 b) = some (mk i v) ∧ I i v ∧ (i = n ∨ (i < n ∧ S i v)) := by
  have key : ∀ (k i : Nat) (b : β), i + k = n → I i b → ∃ j v, advG rnd (mk i b) = some (mk j v) ∧ I j v ∧ (j = n ∨ (j < n ∧ S j v)) := by
    intro k
    induction k with
    | zero =>
      intro i b hi hb
      have : i = n := by omega
      subst this
      exact ⟨_, b, advG_stop (fun r => by rw [h2 b hb]; simp), hb, .inl rfl⟩
    | succ k ih =>
      intro i b hi hb
      rcases h1 i b (by omega) hb with ⟨b', q1, q2⟩ | ⟨q1, q2⟩
      · rw [advG_step q1]
        grind
      · exact ⟨i, b, advG_stop (fun r => by rw [q1]; simp), hb, .inr ⟨by omega, q2⟩⟩
  simp_all
theorem loopI {γ β : Type} {rnd : γ → Option (Option γ)} (n : Nat) (mk : Nat → β → γ) (I : Nat → β → Prop)
    (h1 : ∀ i b, i < n → I i b → ∃ b', rnd (mk i b) = some (some (mk (i + 1) b')) ∧ I (i + 1) b')
    (h2 : ∀ b, I n b → rnd (mk n b) = some none) {b : β} (hb : I 0 b) : ∃ v, advG rnd (mk 0 b) = some (mk n v) ∧ I n v := by
  obtain ⟨i, v, e, hi, h⟩ := loopJ n mk I (fun _ _ => False) (fun i b hi hb => .inl (h1 i b hi hb)) h2 hb
  rcases h with rfl | ⟨_, h⟩
  · exact ⟨v, e, hi⟩
  · simp_all
def firstC {α : Type} (c : Nat → α → Int) : List α → Nat → Int
 | [], _ => 0
 | x :: xs, i => if c i x = 0 then firstC c xs (i + 1) else c i x
theorem loopC {γ α : Type} [Inhabited α] {rnd : γ → Option (Option γ)} (l : List α) (mk : Nat → γ) (c : Nat → α → Int)
    (h1 : ∀ i, i < l.length → (c i l[i]! = 0 → rnd (mk i) = some (some (mk (i + 1)))) ∧ (c i l[i]! ≠ 0 → rnd (mk i) = some none))
    (h2 : rnd (mk l.length) = some none) :
    ∃ i, advG rnd (mk 0) = some (mk i) ∧ ((i = l.length ∧ firstC c l 0 = 0) ∨ (i < l.length ∧ c i l[i]! ≠ 0 ∧ firstC c l 0 = c i l[i]!)) := by
  have key : ∀ (xs : List α) (i : Nat), l.drop i = xs → i ≤ l.length → ∃ j, advG rnd (mk i) = some (mk j) ∧ ((j = l.length ∧ firstC c xs i = 0) ∨ (j < l.length ∧ c j l[j]! ≠ 0 ∧ firstC c xs i = c j l[j]!)) := by
    intro xs
    induction xs with
    | nil =>
      intro i hd hi
      have : i = l.length := by have := congrArg List.length hd; simp at this; omega
      subst this
      exact ⟨_, advG_stop (fun r => by rw [h2]; simp), .inl ⟨rfl, rfl⟩⟩
    | cons x xs ih =>
      intro i hd hi
      have hil : i < l.length := by have := congrArg List.length hd; simp at this; omega
      have hx : l[i]! = x := by
        have := congrArg List.head? hd
        rw [List.head?_drop, List.getElem?_eq_getElem hil] at this
        simp_all
      have hd' : l.drop (i + 1) = xs := by
        have := congrArg List.tail hd
        rw [List.tail_drop] at this
        assumption
      obtain ⟨p1, p2⟩ := h1 i hil
      unfold firstC
      rw [hx] at p1 p2
      by_cases hc : c i x = 0
      · rw [if_pos hc, advG_step (p1 hc)]
        exact ih (i + 1) hd' hil
      · rw [if_neg hc]
        exact ⟨i, advG_stop (fun r => by rw [p2 hc]; simp), .inr ⟨hil, by rw [hx]; exact hc, by rw [hx]⟩⟩
  exact key l 0 rfl (Nat.zero_le _)
theorem loopB {γ α : Type} [Inhabited α] {rnd : γ → Option (Option γ)} (l : List α) (mk : Nat → γ) (c : Nat → α → Bool)
    (h1 : ∀ i, i < l.length → (c i l[i]! = true → rnd (mk i) = some (some (mk (i + 1)))) ∧ (c i l[i]! = false → rnd (mk i) = some none))
    (h2 : rnd (mk l.length) = some none) :
    ∃ i, advG rnd (mk 0) = some (mk i) ∧ ((i = l.length ∧ ∀ j, j < l.length → c j l[j]! = true) ∨ (i < l.length ∧ c i l[i]! = false)) := by
  obtain ⟨i, v, e, hI, h⟩ := loopJ (β := Unit) (rnd := rnd) l.length (fun i _ => mk i) (fun i _ => ∀ j, j < i → c j l[j]! = true) (fun i _ => c i l[i]! = false) (fun i b hi hI => by
      obtain ⟨p1, p2⟩ := h1 i hi
      cases hc : c i l[i]! with
      | true => exact .inl ⟨(), p1 hc, fun j hj => by
          rcases Nat.lt_succ_iff_lt_or_eq.1 hj with h | h
          · exact hI j h
          · subst h; exact hc⟩
      | false => exact .inr ⟨p2 hc, rfl⟩) (fun b _ => h2) (b := ()) (fun j hj => absurd hj (by omega))
  refine ⟨i, e, ?_⟩
  rcases h with h | h
  · subst h; exact .inl ⟨rfl, hI⟩
  · exact .inr h
theorem all_of {α : Type} [Inhabited α] {l : List α} {p : α → Bool} (h : ∀ j, j < l.length → p l[j]! = true) : l.all p = true := by
 rw [List.all_eq_true]
 intro x hx
 obtain ⟨i, hi, e⟩ := List.getElem_of_mem hx
 have := h i hi
 simp_all
theorem not_all {α : Type} [Inhabited α] {l : List α} {p : α → Bool} {i : Nat} (hi : i < l.length) (h : p l[i]! = false) : l.all p = false := by
 cases ha : l.all p with
 | false => rfl
 | true =>
  rw [List.all_eq_true] at ha
  rw [ha _ (get_memL hi)] at h
  omega
theorem not_any {α : Type} [Inhabited α] {l : List α} {p : α → Bool} (h : ∀ j, j < l.length → p l[j]! = false) : l.any p = false := by
 cases ha : l.any p with
 | false => rfl
 | true =>
  obtain ⟨x, hx, e⟩ := List.any_eq_true.1 ha
  obtain ⟨i, hi, e2⟩ := List.getElem_of_mem hx
  have := h i hi
  rw [getElem!_pos l i hi, e2, e] at this
  omega
theorem is_any {α : Type} [Inhabited α] {l : List α} {p : α → Bool} {i : Nat} (hi : i < l.length) (h : p l[i]! = true) : l.any p = true :=
 List.any_eq_true.2 ⟨_, get_memL hi, h⟩
theorem take_succL {α : Type} [Inhabited α] {l : List α} {i : Nat} (h : i < l.length) : l.take (i + 1) = l.take i ++ [l[i]!] := by
 rw [getElem!_pos l i h]
 simp
end Go.Iv
end
noncomputable section
set_option maxRecDepth 100000
namespace Go.Proofs.YtghilkcphindjaaGreat
open Go Go.Iv
open Go.IntKind (i64 u64)
theorem wrap8 {n : Int} (h1 : 0 ≤ n) (h2 : n < 256) : IntKind.u8.wrap n = n := by
 simp only [IntKind.wrap, IntKind.signed, IntKind.bits] at *
 simp
 omega
theorem shrU {x : Int} (k : Nat) (hk : k ≤ 64) : bShr IntKind.u64 x (k : Int) = x / 2 ^ k := by
 unfold bShr
 rw [show min ((k : Int)).toNat IntKind.u64.bits = k from by simp only [Int.toNat_natCast, IntKind.bits]; omega]
 exact Int.fdiv_eq_ediv_of_nonneg _ (Int.le_of_lt (Int.pow_pos (by omega)))
def bl (x : Int) : Int := if x ≤ 0 then 0 else ((Nat.log2 x.toNat + 1 : Nat) : Int)
theorem bl_of {x : Int} {t : Nat} (h1 : 1 ≤ t) (h2 : (2 : Int) ^ (t - 1) ≤ x) (h3 : x < 2 ^ t) : bl x = (t : Int) := by
 have h0 : (0 : Int) < 2 ^ (t - 1) := Int.pow_pos (by omega)
 have hx : 0 < x := by omega
 have e : ((2 ^ (t - 1) : Nat) : Int) = (2 : Int) ^ (t - 1) := by rw [Int.natCast_pow]; rfl
 have e' : ((2 ^ t : Nat) : Int) = (2 : Int) ^ t := by rw [Int.natCast_pow]; rfl
 have h : Nat.log2 x.toNat = t - 1 := (Nat.log2_eq_iff (by omega)).2 ⟨by omega, by rw [Nat.sub_add_cancel h1]; omega⟩
 unfold bl
 rw [if_neg (by omega), h]
 omega
def lenOk (i : Nat) : Bool := i == 0 || ((List.range 9).any fun t => (lenTab.data[i]!).toNat == t && decide (1 ≤ t) && decide (2 ^ (t - 1) ≤ i) && decide (i < 2 ^ t))
theorem len_all : (List.range 256).all lenOk = true := by kernel_rfl
theorem len_zero : byteAt lenTab (IntKind.u8.wrap 0).toNat = 0 := by kernel_rfl
theorem len_tab {x : Int} (h1 : 1 ≤ x) (h2 : x < 256) : ∃ t : Nat, 1 ≤ t ∧ t ≤ 8 ∧ byteAt lenTab (IntKind.u8.wrap x).toNat = (t : Int) ∧ 2 ^ (t - 1) ≤ x ∧ x < 2 ^ t := by
  rw [wrap8 (by omega) h2]
  have h := List.all_eq_true.mp len_all x.toNat (List.mem_range.mpr (by omega))
  simp only [lenOk, Bool.or_eq_true, beq_iff_eq, List.any_eq_true, List.mem_range, Bool.and_eq_true, decide_eq_true_eq] at h
  rcases h with h | ⟨t, ht, ⟨⟨h3, h4⟩, h5⟩, h6⟩
  · omega
  · have h5' : ((2 ^ (t - 1) : Nat) : Int) ≤ (x.toNat : Int) := Int.ofNat_le.mpr h5
    have h6' : ((x.toNat : Nat) : Int) < ((2 ^ t : Nat) : Int) := Int.ofNat_lt.mpr h6
    rw [Int.toNat_of_nonneg (by omega), Int.natCast_pow] at h5' h6'
    exact ⟨t, h4, by omega, by unfold byteAt; rw [h3], h5', h6'⟩
theorem w64s {n : Int} (h1 : 0 ≤ n) (h2 : n ≤ 1000000) : i64.wrap n = n := wrap_id (by omega) (by omega)
theorem len_up {a x : Int} {n : Nat} (h1 : 1 ≤ x) (h2 : x < 256) (hn : n ≤ 16) (ha1 : x * 2 ^ n ≤ a) (ha2 : a < (x + 1) * 2 ^ n) :
  (if (0 : Int) ≤ IntKind.u8.wrap x ∧ IntKind.u8.wrap x < (256 : Int) then some (i64.wrap ((n : Int) + i64.wrap (byteAt lenTab (IntKind.u8.wrap x).toNat))) else none) = some (bl a) := by
 obtain ⟨t, g1, g2, g3, g4, g5⟩ := len_tab h1 h2
 rw [g3, wrap8 (by omega) h2, if_pos ⟨by omega, h2⟩, w64s (n := (t : Int)) (by omega) (by omega), w64s (by omega) (by omega)]
 have p : (0 : Int) < 2 ^ n := Int.pow_pos (by omega)
 have e : bl a = ((n + t : Nat) : Int) := bl_of (by omega) (by
  rw [show n + t - 1 = (t - 1) + n by omega, Int.pow_add]
  exact Int.le_trans (Int.mul_le_mul_of_nonneg_right g4 (by omega)) ha1) (by
  rw [show n + t = t + n by omega, Int.pow_add]
  exact Int.lt_of_lt_of_le ha2 (Int.mul_le_mul_of_nonneg_right (by omega) (by omega)))
 rw [e]
 congr 1
theorem m102_eq {a : Int} (h0 : 0 ≤ a) (h1 : a < 16777216) : m102 a = some (bl a) := by
  have e : m173 a = some (bl a) := by
    unfold m173
    rw [decide_eq_false (by omega), cond_false]
    have s8 := shrU (x := a) 8 (by omega)
    have s16 := shrU (x := a) 16 (by omega)
    rw [show ((8 : Nat) : Int) = 8 from rfl] at s8
    rw [show ((16 : Nat) : Int) = 16 from rfl] at s16
    rw [s8, s16]
    by_cases h2 : 65536 ≤ a
    · rw [decide_eq_true h2, cond_true, decide_eq_false (by omega), cond_false]
      exact len_up (n := 16) (by omega) (by omega) (by omega) (by omega) (by omega)
    · rw [decide_eq_false h2, cond_false]
      by_cases h3 : 256 ≤ a
      · rw [decide_eq_true h3, cond_true]
        exact len_up (n := 8) (by omega) (by omega) (by omega) (by omega) (by omega)
      · rw [decide_eq_false h3, cond_false]
        by_cases h4 : a = 0
        · subst h4
          rw [len_zero]
          rfl
        · have := len_up (a := a) (x := a) (n := 0) (by omega) (by omega) (by omega) (by omega) (by omega)
          exact this
  unfold m102
  rw [e]
def idN (l : List GVar) (k : Int) (n : Nat) : List Int := ((List.range n).filter fun i => decide (l[i]!.fKind = k)).map fun i : Nat => (i : Int)
def idK (l : List GVar) (k : Int) : List Int := idN l k l.length
theorem idN_succ (l : List GVar) (k : Int) (n : Nat) : idN l k (n + 1) = idN l k n ++ (if l[n]!.fKind = k then [(n : Int)] else []) := by
  unfold idN
  rw [List.range_succ, List.filter_append, List.map_append]
  by_cases h : l[n]!.fKind = k
  · rw [if_pos h, List.filter_cons_of_pos (by rw [decide_eq_true h])]; rfl
  · rw [if_neg h, List.filter_cons_of_neg (by rw [decide_eq_false h]; simp)]; rfl
theorem idN_len (l : List GVar) (k : Int) (n : Nat) : (idN l k n).length ≤ n := by
 unfold idN
 rw [List.length_map]
 exact Nat.le_trans (List.length_filter_le _ _) (by simp)
theorem idN_mem {l : List GVar} {k : Int} {n : Nat} {x : Int} (h : x ∈ idN l k n) : 0 ≤ x ∧ x < (n : Int) ∧ l[x.toNat]!.fKind = k := by
 unfold idN at h
 simp only [List.mem_map, List.mem_filter, List.mem_range, decide_eq_true_eq] at h
 obtain ⟨i, ⟨h1, h2⟩, rfl⟩ := h
 exact ⟨by omega, by omega, by simpa using h2⟩
theorem m65_eq (f : Flat) (hl : f.fVars.length ≤ 1000000) (k : Int) : m65 f k = some (idK f.fVars k) := by
  obtain ⟨v, e, hv⟩ := loopI (rnd := n65_0) f.fVars.length (fun i (b : List Int) => ⟨k, b, f.fVars, (f.fVars.length : Int), (i : Int)⟩) (fun i b => b = idN f.fVars k i) (fun i b hi hb => by
    subst hb
    have i1 : (i : Int) < (f.fVars.length : Int) := by omega
    have i2 : (0 : Int) ≤ (i : Int) := by omega
    have hw := w1L hi hl
    have h3 : (idN f.fVars k i ++ [(i : Int)]).length ≤ 1073741824 := by have := idN_len f.fVars k i; simp; omega
    refine ⟨_, ?_, rfl⟩
    rw [idN_succ]
    unfold n65_0
    simp only [Int.toNat_natCast, i1, i2, decide_true, cond_true, and_self, if_true, hw, h3]
    by_cases h : f.fVars[i]!.fKind = k
    · simp only [h, decide_true, cond_true, if_true]
    · simp only [h, decide_false, cond_false, if_false, List.append_nil]) (fun b _ => by unfold n65_0; simp) (b := []) rfl
  have e' : a65_0 ⟨k, [], f.fVars, (f.fVars.length : Int), 0⟩ = some ⟨k, v, f.fVars, (f.fVars.length : Int), (f.fVars.length : Int)⟩ := e
  unfold m65
  rw [e']
  simp only [Int.lt_irrefl, decide_false, cond_false]
  rw [hv]; rfl
def VOk (l : List GVar) : Prop := l.length ≤ 1000 ∧ ∀ i, i < l.length → -1048576 ≤ l[i]!.fLow ∧ l[i]!.fLow ≤ l[i]!.fHigh ∧ l[i]!.fHigh ≤ 1048576
def vbl (v : GVar) : Int := bl (v.fHigh - v.fLow)
theorem bl_le {x : Int} (h1 : x < 16777216) : 0 ≤ bl x ∧ bl x ≤ 24 := by
  unfold bl
  split
  · omega
  · have h : Nat.log2 x.toNat < 24 := (Nat.log2_lt (by omega)).2 (by omega)
    omega
def addS (vs : List GVar) (s : List Slot × Int) (i : Int) : List Slot × Int := (s.1 ++ [⟨i, s.2, vbl vs[i.toNat]!⟩], s.2 + vbl vs[i.toNat]!)
theorem len_of {vs : List GVar} (h : VOk vs) {x : Int} (h1 : 0 ≤ x) (h2 : x < (vs.length : Int)) :
  m102 (IntKind.u64.wrap (i64.wrap (vs[x.toNat]!.fHigh - vs[x.toNat]!.fLow))) = some (vbl vs[x.toNat]!) ∧ 0 ≤ vbl vs[x.toNat]! ∧ vbl vs[x.toNat]! ≤ 24 := by
 obtain ⟨g1, g2, g3⟩ := h.2 x.toNat (by omega)
 have e1 : i64.wrap (vs[x.toNat]!.fHigh - vs[x.toNat]!.fLow) = vs[x.toNat]!.fHigh - vs[x.toNat]!.fLow := wrap_id (by omega) (by omega)
 have e2 : IntKind.u64.wrap (vs[x.toNat]!.fHigh - vs[x.toNat]!.fLow) = vs[x.toNat]!.fHigh - vs[x.toNat]!.fLow := by
  clear e1
  generalize vs[x.toNat]! = v at *
  simp only [IntKind.wrap, IntKind.signed, IntKind.bits]
  simp
  omega
 rw [e1, e2]
 exact ⟨m102_eq (by omega) (by omega), bl_le (by omega)⟩
theorem a49_1_eq (f : Flat) (h : VOk f.fVars) (ids : List Int) (hid : ∀ x ∈ ids, 0 ≤ x ∧ x < (f.fVars.length : Int)) (hl : ids.length ≤ 1000) (s : List Slot × Int) (hs1 : s.1.length ≤ 10000) (hs2 : 0 ≤ s.2 ∧ s.2 ≤ 100000) (a b c d : Int) (e : List Int) :
    a49_1 ⟨s.1, a, s.2, b, e, c, d, ids, (ids.length : Int), 0, f⟩ = some ⟨(ids.foldl (addS f.fVars) s).1, a, (ids.foldl (addS f.fVars) s).2, b, e, c, d, ids, (ids.length : Int), (ids.length : Int), f⟩ ∧
      (ids.foldl (addS f.fVars) s).1.length = s.1.length + ids.length ∧ 0 ≤ (ids.foldl (addS f.fVars) s).2 ∧ (ids.foldl (addS f.fVars) s).2 ≤ s.2 + 24 * ids.length := by
  obtain ⟨v, q, hv⟩ := loopI (rnd := n49_1) ids.length (fun i (z : List Slot × Int) => ⟨z.1, a, z.2, b, e, c, d, ids, (ids.length : Int), (i : Int), f⟩) (fun i z => z = (ids.take i).foldl (addS f.fVars) s ∧ z.1.length = s.1.length + i ∧ 0 ≤ z.2 ∧ z.2 ≤ s.2 + 24 * i) (fun i z hi ⟨hz, z1, z2, z3⟩ => by
    have i1 : (i : Int) < (ids.length : Int) := by omega
    have i2 : (0 : Int) ≤ (i : Int) := by omega
    have hw := w1L hi (by omega)
    have hm : ids[i]! ∈ ids := get_memL hi
    obtain ⟨x1, x2⟩ := hid _ hm
    obtain ⟨g1, g2, g3⟩ := len_of h x1 x2
    have h3 : (z.1 ++ [Slot.mk ids[i]! z.2 (vbl f.fVars[(ids[i]!).toNat]!)]).length ≤ 1073741824 := by simp; omega
    have h4 : i64.wrap (z.2 + vbl f.fVars[(ids[i]!).toNat]!) = z.2 + vbl f.fVars[(ids[i]!).toNat]! := wrap_id (by omega) (by omega)
    refine ⟨addS f.fVars z ids[i]!, ?_, ?_, ?_, ?_, ?_⟩
    · unfold n49_1
      simp only [Int.toNat_natCast, i1, i2, hi, x1, x2, decide_true, cond_true, and_self, if_true, hw, g1, h3, h4]
      rfl
    · rw [take_succL hi, List.foldl_append, ← hz]; rfl
    · unfold addS; simp; omega
    · unfold addS; dsimp only; omega
    · unfold addS; dsimp only; omega) (fun z _ => by unfold n49_1; simp) (b := s) ⟨rfl, rfl, hs2.1, by simp⟩
  rw [List.take_length] at hv
  obtain ⟨hv, hr⟩ := hv
  subst hv
  exact ⟨q, hr⟩
def slotsP (vs : List GVar) : List Slot × Int × Int :=
 let s1 := (idK vs 1).foldl (addS vs) ([], 0)
 let s2 := (idK vs 3).foldl (addS vs) s1
 (s2.1, s1.2, s2.2)
theorem m49_eq (f : Flat) (h : VOk f.fVars) : m49 f = some (slotsP f.fVars) ∧ (slotsP f.fVars).1.length ≤ 2000 ∧ 0 ≤ (slotsP f.fVars).2.1 ∧ (slotsP f.fVars).2.1 ≤ 24000 ∧ 0 ≤ (slotsP f.fVars).2.2 ∧ (slotsP f.fVars).2.2 ≤ 48000 := by
  have hn := h.1
  have k1 := m65_eq f (by omega) 1
  have k3 := m65_eq f (by omega) 3
  have l1 : (idK f.fVars 1).length ≤ f.fVars.length := idN_len _ _ _
  have l3 : (idK f.fVars 3).length ≤ f.fVars.length := idN_len _ _ _
  have r1 := a49_1_eq f h (idK f.fVars 1) (fun x hx => ⟨(idN_mem hx).1, (idN_mem hx).2.1⟩) (by omega) ([], 0) (by simp) (by simp) 0 1 2 0 [1, 3]
  obtain ⟨q1, q2, q3, q4⟩ := r1
  have r3 := a49_1_eq f h (idK f.fVars 3) (fun x hx => ⟨(idN_mem hx).1, (idN_mem hx).2.1⟩) (by omega) ((idK f.fVars 1).foldl (addS f.fVars) ([], 0)) (by rw [q2]; simp; omega) ⟨q3, by simp at q4; omega⟩ ((idK f.fVars 1).foldl (addS f.fVars) ([], 0)).2 3 2 1 [1, 3]
  obtain ⟨p1, p2, p3, p4⟩ := r3
  simp only [List.length_nil, Nat.zero_add, Int.zero_add] at q2 q4
  have n0 : n49_0 ⟨[], 0, 0, [1, 3], 2, 0, f⟩ = some (some ⟨((idK f.fVars 1).foldl (addS f.fVars) ([], 0)).1, ((idK f.fVars 1).foldl (addS f.fVars) ([], 0)).2, ((idK f.fVars 1).foldl (addS f.fVars) ([], 0)).2, [1, 3], 2, 1, f⟩) := by
    unfold n49_0
    have e1 : ([1, 3] : List Int)[Int.toNat 0]! = 1 := rfl
    have w : i64.wrap (0 + 1) = 1 := wrap_id (by omega) (by omega)
    simp only [e1, k1, q1, w, Int.lt_irrefl, decide_false, cond_false]
    rfl
  have n1 : n49_0 ⟨((idK f.fVars 1).foldl (addS f.fVars) ([], 0)).1, ((idK f.fVars 1).foldl (addS f.fVars) ([], 0)).2, ((idK f.fVars 1).foldl (addS f.fVars) ([], 0)).2, [1, 3], 2, 1, f⟩ = some (some ⟨(slotsP f.fVars).1, (slotsP f.fVars).2.1, (slotsP f.fVars).2.2, [1, 3], 2, 2, f⟩) := by
    unfold n49_0
    have e1 : ([1, 3] : List Int)[Int.toNat 1]! = 3 := rfl
    have w : i64.wrap (1 + 1) = 2 := wrap_id (by omega) (by omega)
    simp only [e1, k3, p1, w, Int.lt_irrefl, decide_false, cond_false]
    rfl
  have e : a49_0 ⟨[], 0, 0, [1, 3], 2, 0, f⟩ = some ⟨(slotsP f.fVars).1, (slotsP f.fVars).2.1, (slotsP f.fVars).2.2, [1, 3], 2, 2, f⟩ := by
    unfold a49_0
    rw [advG_step n0, advG_step n1]
    exact advG_stop (fun r => by unfold n49_0; simp)
  refine ⟨?_, ?_, q3, ?_, p3, ?_⟩
  · unfold m49
    rw [e]
    simp only [Int.lt_irrefl, decide_false, cond_false]
  · show ((idK f.fVars 3).foldl (addS f.fVars) ((idK f.fVars 1).foldl (addS f.fVars) ([], 0))).1.length ≤ 2000
    omega
  · show ((idK f.fVars 1).foldl (addS f.fVars) ([], 0)).2 ≤ 24000
    omega
  · show ((idK f.fVars 3).foldl (addS f.fVars) ((idK f.fVars 1).foldl (addS f.fVars) ([], 0))).2 ≤ 48000
    omega
def F16 : Orc := or0
theorem F16_ok : OrcG Tryz.prog F16 := or0_g
structure L16_2 where
 t2 : List Slot
 t3 : Int
 t4 : Int
 t6 : Int
 t7 : Int
 t9 : Int
 t10 : List Int
 t11 : Int
 t12 : Int
 t17 : List GVar
 t18 : Int
 t19 : Int
 b0 : Flat
 b2 : GVar
def d16_2 : Td 0 L16_2 := .c [] [1, 2, 3, 4, 6, 7, 8, 9, 10, 11, 12, 17, 18, 19] (.r 0 4 (ec 1 (qp 0 0) (ec 2 (qo 1) (ec 3 (qi .i64) (ec 4 (qi .i64) (ec 6 (qi .i64) (ec 7 (qi .i64) (ec 8 (qp 2 0) (ec 9 (qi .i64) (ec 10 (qo 3) (ec 11 (qi .i64) (ec 12 (qi .i64) (ec 17 (ql 108) (ec 18 (qi .i64) (ec 19 (qi .i64) en)))))))))))))) (sb 0 26 (lg 26) (sr 1 38 (sb 2 108 (lg 108) (sr 3 65 sn)))) (fun z => ⟨z.2.2.1, z.1.2.2.1, z.1.2.2.2.1, z.1.2.2.2.2.1, z.1.2.2.2.2.2.1, z.1.2.2.2.2.2.2.2.1, z.2.2.2.2.1, z.1.2.2.2.2.2.2.2.2.2.1, z.1.2.2.2.2.2.2.2.2.2.2.1, z.1.2.2.2.2.2.2.2.2.2.2.2.1, z.1.2.2.2.2.2.2.2.2.2.2.2.2.1, z.1.2.2.2.2.2.2.2.2.2.2.2.2.2.1, z.2.1, z.2.2.2.1⟩) (fun x => (((), (), x.t3, x.t4, x.t6, x.t7, (), x.t9, (), x.t11, x.t12, x.t17, x.t18, x.t19, ()), (x.b0, x.t2, x.b2, x.t10, ()))) fun _ => rfl)
def n16_2 (p : L16_2) : Option (Option L16_2) :=
 if (0 : Int) ≤ p.t9 then bif decide (bShl IntKind.i64 (1) p.t9 < i64.wrap (i64.wrap (p.b2.fHigh - p.b2.fLow) + 1)) then some (some (L16_2.mk p.t2 p.t3 p.t4 p.t6 p.t7 (i64.wrap (p.t9 + 1)) p.t10 p.t11 p.t12 p.t17 p.t18 p.t19 p.b0 p.b2)) else some (none) else none
theorem q16_2 (p : L16_2) : execA Tryz.prog (F16) Tryz.f16.ntmps 300 (loopAt Tryz.f16 2) .no (Option L16_2) (d16_2.pat p) (kOn d16_2.rd) = n16_2 p := by kernel_rfl
def a16_2 : L16_2 → Option L16_2 := advG (n16_2)
structure L16_1 where
 t2 : List Slot
 t3 : Int
 t4 : Int
 t6 : Int
 t10 : List Int
 t11 : Int
 t12 : Int
 t17 : List GVar
 t18 : Int
 t19 : Int
 b0 : Flat
def d16_1 : Td 0 L16_1 := .c [] [1, 2, 3, 4, 6, 10, 11, 12, 17, 18, 19] (.r 0 3 (ec 1 (qp 0 0) (ec 2 (qo 1) (ec 3 (qi .i64) (ec 4 (qi .i64) (ec 6 (qi .i64) (ec 10 (qo 2) (ec 11 (qi .i64) (ec 12 (qi .i64) (ec 17 (ql 108) (ec 18 (qi .i64) (ec 19 (qi .i64) en))))))))))) (sb 0 26 (lg 26) (sr 1 38 (sr 2 65 sn))) (fun z => ⟨z.2.2.1, z.1.2.2.1, z.1.2.2.2.1, z.1.2.2.2.2.1, z.2.2.2.1, z.1.2.2.2.2.2.2.1, z.1.2.2.2.2.2.2.2.1, z.1.2.2.2.2.2.2.2.2.1, z.1.2.2.2.2.2.2.2.2.2.1, z.1.2.2.2.2.2.2.2.2.2.2.1, z.2.1⟩) (fun x => (((), (), x.t3, x.t4, x.t6, (), x.t11, x.t12, x.t17, x.t18, x.t19, ()), (x.b0, x.t2, x.t10, ()))) fun _ => rfl)
def n16_1 (p : L16_1) : Option (Option L16_1) :=
 bif decide (p.t19 < p.t18) then if (0 : Int) ≤ p.t19 ∧ p.t19 < (↑p.t17.length : Int) then bif bif decide (p.t17[p.t19.toNat]!.fKind = p.t6) then false else true then some (some (L16_1.mk p.t2 p.t3 p.t4 p.t6 p.t10 p.t11 p.t12 p.t17 p.t18 (i64.wrap (p.t19 + 1)) p.b0)) else match a16_2 (L16_2.mk p.t2 p.t3 p.t4 p.t6 p.t19 (0) p.t10 p.t11 p.t12 p.t17 p.t18 p.t19 p.b0 p.t17[p.t19.toNat]!) with | none => none | some r3 => if (0 : Int) ≤ r3.t9 then bif decide (bShl IntKind.i64 (1) r3.t9 < i64.wrap (i64.wrap (r3.b2.fHigh - r3.b2.fLow) + 1)) then none else if (r3.t2 ++ [Slot.mk r3.t7 r3.t3 r3.t9]).length ≤ 1073741824 then some (some (L16_1.mk (r3.t2 ++ [Slot.mk r3.t7 r3.t3 r3.t9]) (i64.wrap (r3.t3 + r3.t9)) r3.t4 r3.t6 r3.t10 r3.t11 r3.t12 r3.t17 r3.t18 (i64.wrap (r3.t19 + 1)) r3.b0)) else none else none else none else some (none)
def g16_1 : An := (.two .no (.two .no (.two (.two .no (.two .no (.two .no (.two (d16_2.lp a16_2 .no) .no)))) .no)))
theorem q16_1 (p : L16_1) : execA Tryz.prog (F16) Tryz.f16.ntmps 300 (loopAt Tryz.f16 1) g16_1 (Option L16_1) (d16_1.pat p) (kOn d16_1.rd) = n16_1 p := by kernel_rfl
def a16_1 : L16_1 → Option L16_1 := advG (n16_1)
structure L16_0 where
 t2 : List Slot
 t3 : Int
 t4 : Int
 t10 : List Int
 t11 : Int
 t12 : Int
 b0 : Flat
def d16_0 : Td 0 L16_0 := .c [] [1, 2, 3, 4, 10, 11, 12] (.t (TurnOk.s 2 [] 38) (.c [] [1, 2, 3, 4, 10, 11, 12] (.r 0 3 (ec 1 (qp 0 0) (ec 2 (qo 1) (ec 3 (qi .i64) (ec 4 (qi .i64) (ec 10 (qo 2) (ec 11 (qi .i64) (ec 12 (qi .i64) en))))))) (sb 0 26 (lg 26) (sr 1 38 (sr 2 65 sn))) (fun z => ⟨z.2.2.1, z.1.2.2.1, z.1.2.2.2.1, z.2.2.2.1, z.1.2.2.2.2.2.1, z.1.2.2.2.2.2.2.1, z.2.1⟩) (fun x => (((), (), x.t3, x.t4, (), x.t11, x.t12, ()), (x.b0, x.t2, x.t10, ()))) fun _ => rfl)))
def n16_0 (p : L16_0) : Option (Option L16_0) :=
 bif decide (p.t12 < p.t11) then if (0 : Int) ≤ p.t12 ∧ p.t12 < (↑p.t10.length : Int) then if 65 = 65 ∧ p.t12.toNat < p.t10.length then match a16_1 (L16_1.mk p.t2 p.t3 p.t4 p.t10[p.t12.toNat]! p.t10 p.t11 p.t12 p.b0.fVars (↑p.b0.fVars.length : Int) (0) p.b0) with | none => none | some r1 => bif decide (r1.t19 < r1.t18) then if (0 : Int) ≤ r1.t19 ∧ r1.t19 < (↑r1.t17.length : Int) then bif bif decide (r1.t17[r1.t19.toNat]!.fKind = r1.t6) then false else true then none else match a16_2 (L16_2.mk r1.t2 r1.t3 r1.t4 r1.t6 r1.t19 (0) r1.t10 r1.t11 r1.t12 r1.t17 r1.t18 r1.t19 r1.b0 r1.t17[r1.t19.toNat]!) with | none => none | some r2 => if (0 : Int) ≤ r2.t9 then bif decide (bShl IntKind.i64 (1) r2.t9 < i64.wrap (i64.wrap (r2.b2.fHigh - r2.b2.fLow) + 1)) then none else if (r2.t2 ++ [Slot.mk r2.t7 r2.t3 r2.t9]).length ≤ 1073741824 then none else none else none else none else bif decide (r1.t6 = 1) then some (some (L16_0.mk r1.t2 r1.t3 r1.t3 r1.t10 r1.t11 (i64.wrap (r1.t12 + 1)) r1.b0)) else some (some (L16_0.mk r1.t2 r1.t3 r1.t4 r1.t10 r1.t11 (i64.wrap (r1.t12 + 1)) r1.b0)) else none else none else some (none)
def g16_0 : An := (.two .no (.two .no (.two (.two .no (.two (.two .no (d16_1.lp a16_1 g16_1)) .no)) .no)))
theorem q16_0 (p : L16_0) : execA Tryz.prog (F16) Tryz.f16.ntmps 300 (loopAt Tryz.f16 0) g16_0 (Option L16_0) (d16_0.pat p) (kOn d16_0.rd) = n16_0 p := by kernel_rfl
def a16_0 : L16_0 → Option L16_0 := advG (n16_0)
abbrev E16 : Type := (List Slot) × Int × Int
def d16 : Td 0 E16 := .c [] [2, 3, 4] (.r 0 1 (ec 2 (qo 0) (ec 3 (qi .i64) (ec 4 (qi .i64) en))) (sr 0 38 sn) (fun z => (z.2.1, z.1.2.1, z.1.2.2.1)) (fun x => (((), x.2.1, x.2.2, ()), (x.1, ()))) fun _ => rfl)
def A16 := (lc (qg 26) ln)
def an16 : An := (.two .no (.two (.two .no (d16_0.lp a16_0 g16_0)) .no))
theorem fa16 : FnAn Tryz.prog (F16) 0 300 16 (an16) := fnAn_of (l := [(loopAt Tryz.f16 0, (d16_0.lp a16_0 g16_0)), (loopAt Tryz.f16 1, (d16_1.lp a16_1 g16_1)), (loopAt Tryz.f16 2, (d16_2.lp a16_2 .no))]) Tryz.func16 (bodyOf_eq (by kernel_rfl)) (by kernel_rfl) (ob_cons ⟨d16_0.ok _, advG_ok (q16_0)⟩ (ob_cons ⟨d16_1.ok _, advG_ok (q16_1)⟩ (ob_cons ⟨d16_2.ok _, advG_ok (q16_2)⟩ ob_nil)))
def m16 (a0 : Flat) : Option E16 :=
 match a16_0 (L16_0.mk [] (0) (0) [1, 3] (↑2 : Int) (0) a0) with | none => none | some r4 => bif decide (r4.t12 < r4.t11) then if (0 : Int) ≤ r4.t12 ∧ r4.t12 < (↑r4.t10.length : Int) then if 65 = 65 ∧ r4.t12.toNat < r4.t10.length then match a16_1 (L16_1.mk r4.t2 r4.t3 r4.t4 r4.t10[r4.t12.toNat]! r4.t10 r4.t11 r4.t12 r4.b0.fVars (↑r4.b0.fVars.length : Int) (0) r4.b0) with | none => none | some r5 => bif decide (r5.t19 < r5.t18) then if (0 : Int) ≤ r5.t19 ∧ r5.t19 < (↑r5.t17.length : Int) then bif bif decide (r5.t17[r5.t19.toNat]!.fKind = r5.t6) then false else true then none else match a16_2 (L16_2.mk r5.t2 r5.t3 r5.t4 r5.t6 r5.t19 (0) r5.t10 r5.t11 r5.t12 r5.t17 r5.t18 r5.t19 r5.b0 r5.t17[r5.t19.toNat]!) with | none => none | some r6 => if (0 : Int) ≤ r6.t9 then bif decide (bShl IntKind.i64 (1) r6.t9 < i64.wrap (i64.wrap (r6.b2.fHigh - r6.b2.fLow) + 1)) then none else if (r6.t2 ++ [Slot.mk r6.t7 r6.t3 r6.t9]).length ≤ 1073741824 then none else none else none else none else bif decide (r5.t6 = 1) then none else none else none else none else some ((r4.t2, r4.t3, r4.t4))
theorem c16 (a0 : Flat) : callR Tryz.prog (F16) 300 (an16) 16 (A16.c (a0, ())) [] 0 d16.rd = m16 a0 := by kernel_rfl
theorem h16 : HL Tryz.prog 16 A16 d16 (fun g => m16 g.1) := (hl_of F16_ok fa16 (fun _ => by kernel_rfl) (fun _ => by kernel_rfl) fun g => c16 g.1)
def e16 : Orc → Orc := eL Tryz.prog 16 false A16 d16 (fun g => m16 g.1)
theorem e16_ok {F : Orc} (h : OrcG Tryz.prog F) : OrcG Tryz.prog (e16 F) := eL_ok (sc := scU) scU_ok h16 ⟨_, Tryz.func16, by kernel_rfl, by kernel_rfl⟩ (fun _ => by kernel_rfl) (fun _ => by kernel_rfl) h
theorem e16_skip {F : Orc} {f : Nat} (hne : Nat.beq f 16 = false) (h : PureF F f) : PureF (e16 F) f := orL_skip hne h
def F19 : Orc := (e16 or0)
theorem F19_ok : OrcG Tryz.prog F19 := (e16_ok or0_g)
structure L19_1 where
 t1 : List Bool
 t9 : List Int
 t10 : Bool
 t13 : Int
 t22 : List Slot
 t23 : Int
 t24 : Int
 t29 : Int
 t30 : Int
 b0 : Flat
 b2 : Slot
def d19_1 : Td 0 L19_1 := .c [] [1, 2, 9, 10, 12, 13, 22, 23, 24, 29, 30] (.r 0 4 (ec 1 (ql 4) (ec 2 (qp 0 0) (ec 9 (qo 1) (ec 10 qb (ec 12 (qp 2 0) (ec 13 (qi .i64) (ec 22 (qo 3) (ec 23 (qi .i64) (ec 24 (qi .i64) (ec 29 (qi .i64) (ec 30 (qi .i64) en))))))))))) (sb 0 26 (lg 26) (sr 1 3 (sb 2 38 (lg 38) (sr 3 38 sn)))) (fun z => ⟨z.1.1, z.2.2.1, z.1.2.2.2.1, z.1.2.2.2.2.2.1, z.2.2.2.2.1, z.1.2.2.2.2.2.2.2.1, z.1.2.2.2.2.2.2.2.2.1, z.1.2.2.2.2.2.2.2.2.2.1, z.1.2.2.2.2.2.2.2.2.2.2.1, z.2.1, z.2.2.2.1⟩) (fun x => ((x.t1, (), (), x.t10, (), x.t13, (), x.t23, x.t24, x.t29, x.t30, ()), (x.b0, x.t9, x.b2, x.t22, ()))) fun _ => rfl)
def n19_1 (p : L19_1) : Option (Option L19_1) :=
 bif decide (p.t30 < p.t29) then if (0 : Int) ≤ i64.wrap (p.b2.fFirst + p.t30) ∧ i64.wrap (p.b2.fFirst + p.t30) < (↑p.t1.length : Int) then bif p.t1[(i64.wrap (p.b2.fFirst + p.t30)).toNat]! then some (some (L19_1.mk p.t1 p.t9 p.t10 (i64.wrap (i64.wrap (2 * p.t13) + 1)) p.t22 p.t23 p.t24 p.t29 (i64.wrap (p.t30 + 1)) p.b0 p.b2)) else some (some (L19_1.mk p.t1 p.t9 p.t10 (i64.wrap (2 * p.t13)) p.t22 p.t23 p.t24 p.t29 (i64.wrap (p.t30 + 1)) p.b0 p.b2)) else none else some (none)
theorem q19_1 (p : L19_1) : execA Tryz.prog (F19) Tryz.f19.ntmps 300 (loopAt Tryz.f19 1) .no (Option L19_1) (d19_1.pat p) (kOn d19_1.rd) = n19_1 p := by kernel_rfl
def a19_1 : L19_1 → Option L19_1 := advG (n19_1)
structure L19_0 where
 t1 : List Bool
 t9 : List Int
 t10 : Bool
 t22 : List Slot
 t23 : Int
 t24 : Int
 b0 : Flat
def d19_0 : Td 0 L19_0 := .c [] [1, 2, 9, 10, 22, 23, 24] (.t (TurnOk.s 9 [] 3) (.c [] [1, 2, 9, 10, 22, 23, 24] (.r 0 3 (ec 1 (ql 4) (ec 2 (qp 0 0) (ec 9 (qo 1) (ec 10 qb (ec 22 (qo 2) (ec 23 (qi .i64) (ec 24 (qi .i64) en))))))) (sb 0 26 (lg 26) (sr 1 3 (sr 2 38 sn))) (fun z => ⟨z.1.1, z.2.2.1, z.1.2.2.2.1, z.2.2.2.1, z.1.2.2.2.2.2.1, z.1.2.2.2.2.2.2.1, z.2.1⟩) (fun x => ((x.t1, (), (), x.t10, (), x.t23, x.t24, ()), (x.b0, x.t9, x.t22, ()))) fun _ => rfl)))
def n19_0 (p : L19_0) : Option (Option L19_0) :=
 bif decide (p.t24 < p.t23) then if (0 : Int) ≤ p.t24 ∧ p.t24 < (↑p.t22.length : Int) then if 38 = 38 ∧ p.t24.toNat < p.t22.length then match a19_1 (L19_1.mk p.t1 p.t9 p.t10 (0) p.t22 p.t23 p.t24 p.t22[p.t24.toNat]!.fBits (0) p.b0 p.t22[p.t24.toNat]!) with | none => none | some r1 => bif decide (r1.t30 < r1.t29) then if (0 : Int) ≤ i64.wrap (r1.b2.fFirst + r1.t30) ∧ i64.wrap (r1.b2.fFirst + r1.t30) < (↑r1.t1.length : Int) then bif r1.t1[(i64.wrap (r1.b2.fFirst + r1.t30)).toNat]! then none else none else none else if (0 : Int) ≤ r1.b2.fVar ∧ r1.b2.fVar < (↑r1.b0.fVars.length : Int) then if (r1.t9 ++ [i64.wrap (r1.b0.fVars[r1.b2.fVar.toNat]!.fLow + r1.t13)]).length ≤ 1073741824 then bif decide (r1.b0.fVars[r1.b2.fVar.toNat]!.fHigh < i64.wrap (r1.b0.fVars[r1.b2.fVar.toNat]!.fLow + r1.t13)) then some (some (L19_0.mk r1.t1 (r1.t9 ++ [i64.wrap (r1.b0.fVars[r1.b2.fVar.toNat]!.fLow + r1.t13)]) false r1.t22 r1.t23 (i64.wrap (r1.t24 + 1)) r1.b0)) else some (some (L19_0.mk r1.t1 (r1.t9 ++ [i64.wrap (r1.b0.fVars[r1.b2.fVar.toNat]!.fLow + r1.t13)]) r1.t10 r1.t22 r1.t23 (i64.wrap (r1.t24 + 1)) r1.b0)) else none else none else none else none else some (none)
def g19_0 : An := (.two .no (.two .no (.two (.two .no (.two .no (.two (.two .no (d19_1.lp a19_1 .no)) .no))) .no)))
theorem q19_0 (p : L19_0) : execA Tryz.prog (F19) Tryz.f19.ntmps 300 (loopAt Tryz.f19 0) g19_0 (Option L19_0) (d19_0.pat p) (kOn d19_0.rd) = n19_0 p := by kernel_rfl
def a19_0 : L19_0 → Option L19_0 := advG (n19_0)
abbrev E19 : Type := (List Int) × Bool
def d19 : Td 0 E19 := .c [] [4, 5] (.r 0 1 (ec 4 (qo 0) (ec 5 qb en)) (sr 0 3 sn) (fun z => (z.2.1, z.1.2.1)) (fun x => (((), x.2, ()), (x.1, ()))) fun _ => rfl)
def A19 := (lc (qg 26) (lc (ql 4) ln))
def an19 : An := (.two .no (.two .no (.two .no (.two .no (.two (.two .no (d19_0.lp a19_0 g19_0)) .no)))))
theorem fa19 : FnAn Tryz.prog (F19) 0 300 19 (an19) := fnAn_of (l := [(loopAt Tryz.f19 0, (d19_0.lp a19_0 g19_0)), (loopAt Tryz.f19 1, (d19_1.lp a19_1 .no))]) Tryz.func19 (bodyOf_eq (by kernel_rfl)) (by kernel_rfl) (ob_cons ⟨d19_0.ok _, advG_ok (q19_0)⟩ (ob_cons ⟨d19_1.ok _, advG_ok (q19_1)⟩ ob_nil))
def m19 (a0 : Flat) (a1 : List Bool) : Option E19 :=
 match m16 a0 with | none => none | some r2 => match a19_0 (L19_0.mk a1 [] true r2.fst (↑r2.fst.length : Int) (0) a0) with | none => none | some r3 => bif decide (r3.t24 < r3.t23) then if (0 : Int) ≤ r3.t24 ∧ r3.t24 < (↑r3.t22.length : Int) then if 38 = 38 ∧ r3.t24.toNat < r3.t22.length then match a19_1 (L19_1.mk r3.t1 r3.t9 r3.t10 (0) r3.t22 r3.t23 r3.t24 r3.t22[r3.t24.toNat]!.fBits (0) r3.b0 r3.t22[r3.t24.toNat]!) with | none => none | some r4 => bif decide (r4.t30 < r4.t29) then if (0 : Int) ≤ i64.wrap (r4.b2.fFirst + r4.t30) ∧ i64.wrap (r4.b2.fFirst + r4.t30) < (↑r4.t1.length : Int) then bif r4.t1[(i64.wrap (r4.b2.fFirst + r4.t30)).toNat]! then none else none else none else if (0 : Int) ≤ r4.b2.fVar ∧ r4.b2.fVar < (↑r4.b0.fVars.length : Int) then if (r4.t9 ++ [i64.wrap (r4.b0.fVars[r4.b2.fVar.toNat]!.fLow + r4.t13)]).length ≤ 1073741824 then bif decide (r4.b0.fVars[r4.b2.fVar.toNat]!.fHigh < i64.wrap (r4.b0.fVars[r4.b2.fVar.toNat]!.fLow + r4.t13)) then none else none else none else none else none else none else some ((r3.t9, r3.t10))
theorem c19 (a0 : Flat) (a1 : List Bool) : callR Tryz.prog (F19) 300 (an19) 19 (A19.c (a0, a1, ())) [] 0 d19.rd = m19 a0 a1 := by kernel_rfl
def e19 : Orc → Orc := eL Tryz.prog 19 false A19 d19 (fun g => m19 g.1 g.2.1)
theorem e19_ok {F : Orc} (h : OrcG Tryz.prog F) : OrcG Tryz.prog (e19 F) := eL_ok (sc := scU) scU_ok (hl_of F19_ok fa19 (fun _ => by kernel_rfl) (fun _ => by kernel_rfl) fun g => c19 g.1 g.2.1) ⟨_, Tryz.func19, by kernel_rfl, by kernel_rfl⟩ (fun _ => by kernel_rfl) (fun _ => by kernel_rfl) h
theorem e19_skip {F : Orc} {f : Nat} (hne : Nat.beq f 19 = false) (h : PureF F f) : PureF (e19 F) f := orL_skip hne h
def F29 : Orc := or0
theorem F29_ok : OrcG Tryz.prog F29 := or0_g
structure L29_0 where
 t0 : List Bool
 t1 : List Bool
 t12 : Int
 t13 : Int
def d29_0 : Td 0 L29_0 := .c [] [0, 1, 12, 13] (.r 0 0 (ec 0 (ql 4) (ec 1 (ql 4) (ec 12 (qi .i64) (ec 13 (qi .i64) en)))) sn (fun z => ⟨z.1.1, z.1.2.1, z.1.2.2.1, z.1.2.2.2.1⟩) (fun x => ((x.t0, x.t1, x.t12, x.t13, ()), (()))) fun _ => rfl)
def n29_0 (p : L29_0) : Option (Option L29_0) :=
 bif decide (p.t13 < p.t12) then if (0 : Int) ≤ p.t13 ∧ p.t13 < (↑p.t0.length : Int) then if (0 : Int) ≤ p.t13 ∧ p.t13 < (↑p.t1.length : Int) then bif bif p.t0[p.t13.toNat]! == p.t1[p.t13.toNat]! then false else true then some (none) else some (some (L29_0.mk p.t0 p.t1 p.t12 (i64.wrap (p.t13 + 1)))) else none else none else some (none)
theorem q29_0 (p : L29_0) : execA Tryz.prog (F29) Tryz.f29.ntmps 300 (loopAt Tryz.f29 0) .no (Option L29_0) (d29_0.pat p) (kOn d29_0.rd) = n29_0 p := by kernel_rfl
def a29_0 : L29_0 → Option L29_0 := advG (n29_0)
abbrev E29 : Type := Bool
def d29 : Td 0 E29 := .c [] [4] (.r 0 0 (ec 4 qb en) sn (fun z => z.1.1) (fun x => ((x, ()), (()))) fun _ => rfl)
def A29 := (lc (ql 4) (lc (ql 4) ln))
def an29 : An := (.two .no (.two .no (.two (.two .no (d29_0.lp a29_0 .no)) .no)))
theorem fa29 : FnAn Tryz.prog (F29) 0 300 29 (an29) := fnAn_of (l := [(loopAt Tryz.f29 0, (d29_0.lp a29_0 .no))]) Tryz.func29 (bodyOf_eq (by kernel_rfl)) (by kernel_rfl) (ob_cons ⟨d29_0.ok _, advG_ok (q29_0)⟩ ob_nil)
def m29 (a0 : List Bool) (a1 : List Bool) : Option E29 :=
 bif bif decide ((↑a0.length : Int) = (↑a1.length : Int)) then false else true then some (false) else match a29_0 (L29_0.mk a0 a1 (↑a0.length : Int) (0)) with | none => none | some r1 => bif decide (r1.t13 < r1.t12) then if (0 : Int) ≤ r1.t13 ∧ r1.t13 < (↑r1.t0.length : Int) then if (0 : Int) ≤ r1.t13 ∧ r1.t13 < (↑r1.t1.length : Int) then bif bif r1.t0[r1.t13.toNat]! == r1.t1[r1.t13.toNat]! then false else true then some (false) else none else none else none else some (true)
theorem c29 (a0 : List Bool) (a1 : List Bool) : callR Tryz.prog (F29) 300 (an29) 29 (A29.c (a0, a1, ())) [] 0 d29.rd = m29 a0 a1 := by kernel_rfl
def e29 : Orc → Orc := eL Tryz.prog 29 false A29 d29 (fun g => m29 g.1 g.2.1)
theorem e29_ok {F : Orc} (h : OrcG Tryz.prog F) : OrcG Tryz.prog (e29 F) := eL_ok (sc := scU) scU_ok (hl_of F29_ok fa29 (fun _ => by kernel_rfl) (fun _ => by kernel_rfl) fun g => c29 g.1 g.2.1) ⟨_, Tryz.func29, by kernel_rfl, by kernel_rfl⟩ (fun _ => by kernel_rfl) (fun _ => by kernel_rfl) h
theorem e29_pure {F : Orc} {f : Nat} (h : PureF F f) : PureF (e29 F) f := orL_pure h (fun _ => by kernel_rfl)
def F32 : Orc := or0
theorem F32_ok : OrcG Tryz.prog F32 := or0_g
structure L32_0 where
 t0 : List Int
 t1 : List Int
 t12 : Int
 t13 : Int
def d32_0 : Td 0 L32_0 := .c [] [0, 1, 12, 13] (.r 0 0 (ec 0 (ql 3) (ec 1 (ql 3) (ec 12 (qi .i64) (ec 13 (qi .i64) en)))) sn (fun z => ⟨z.1.1, z.1.2.1, z.1.2.2.1, z.1.2.2.2.1⟩) (fun x => ((x.t0, x.t1, x.t12, x.t13, ()), (()))) fun _ => rfl)
def n32_0 (p : L32_0) : Option (Option L32_0) :=
 bif decide (p.t13 < p.t12) then if (0 : Int) ≤ p.t13 ∧ p.t13 < (↑p.t0.length : Int) then if (0 : Int) ≤ p.t13 ∧ p.t13 < (↑p.t1.length : Int) then bif bif decide (p.t0[p.t13.toNat]! = p.t1[p.t13.toNat]!) then false else true then some (none) else some (some (L32_0.mk p.t0 p.t1 p.t12 (i64.wrap (p.t13 + 1)))) else none else none else some (none)
theorem q32_0 (p : L32_0) : execA Tryz.prog (F32) Tryz.f32.ntmps 300 (loopAt Tryz.f32 0) .no (Option L32_0) (d32_0.pat p) (kOn d32_0.rd) = n32_0 p := by kernel_rfl
def a32_0 : L32_0 → Option L32_0 := advG (n32_0)
abbrev E32 : Type := Bool
def d32 : Td 0 E32 := .c [] [4] (.r 0 0 (ec 4 qb en) sn (fun z => z.1.1) (fun x => ((x, ()), (()))) fun _ => rfl)
def A32 := (lc (ql 3) (lc (ql 3) ln))
def an32 : An := (.two .no (.two .no (.two (.two .no (d32_0.lp a32_0 .no)) .no)))
theorem fa32 : FnAn Tryz.prog (F32) 0 300 32 (an32) := fnAn_of (l := [(loopAt Tryz.f32 0, (d32_0.lp a32_0 .no))]) Tryz.func32 (bodyOf_eq (by kernel_rfl)) (by kernel_rfl) (ob_cons ⟨d32_0.ok _, advG_ok (q32_0)⟩ ob_nil)
def m32 (a0 : List Int) (a1 : List Int) : Option E32 :=
 bif bif decide ((↑a0.length : Int) = (↑a1.length : Int)) then false else true then some (false) else match a32_0 (L32_0.mk a0 a1 (↑a0.length : Int) (0)) with | none => none | some r1 => bif decide (r1.t13 < r1.t12) then if (0 : Int) ≤ r1.t13 ∧ r1.t13 < (↑r1.t0.length : Int) then if (0 : Int) ≤ r1.t13 ∧ r1.t13 < (↑r1.t1.length : Int) then bif bif decide (r1.t0[r1.t13.toNat]! = r1.t1[r1.t13.toNat]!) then false else true then some (false) else none else none else none else some (true)
theorem c32 (a0 : List Int) (a1 : List Int) : callR Tryz.prog (F32) 300 (an32) 32 (A32.c (a0, a1, ())) [] 0 d32.rd = m32 a0 a1 := by kernel_rfl
def e32 : Orc → Orc := eL Tryz.prog 32 false A32 d32 (fun g => m32 g.1 g.2.1)
theorem e32_ok {F : Orc} (h : OrcG Tryz.prog F) : OrcG Tryz.prog (e32 F) := eL_ok (sc := scU) scU_ok (hl_of F32_ok fa32 (fun _ => by kernel_rfl) (fun _ => by kernel_rfl) fun g => c32 g.1 g.2.1) ⟨_, Tryz.func32, by kernel_rfl, by kernel_rfl⟩ (fun _ => by kernel_rfl) (fun _ => by kernel_rfl) h
theorem e32_pure {F : Orc} {f : Nat} (h : PureF F f) : PureF (e32 F) f := orL_pure h (fun _ => by kernel_rfl)
structure L17_0 where
 t0 : List Slot
 t1 : List Slot
 t12 : Int
 t13 : Int
def n17_0 (p : L17_0) : Option (Option L17_0) :=
 bif decide (p.t13 < p.t12) then if (0 : Int) ≤ p.t13 ∧ p.t13 < (↑p.t0.length : Int) then if (0 : Int) ≤ p.t13 ∧ p.t13 < (↑p.t1.length : Int) then bif bif bif decide (p.t0[p.t13.toNat]!.fVar = p.t1[p.t13.toNat]!.fVar) then bif decide (p.t0[p.t13.toNat]!.fFirst = p.t1[p.t13.toNat]!.fFirst) then bif decide (p.t0[p.t13.toNat]!.fBits = p.t1[p.t13.toNat]!.fBits) then true else false else false else false then false else true then some (none) else some (some (L17_0.mk p.t0 p.t1 p.t12 (i64.wrap (p.t13 + 1)))) else none else none else some (none)
def a17_0 : L17_0 → Option L17_0 := advG (n17_0)
abbrev E17 : Type := Bool
def m17 (a0 : List Slot) (a1 : List Slot) : Option E17 :=
 bif bif decide ((↑a0.length : Int) = (↑a1.length : Int)) then false else true then some (false) else match a17_0 (L17_0.mk a0 a1 (↑a0.length : Int) (0)) with | none => none | some r1 => bif decide (r1.t13 < r1.t12) then if (0 : Int) ≤ r1.t13 ∧ r1.t13 < (↑r1.t0.length : Int) then if (0 : Int) ≤ r1.t13 ∧ r1.t13 < (↑r1.t1.length : Int) then bif bif bif decide (r1.t0[r1.t13.toNat]!.fVar = r1.t1[r1.t13.toNat]!.fVar) then bif decide (r1.t0[r1.t13.toNat]!.fFirst = r1.t1[r1.t13.toNat]!.fFirst) then bif decide (r1.t0[r1.t13.toNat]!.fBits = r1.t1[r1.t13.toNat]!.fBits) then true else false else false else false then false else true then some (false) else none else none else none else some (true)
structure L30_1 where
 t1 : List Int
 t8 : List Bool
 t11 : Int
 t12 : Int
 t19 : List Slot
 t20 : Int
 t21 : Int
 b0 : Flat
structure L30_0 where
 t1 : List Int
 t8 : List Bool
 t19 : List Slot
 t20 : Int
 t21 : Int
 b0 : Flat
structure L68_0 where
 t0 : List GVar
 t1 : Int
 t5 : List GVar
 t6 : Int
structure L67_1 where
 t6 : List GVar
 t8 : Int
 t9 : Int
structure L67_0 where
 t6 : List GVar
 t7 : Int
structure L28_0 where
 t2 : List Int
 t10 : List GVar
 t11 : Int
 t12 : Int
theorem bl_nat {x : Int} (h0 : 0 ≤ x) : x < 2 ^ (bl x).toNat ∧ ∀ i, i < (bl x).toNat → (2 : Int) ^ i ≤ x := by
  have e : ∀ k : Nat, ((2 ^ k : Nat) : Int) = (2 : Int) ^ k := fun k => by rw [Int.natCast_pow]; rfl
  unfold bl
  split
  · have : x = 0 := by omega
    subst this
    exact ⟨by decide, fun i hi => by simp at hi⟩
  · rename_i h
    rw [Int.toNat_natCast]
    have h1 := @Nat.lt_log2_self x.toNat
    have h2 := Nat.log2_self_le (n := x.toNat) (by omega)
    refine ⟨by rw [← e]; omega, fun i hi => ?_⟩
    have h3 : 2 ^ i ≤ 2 ^ Nat.log2 x.toNat := Nat.pow_le_pow_right (by omega) (by omega)
    rw [← e]
    omega
theorem shl1 {k : Nat} (h : k ≤ 30) : bShl IntKind.i64 1 (k : Int) = 2 ^ k := by
 unfold bShl
 have hp : (2 : Int) ^ k ≤ 2 ^ 30 := by
  have := Nat.pow_le_pow_right (n := 2) (by omega) h
  have e : ∀ k : Nat, ((2 ^ k : Nat) : Int) = (2 : Int) ^ k := fun k => by rw [Int.natCast_pow]; rfl
  rw [← e k, ← e 30]
  exact Int.ofNat_le.2 this
 have h0 : (0 : Int) < 2 ^ k := Int.pow_pos (by omega)
 have h30 : (2 : Int) ^ 30 = 1073741824 := by decide
 rw [show min ((k : Int)).toNat IntKind.i64.bits = k from by simp only [Int.toNat_natCast, IntKind.bits]; omega, Int.one_mul]
 exact wrap_id (by omega) (by omega)
theorem a16_2_eq (a b c d e f' : Int) (q : List Slot) (g : List Int) (vs : List GVar) (u w : Int) (f : Flat) (v : GVar) (h1 : -1048576 ≤ v.fLow) (h2 : v.fLow ≤ v.fHigh) (h3 : v.fHigh ≤ 1048576) :
  a16_2 ⟨q, a, b, c, d, 0, g, e, f', vs, u, w, f, v⟩ = some ⟨q, a, b, c, d, vbl v, g, e, f', vs, u, w, f, v⟩ := by
 have hb := bl_le (x := v.fHigh - v.fLow) (by omega)
 obtain ⟨g1, g2⟩ := bl_nat (x := v.fHigh - v.fLow) (by omega)
 have e1 : i64.wrap (v.fHigh - v.fLow) = v.fHigh - v.fLow := wrap_id (by omega) (by omega)
 have e2 : i64.wrap (v.fHigh - v.fLow + 1) = v.fHigh - v.fLow + 1 := wrap_id (by omega) (by omega)
 obtain ⟨_, q, -⟩ := loopI (β := Unit) (rnd := n16_2) (bl (v.fHigh - v.fLow)).toNat (fun i _ => ⟨q, a, b, c, d, (i : Int), g, e, f', vs, u, w, f, v⟩) (fun _ _ => True) (fun i _ hi _ => by
  have i2 : (0 : Int) ≤ (i : Int) := by omega
  have hw : i64.wrap ((i : Int) + 1) = ((i + 1 : Nat) : Int) := by rw [wrap_id (by omega) (by omega)]; omega
  have h4 := g2 i hi
  refine ⟨(), ?_, trivial⟩
  unfold n16_2
  simp only [i2, if_true, e1, e2, shl1 (show i ≤ 30 by omega), hw]
  rw [decide_eq_true (by omega), cond_true]) (fun _ _ => by
  unfold n16_2
  simp only [e1, e2, shl1 (show (bl (v.fHigh - v.fLow)).toNat ≤ 30 by omega)]
  rw [if_pos (by omega), decide_eq_false (by omega), cond_false]) (b := ()) trivial
 rw [show (((bl (v.fHigh - v.fLow)).toNat : Nat) : Int) = vbl v from by unfold vbl; omega] at q
 exact q
theorem a16_1_eq (f : Flat) (h : VOk f.fVars) (k : Int) (s : List Slot × Int) (hs1 : s.1.length ≤ 10000) (hs2 : 0 ≤ s.2 ∧ s.2 ≤ 100000) (a c d : Int) (e : List Int) :
    a16_1 ⟨s.1, s.2, a, k, e, c, d, f.fVars, (f.fVars.length : Int), 0, f⟩ = some ⟨((idK f.fVars k).foldl (addS f.fVars) s).1, ((idK f.fVars k).foldl (addS f.fVars) s).2, a, k, e, c, d, f.fVars, (f.fVars.length : Int), (f.fVars.length : Int), f⟩ ∧
      ((idK f.fVars k).foldl (addS f.fVars) s).1.length ≤ s.1.length + f.fVars.length ∧ 0 ≤ ((idK f.fVars k).foldl (addS f.fVars) s).2 ∧ ((idK f.fVars k).foldl (addS f.fVars) s).2 ≤ s.2 + 24 * f.fVars.length := by
  have hn := h.1
  obtain ⟨v, q, hv⟩ := loopI (rnd := n16_1) f.fVars.length (fun i (z : List Slot × Int) => ⟨z.1, z.2, a, k, e, c, d, f.fVars, (f.fVars.length : Int), (i : Int), f⟩) (fun i z => z = (idN f.fVars k i).foldl (addS f.fVars) s ∧ z.1.length ≤ s.1.length + i ∧ 0 ≤ z.2 ∧ z.2 ≤ s.2 + 24 * i) (fun i z hi ⟨hz, z1, z2, z3⟩ => by
    have i1 : (i : Int) < (f.fVars.length : Int) := by omega
    have i2 : (0 : Int) ≤ (i : Int) := by omega
    have hw := w1L hi (by omega)
    obtain ⟨x1, x2, x3⟩ := h.2 i hi
    have hv := bl_le (x := f.fVars[i]!.fHigh - f.fVars[i]!.fLow) (by omega)
    have hv : 0 ≤ vbl f.fVars[i]! ∧ vbl f.fVars[i]! ≤ 24 := hv
    by_cases hk : f.fVars[i]!.fKind = k
    · have h3 : (z.1 ++ [Slot.mk (i : Int) z.2 (vbl f.fVars[i]!)]).length ≤ 1073741824 := by simp; omega
      have h4 : i64.wrap (z.2 + vbl f.fVars[i]!) = z.2 + vbl f.fVars[i]! := wrap_id (by omega) (by omega)
      have h5 : ¬ (bShl IntKind.i64 1 (vbl f.fVars[i]!) < i64.wrap (i64.wrap (f.fVars[i]!.fHigh - f.fVars[i]!.fLow) + 1)) := by
        have e1 : i64.wrap (f.fVars[i]!.fHigh - f.fVars[i]!.fLow) = f.fVars[i]!.fHigh - f.fVars[i]!.fLow := wrap_id (by omega) (by omega)
        have e2 : i64.wrap (f.fVars[i]!.fHigh - f.fVars[i]!.fLow + 1) = f.fVars[i]!.fHigh - f.fVars[i]!.fLow + 1 := wrap_id (by omega) (by omega)
        have e3 := (bl_nat (x := f.fVars[i]!.fHigh - f.fVars[i]!.fLow) (by omega)).1
        have e4 : vbl f.fVars[i]! = (((bl (f.fVars[i]!.fHigh - f.fVars[i]!.fLow)).toNat : Nat) : Int) := by show bl _ = _; have : 0 ≤ bl (f.fVars[i]!.fHigh - f.fVars[i]!.fLow) := hv.1; omega
        have e5 : (bl (f.fVars[i]!.fHigh - f.fVars[i]!.fLow)).toNat ≤ 30 := by have := hv.2; omega
        rw [e1, e2, e4, shl1 e5]
        omega
      refine ⟨addS f.fVars z (i : Int), ?_, ?_, ?_, ?_, ?_⟩
      · unfold n16_1
        simp only [Int.toNat_natCast, i1, i2, decide_true, cond_true, cond_false, and_self, if_true, hk, a16_2_eq _ _ _ _ _ _ _ _ _ _ _ _ _ x1 x2 x3, hv.1, h5, decide_false, h3, hw, h4]
        rfl
      · rw [idN_succ, if_pos hk, List.foldl_append, ← hz]; rfl
      · unfold addS; simp; omega
      · unfold addS; simp only [Int.toNat_natCast]; omega
      · unfold addS; simp only [Int.toNat_natCast]; omega
    · refine ⟨z, ?_, ?_, by omega, z2, by omega⟩
      · unfold n16_1
        simp only [Int.toNat_natCast, i1, i2, decide_true, decide_false, cond_true, cond_false, and_self, if_true, hk, hw]
      · rw [idN_succ, if_neg hk, List.append_nil]; exact hz) (fun z _ => by unfold n16_1; simp) (b := s) ⟨rfl, Nat.le_refl _, hs2.1, by simp⟩
  obtain ⟨hv, hr⟩ := hv
  have hv : v = (idK f.fVars k).foldl (addS f.fVars) s := hv
  subst hv
  exact ⟨q, hr⟩
theorem m16_eq (f : Flat) (h : VOk f.fVars) : m16 f = some ((slotsP f.fVars).1, (slotsP f.fVars).2.2, (slotsP f.fVars).2.1) := by
 have hn := h.1
 obtain ⟨q1, q2, q3, q4⟩ := a16_1_eq f h 1 ([], 0) (by simp) (by simp) 0 2 0 [1, 3]
 simp only [List.length_nil, Nat.zero_add, Int.zero_add] at q2 q4
 obtain ⟨p1, p2, p3, p4⟩ := a16_1_eq f h 3 ((idK f.fVars 1).foldl (addS f.fVars) ([], 0)) (by omega) ⟨q3, by omega⟩ ((idK f.fVars 1).foldl (addS f.fVars) ([], 0)).2 2 1 [1, 3]
 have n0 : n16_0 ⟨[], 0, 0, [1, 3], 2, 0, f⟩ = some (some ⟨((idK f.fVars 1).foldl (addS f.fVars) ([], 0)).1, ((idK f.fVars 1).foldl (addS f.fVars) ([], 0)).2, ((idK f.fVars 1).foldl (addS f.fVars) ([], 0)).2, [1, 3], 2, 1, f⟩) := by
  unfold n16_0
  have e1 : ([1, 3] : List Int)[Int.toNat 0]! = 1 := rfl
  have w : i64.wrap (0 + 1) = 1 := wrap_id (by omega) (by omega)
  simp only [e1, q1, w, Int.lt_irrefl, decide_false, cond_false]
  rfl
 have n1 : n16_0 ⟨((idK f.fVars 1).foldl (addS f.fVars) ([], 0)).1, ((idK f.fVars 1).foldl (addS f.fVars) ([], 0)).2, ((idK f.fVars 1).foldl (addS f.fVars) ([], 0)).2, [1, 3], 2, 1, f⟩ = some (some ⟨(slotsP f.fVars).1, (slotsP f.fVars).2.2, (slotsP f.fVars).2.1, [1, 3], 2, 2, f⟩) := by
  unfold n16_0
  have e1 : ([1, 3] : List Int)[Int.toNat 1]! = 3 := rfl
  have w : i64.wrap (1 + 1) = 2 := wrap_id (by omega) (by omega)
  simp only [e1, p1, w, Int.lt_irrefl, decide_false, cond_false]
  rfl
 have e : a16_0 ⟨[], 0, 0, [1, 3], 2, 0, f⟩ = some ⟨(slotsP f.fVars).1, (slotsP f.fVars).2.2, (slotsP f.fVars).2.1, [1, 3], 2, 2, f⟩ := by
  unfold a16_0
  rw [advG_step n0, advG_step n1]
  exact advG_stop (fun r => by unfold n16_0; simp)
 unfold m16
 rw [e]
 simp only [Int.lt_irrefl, decide_false, cond_false]
end Go.Proofs.YtghilkcphindjaaGreat
end
