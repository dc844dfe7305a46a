/- Code with loops and joins that are not carried out, but summed up. Program-independent. -/
import Derived.Test.YtgdahkddhecloaaIxa
set_option linter.unusedSectionVars false
set_option linter.unusedVariables false
set_option linter.unusedSimpArgs false
namespace Go.Iv
variable [U : Uni] [L : UniL]
open Go Go.RowKit

/-- Notes on code: lp: at the head of the loop stand what rd reads and pat shows; adv p is what stands there before the last round. jn: both ways of a choice end in what rd reads. -/
inductive An : Type 1
  | no
  | two (l r : An)
  | lp (γ : Type) (rd : St → Option γ) (pat : γ → St) (adv : γ → Option γ) (body : An)
  | jn (γ : Type) (rd : St → Option γ) (pat : γ → St) (l r : An)
  | rb (fs : List Nat) (t : Nat)
def An.l : An → An
  | .two l _ => l
  | .jn _ _ _ l _ => l
  | _ => .no
def An.r : An → An
  | .two _ r => r
  | .jn _ _ _ _ r => r
  | _ => .no

abbrev XT := An → (α : Type) → St → Kont α → Option α

def mixB {γ : Type} (b : Bool) (p q : γ) : γ := match b with
  | true => p
  | false => q
/-- a round that goes on -/
def kOn {γ : Type} (rd : St → Option γ) : Kont (Option γ) := fun e s => match e with
  | .normal => (rd s).map some
  | _ => some none
def kEnd {γ : Type} (rd : St → Option γ) : Kont γ := fun e s => match e with
  | .normal => rd s
  | _ => none
noncomputable def joinO {γ α : Type} (rd : St → Option γ) (pat : γ → St) (c : Operand) (s : St) (x y : (α : Type) → St → Kont α → Option α) (k : Kont α) : Option α := match c with
  | .tmp t => match eget s.E t with
    | some (.lit (.bool b)) => match x γ (s.putB t true) (kEnd rd) with
      | some p => match y γ (s.putB t false) (kEnd rd) with
        | some q => k .normal (pat (mixB b p q))
        | none => none
      | none => none
    | _ => none
  | _ => none
noncomputable def axReg (P : Program) (F : Orc) (n : Nat) (id : Nat) (ops : Array Oper) (draw : Bool) : XT := fun an _ s k => match an with
  | .rb fs t => match draw with
    | false => exRegB P F n fs t ops s k
    | true => exReg P F n id ops true s k
  | _ => exReg P F n id ops draw s k
noncomputable def axSeq (x y : XT) : XT := fun an α s k => x an.l α s (seqK (y an.r α) k)
noncomputable def axCond (c : Operand) (x y : XT) : XT := fun an α s k => match an with
  | .jn _ rd pat l r => joinO rd pat c s (x l) (y r) k
  | an => condO c s (fun s => x an.l α s k) (fun s => y an.r α s k)
noncomputable def axBlock (id : Nat) (x : XT) : XT := fun an α s k => x an α s (blockK id k)
noncomputable def axLoop (fuel : Nat) (x : XT) : XT := fun an α s k => match an with
  | .lp _ rd pat adv b => match rd s with
    | some p => match adv p with
      | some q => x b α (pat q) (loopK k fun _ => none)
      | none => none
    | none => none
  | an => loopN (x an α) k fuel s
noncomputable def execA (P : Program) (F : Orc) (n : Nat) (fuel : Nat) (c : Code) : XT :=
  Code.rec (fun _ _ s k => exSkip s k) (axReg P F n) (fun _ _ => axSeq) (fun c _ _ => axCond c) (fun id _ => axBlock id) (fun _ => axLoop fuel) (fun _ _ _ _ _ _ _ _ s k => exNo s k) (fun i _ _ s k => exExit i s k) (fun _ _ _ _ s k => exNo s k) (fun _ _ _ s k => exNo s k) (fun _ _ _ s k => exNo s k) (fun _ _ s k => exRet s k) (fun _ _ _ s k => exNo s k) c

def RdOk {γ : Type} (n0 n : Nat) (rd : St → Option γ) (pat : γ → St) : Prop := ∀ (C : Cg) s p a w, C.n = n0 → rd s = some p → Mt C n s a w → Mt C n (pat p) a w
/-- From p the rounds go on n times, up to q. -/
def GoesX {γ : Type} (x : XT) (rd : St → Option γ) (pat : γ → St) (b : An) : Nat → γ → γ → Prop
  | 0, p, q => p = q
  | n + 1, p, q => ∃ p', x b (Option γ) (pat p) (kOn rd) = some (some p') ∧ GoesX x rd pat b n p' q
def AdvOk {γ : Type} (x : XT) (rd : St → Option γ) (pat : γ → St) (adv : γ → Option γ) (b : An) : Prop :=
  ∀ p q, adv p = some q → ∃ n, GoesX x rd pat b n p q
noncomputable def AnOk (P : Program) (F : Orc) (n0 n : Nat) (fuel : Nat) (c : Code) : An → Prop :=
  Code.rec (fun _ => True) (fun _ _ _ an => match an with
    | .rb fs _ => ∀ f ∈ fs, PureF F f
    | _ => True) (fun _ _ x y an => x an.l ∧ y an.r) (fun _ _ _ x y an => (∀ γ rd pat l r, an = .jn γ rd pat l r → RdOk n0 n rd pat) ∧ x an.l ∧ y an.r) (fun _ _ x => x)
    (fun c x an => match an with
      | .lp _ rd pat adv b => RdOk n0 n rd pat ∧ AdvOk (execA P F n fuel c) rd pat adv b ∧ x b
      | an => x an) (fun _ _ _ _ _ _ _ => True) (fun _ _ => True) (fun _ _ _ => True) (fun _ _ => True) (fun _ _ => True) (fun _ => True) (fun _ _ => True) c

section
variable {P : Program} {F : Orc} {C : Cg} {n0 n : Nat}

theorem execA_ok (hF : OrcOk P F) (hN : OrcNat F) (hC : C.n = n0) (fuel : Nat) (c : Code) : ∀ an, AnOk P F n0 n fuel c an → ∀ (α : Type), Says (α := α) P C n c (execA P F n fuel c an α) := by
  induction c with
  | skip => exact fun an _ α r s k a w h hm => wp_skip ⟨s, h, hm⟩
  | region id ops draw =>
    intro an ho α
    cases an with
    | rb fs t =>
      cases draw with
      | false => exact says_regB hF hN ho id t ops
      | true => exact says_reg hF hN id ops true
    | _ => exact says_reg hF hN id ops draw
  | seq x y hx hy =>
    intro an ho α r s k a w h hm
    obtain ⟨h1, h2⟩ : AnOk P F n0 n fuel x an.l ∧ AnOk P F n0 n fuel y an.r := ho
    refine wp_seq (wp_mono (hx an.l h1 α r s _ a w h hm) fun e a' w' ⟨s', g1, g2⟩ => ?_)
    cases e with
    | normal => exact hy an.r h2 α r s' k a' w' g1 g2
    | _ => exact ⟨s', g1, g2⟩
  | cond c x y hx hy =>
    intro an ho α r s k a w h hm
    obtain ⟨h0, h1, h2⟩ : (∀ γ rd pat l r, an = .jn γ rd pat l r → RdOk n0 n rd pat) ∧ AnOk P F n0 n fuel x an.l ∧ AnOk P F n0 n fuel y an.r := ho
    have plain : condO c s (fun s => execA P F n fuel x an.l α s k) (fun s => execA P F n fuel y an.r α s k) = some r → Ends P C n (.cond c x y) k r a w := fun h => by
      obtain ⟨b, s', he, hm', h'⟩ := condO_ok h hm
      cases b with
      | true => exact wp_cond_true he (hx an.l h1 α r s' k a w h' hm')
      | false => exact wp_cond_false he (hy an.r h2 α r s' k a w h' hm')
    cases an with
    | jn γ rd pat l r' =>
      have hrd := h0 γ rd pat l r' rfl
      change joinO rd pat c s (execA P F n fuel x l) (execA P F n fuel y r') k = some r at h
      unfold joinO at h
      split at h
      case h_2 => cases h
      rename_i t
      split at h
      case h_2 => cases h
      rename_i b hb
      split at h
      case h_2 => cases h
      rename_i p hp
      split at h
      case h_2 => cases h
      rename_i q hq
      have hev : a.eval (.tmp t) = .bool b := by
        obtain ⟨E, hh, _, _, ρ, _, hs⟩ := hm
        refine ev_bool hs ?_
        have g1 := hh t _ hb
        show Env.get (E.sub ρ) t = _
        rw [Env.sub_get, g1, Option.map_some, sub_lit]
      have fin : ∀ (p : γ), k .normal (pat p) = some r → ∀ e a' w', (∃ s', kEnd rd e s' = some p ∧ Mt C n s' a' w') → ∃ s', k e s' = some r ∧ Mt C n s' a' w' := fun p hk e a' w' ⟨s', g1, g2⟩ => by
        cases e with
        | normal => exact ⟨_, hk, hrd C s' p a' w' hC g1 g2⟩
        | _ => cases g1
      cases b with
      | true => exact wp_cond_true hev (wp_mono (hx l h1 γ p _ _ a w hp (hm.putB hb)) (fin p h))
      | false => exact wp_cond_false hev (wp_mono (hy r' h2 γ q _ _ a w hq (hm.putB hb)) (fin q h))
    | _ => exact plain h
  | block id x hx =>
    intro an ho α r s k a w h hm
    refine wp_block (wp_mono (hx an ho α r s _ a w h hm) fun e a' w' ⟨s', h1, h2⟩ => ?_)
    cases e with
    | exit id' =>
      simp only [blockK] at h1
      simp only [Exit.inBlock]
      split
      · rename_i he
        subst he
        have hb : Nat.beq id' id' = true := Nat.beq_refl _
        simp only [hb] at h1
        exact ⟨s', h1, h2⟩
      · rename_i he
        have hb : Nat.beq id' id = false := by
          cases hb : Nat.beq id' id with
          | false => rfl
          | true => exact absurd (Nat.eq_of_beq_eq_true hb) he
        simp only [hb] at h1
        exact ⟨s', h1, h2⟩
    | _ => exact ⟨s', h1, h2⟩
  | loop c hc =>
    intro an ho α r s k a w h hm
    cases an with
    | lp γ rd pat adv b =>
      obtain ⟨hrd, hadv, hb⟩ : RdOk n0 n rd pat ∧ AdvOk (execA P F n fuel c) rd pat adv b ∧ AnOk P F n0 n fuel c b := ho
      change (match rd s with
        | some p => match adv p with
          | some q => execA P F n fuel c b α (pat q) (loopK k fun _ => none)
          | none => none
        | none => none) = some r at h
      split at h
      case h_2 => cases h
      rename_i p hp
      split at h
      case h_2 => cases h
      rename_i q hq
      obtain ⟨m, hgo⟩ := hadv p q hq
      have key : ∀ (m : Nat) (p : γ), GoesX (execA P F n fuel c) rd pat b m p q → ∀ (a : Act) (w : World), Mt C n (pat p) a w →
          c.wp P (Exit.then (InL P c fun e a' w' => ∃ s', k e s' = some r ∧ Mt C n s' a' w') fun e a' w' => ∃ s', k e s' = some r ∧ Mt C n s' a' w') a w := by
        intro m
        induction m with
        | zero =>
          intro p hg a w hm
          have hg : p = q := hg
          subst hg
          refine wp_mono (hc b hb α r _ _ a w h hm) fun e a' w' ⟨s', q1, q2⟩ => ?_
          cases e with
          | normal => cases q1
          | _ => exact ⟨s', q1, q2⟩
        | succ m ih =>
          intro p hg a w hm
          obtain ⟨p', g1, g3⟩ := hg
          refine wp_mono (hc b hb (Option γ) (some p') _ _ a w g1 hm) fun e a' w' ⟨s', q1, q2⟩ => ?_
          cases e with
          | normal =>
            obtain ⟨p'', q3, q4⟩ := Option.map_eq_some_iff.1 (show (rd s').map some = some (some p') from q1)
            cases q4
            exact inL_step (ih p' g3 a' w' (hrd C s' p' a' w' hC q3 q2))
          | _ => cases q1
      exact wp_unroll (key m p hgo a w (hrd C s p a w hC hp hm))
    | _ => exact says_loop (hc _ ho α) fuel r s k a w h hm
  | exit i => exact fun an _ α r s k a w h hm => wp_exit ⟨s, h, hm⟩
  | ret => exact fun an _ α r s k a w h hm => wp_ret ⟨s, h, hm⟩
  | _ => exact fun an _ α r s k a w h hm => by cases h

/-! ### functions -/

/-- The call of f, up to its end. -/
noncomputable def callR (P : Program) (F : Orc) (fuel : Nat) (an : An) {α : Type} (f : FuncId) (args : List AV) (R : IRs) (nx : Nat) (k : St → Option α) : Option α := match P.funcs[f]? with
  | some fn => match fn.body with
    | some c => match Nat.ble args.length fn.ntmps && !(fn.name == "runtime.NumGoroutine") with
      | true => execA P F fn.ntmps fuel c an α ⟨argsT 0 args .e, R, nx⟩ fun e s => match e with
        | .normal => k s
        | .ret => k s
        | _ => none
      | false => none
    | none => none
  | none => none
/-- The notes on the code of function f are so. -/
def FnAn (P : Program) (F : Orc) (n0 : Nat) (fuel : Nat) (f : FuncId) (an : An) : Prop := ∀ fn c, P.funcs[f]? = some fn → fn.body = some c → AnOk P F n0 fn.ntmps fuel c an

/-- What the results of f are at its end. -/
noncomputable def outOf (P : Program) (f : FuncId) (s : St) : Option (List AV) := match P.funcs[f]? with
  | some fn => resL P s fn.results.toList
  | none => none

/-- Function f, called with args while it is handed what R0 names (the names below n0), comes to answer d and owns R then (the names below n0 stand for what they stood for). -/
structure Out where
  d : AV
  R : IRs
  c : Nat
def FnY (P : Program) (f : FuncId) (args : List AV) (R0 : IRs) (n0 : Nat) (x : Out) : Prop := ∀ ρ : Gh, Fn P f (args.map (AVq.sub ρ)) (IRs.res ρ R0) (fun a s => ∃ ρ' : Gh, Agr n0 ρ ρ' ∧ a = x.d.sub ρ' ∧ List.Perm s (IRs.res ρ' x.R))

theorem fnY_of (hF : OrcG P F) {n0 fuel : Nat} {f : FuncId} {an : An} (han : FnAn P F n0 fuel f an) {args : List AV} {R0 : IRs} {γ : Type} {rd : St → Option γ} {pat : γ → St} {out : γ → Out} {p : γ}
    (hrd : ∀ n, RdOk n0 n rd pat) (ho : ∀ p, (match outOf P f (pat p) with
      | some ds => some (Out.mk (resA ds) (keepR (pat p).R n0 (resA ds)) (pat p).nx)
      | none => none) = some (out p))
    (hargs : ∀ d ∈ args, Ltd n0 d) (hR : IRs.Ltd n0 R0) (h : callR P F fuel an f args R0 n0 rd = some p) : fnOk P f ∧ FnY P f args R0 n0 (out p) := by
  unfold callR at h
  split at h
  case h_2 => cases h
  rename_i fn hf
  split at h
  case h_2 => cases h
  rename_i c hb
  split at h
  case h_2 => cases h
  rename_i hc
  rw [Bool.and_eq_true] at hc
  obtain ⟨hl, hnm⟩ := hc
  have hop := ho p
  split at hop
  case h_2 => cases hop
  rename_i ds hds
  have hds : resL P (pat p) fn.results.toList = some ds := by
    unfold outOf at hds
    rw [hf] at hds
    exact hds
  have hop := Option.some.inj hop
  refine ⟨⟨fn, hf, by simpa using hnm, by rw [hb]; rfl⟩, fun ρ => Fn.of hf hb rfl (by rw [List.length_map]; exact hl) fun C a w ha => ?_⟩
  have hm : Mt ⟨C, ρ, n0⟩ fn.ntmps ⟨argsT 0 args .e, R0, n0⟩ a w := by
    refine ⟨argsEnv 0 args, ?_, fun q hq => hargs _ (argsEnv_mem hq), hR, ρ, ⟨.refl _ _, Nat.le_refl _⟩, ?_⟩
    · have := hold_args args 0 .e [] (fun t d ht => by cases t <;> cases ht) (fun t d ht => by cases t <;> cases ht)
      rwa [List.append_nil] at this
    · rw [argsEnv_sub]; exact ha
  refine wp_mono (execA_ok (C := ⟨C, ρ, n0⟩) hF.ok hF.nat rfl fuel c an (han fn c hf hb) γ p _ _ a w h hm) fun e a' w' ⟨s', h1, h2⟩ => ?_
  have fin : ∀ e : Exit, (e = .normal ∨ e = .ret) → rd s' = some p → ∃ E' σ', Sim C fn.ntmps E' σ' a' w' ∧ FinQ P C fn.ntmps fn (fun a s => ∃ ρ' : Gh, Agr n0 ρ ρ' ∧ a = (out p).d.sub ρ' ∧ List.Perm s (IRs.res ρ' (out p).R)) e E' σ' := fun e he hp => by
    have hm' := hrd fn.ntmps ⟨C, ρ, n0⟩ s' p a' w' rfl hp h2
    obtain ⟨E, hh, hE, hR, ρ', ⟨hag, hnx⟩, hsim⟩ := hm'
    have hsub : List.Sublist (keepR (pat p).R n0 (resA ds)) (pat p).R := keepL_sub _ _ _
    refine ⟨_, _, hsim, fin_of (σ' := IRs.res ρ' (keepR (pat p).R n0 (resA ds))) (av := (resA ds).sub ρ') he (hsub.map _) ⟨ρ', hag, by rw [← hop], by rw [← hop]⟩ fun A w' tmps hd hs => ?_⟩
    obtain ⟨us, q1, q2⟩ := resL_ok hh hd hs hds
    refine ⟨_, ?_, resA_rel q2⟩
    show (do let vs ← fn.results.mapM (resOne tmps); pure (if h : vs.size = 1 then vs[0] else .tuple vs) : Sem Value).run P w' = _
    have e1 : fn.results = fn.results.toList.toArray := by simp
    rw [e1, List.mapM_toArray]
    simp [q1]
  cases e with
  | normal => exact fin _ (.inl rfl) h1
  | ret => exact fin _ (.inr rfl) h1
  | _ => cases h1
end

/-! ### loops, summed up whatever they do -/

section
variable {γ : Type} (rnd : γ → Option (Option γ))
/-- From p the rounds go on n times, up to q, whose round does not go on. -/
def Goes : Nat → γ → γ → Prop
  | 0, p, q => p = q ∧ ∀ r, rnd p ≠ some (some r)
  | n + 1, p, q => ∃ p', rnd p = some (some p') ∧ Goes n p' q
open Classical in
/-- the state before the last round -/
noncomputable def advG (p : γ) : Option γ := if h : ∃ q n, Goes rnd n p q then some (Classical.choose h) else none
variable {rnd}
theorem Goes.det : ∀ {n m : Nat} {p q q' : γ}, Goes rnd n p q → Goes rnd m p q' → n = m ∧ q = q'
  | 0, 0, p, q, q', ⟨h1, _⟩, ⟨h2, _⟩ => ⟨rfl, h1 ▸ h2⟩
  | 0, m + 1, p, q, q', ⟨h1, h3⟩, ⟨p', h2, _⟩ => absurd h2 (h3 p')
  | n + 1, 0, p, q, q', ⟨p', h2, _⟩, ⟨h1, h3⟩ => absurd h2 (h3 p')
  | n + 1, m + 1, p, q, q', ⟨p', h1, h2⟩, ⟨p'', h3, h4⟩ => by
    rw [h1] at h3
    cases h3
    obtain ⟨e1, e2⟩ := Goes.det h2 h4
    exact ⟨by rw [e1], e2⟩
theorem Goes.adv {n : Nat} {p q : γ} (h : Goes rnd n p q) : advG rnd p = some q := by
  have hx : ∃ q n, Goes rnd n p q := ⟨q, n, h⟩
  unfold advG
  rw [dif_pos hx]
  obtain ⟨m, hm⟩ := Classical.choose_spec hx
  rw [(Goes.det hm h).2]
theorem Goes.last {n : Nat} {p q : γ} (h : Goes rnd n p q) : ∀ r, rnd q ≠ some (some r) := by
  induction n generalizing p with
  | zero => obtain ⟨h1, h2⟩ := h; rw [← h1]; exact h2
  | succ n ih => obtain ⟨p', _, h2⟩ := h; exact ih h2
/-- A loop that ends: by an invariant and a number that falls. -/
theorem Goes.ex (I : γ → Prop) (m : γ → Nat) (h : ∀ p q, I p → rnd p = some (some q) → I q ∧ m q < m p) : ∀ (k : Nat) (p : γ), m p ≤ k → I p → ∃ n q, Goes rnd n p q ∧ I q
  | k, p, hk, hp => by
    by_cases hq : ∃ q, rnd p = some (some q)
    · obtain ⟨q, hq⟩ := hq
      obtain ⟨h1, h2⟩ := h p q hp hq
      match k with
      | 0 => omega
      | k + 1 =>
        obtain ⟨n, r, h3, h4⟩ := Goes.ex I m h k q (by omega) h1
        exact ⟨n + 1, r, ⟨q, hq, h3⟩, h4⟩
    · exact ⟨0, p, ⟨rfl, fun r hr => hq ⟨r, hr⟩⟩, hp⟩
theorem advG_goes {p q : γ} (h : advG rnd p = some q) : ∃ n, Goes rnd n p q := by
  unfold advG at h
  split at h
  · rename_i hx
    cases h
    exact Classical.choose_spec hx
  · cases h
theorem advG_ind (I : γ → Prop) (m : γ → Nat) (h : ∀ p q, I p → rnd p = some (some q) → I q ∧ m q < m p) {p : γ} (hp : I p) : ∃ q, advG rnd p = some q ∧ I q ∧ ∀ r, rnd q ≠ some (some r) := by
  obtain ⟨n, q, h1, h2⟩ := Goes.ex I m h (m p) p (Nat.le_refl _) hp
  exact ⟨q, h1.adv, h2, h1.last⟩
theorem advG_step {p p' : γ} (h : rnd p = some (some p')) : advG rnd p = advG rnd p' := by
  cases h2 : advG rnd p' with
  | some q =>
    obtain ⟨n, hn⟩ := advG_goes h2
    exact (show Goes rnd (n + 1) p q from ⟨p', h, hn⟩).adv
  | none =>
    cases h1 : advG rnd p with
    | none => rfl
    | some q =>
      obtain ⟨n, hn⟩ := advG_goes h1
      cases n with
      | zero => exact absurd h (hn.2 p')
      | succ n =>
        obtain ⟨p'', h3, h4⟩ := hn
        rw [h] at h3
        cases h3
        rw [h4.adv] at h2
        cases h2
theorem advG_stop {p : γ} (h : ∀ r, rnd p ≠ some (some r)) : advG rnd p = some p := (show Goes rnd 0 p p from ⟨rfl, h⟩).adv
/-- A loop whose end a function foretells. -/
theorem advG_eq (f : γ → γ) (I : γ → Prop) (m : γ → Nat) (h : ∀ p, I p → (∃ q, rnd p = some (some q) ∧ I q ∧ m q < m p ∧ f q = f p) ∨ (f p = p ∧ ∀ r, rnd p ≠ some (some r))) {p : γ} (hp : I p) : advG rnd p = some (f p) := by
  have key : ∀ (k : Nat) (p : γ), m p ≤ k → I p → advG rnd p = some (f p) := by
    intro k
    induction k with
    | zero =>
      intro p hk hp
      rcases h p hp with ⟨q, _, _, h3, _⟩ | ⟨h1, h2⟩
      · omega
      · rw [advG_stop h2, h1]
    | succ k ih =>
      intro p hk hp
      rcases h p hp with ⟨q, h1, h2, h3, h4⟩ | ⟨h1, h2⟩
      · rw [advG_step h1, ih q (by omega) h2, h4]
      · rw [advG_stop h2, h1]
  exact key (m p) p (Nat.le_refl _) hp
theorem Goes.x {x : XT} {rd : St → Option γ} {pat : γ → St} {b : An} (hx : ∀ p, x b (Option γ) (pat p) (kOn rd) = rnd p) : ∀ {n : Nat} {p q : γ}, Goes rnd n p q → GoesX x rd pat b n p q
  | 0, _, _, h => h.1
  | _ + 1, _, _, ⟨p', h1, h2⟩ => ⟨p', by rw [hx]; exact h1, Goes.x hx h2⟩
theorem advG_ok {x : XT} {rd : St → Option γ} {pat : γ → St} {b : An} (hx : ∀ p, x b (Option γ) (pat p) (kOn rd) = rnd p) : AdvOk x rd pat (advG rnd) b := fun p q h => by
  obtain ⟨n, hn⟩ := advG_goes h
  exact ⟨n, hn.x hx⟩
/-- The same of another function that says as much. -/
theorem AdvOk.of {x : XT} {rd : St → Option γ} {pat : γ → St} {adv adv' : γ → Option γ} {b : An} (h : AdvOk x rd pat adv b) (he : ∀ p q, adv' p = some q → adv p = some q) : AdvOk x rd pat adv' b := fun p q hq => h p q (he p q hq)
end
end Go.Iv
