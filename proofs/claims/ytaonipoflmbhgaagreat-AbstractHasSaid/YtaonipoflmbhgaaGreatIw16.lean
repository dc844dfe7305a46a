/- Code with loops and joins that are not carried out, but summed up. Program-independent. -/
import Derived.Test.YtaonipoflmbhgaaGreatIw15
set_option linter.unusedSectionVars false
set_option linter.unusedVariables false
set_option linter.unusedSimpArgs false
namespace Go.Iv
variable [U : Uni] [L : UniL]
open Go Go.RowKit

/-- Notes on code: lp: at the head of the loop stand what rd reads and pat shows; adv p is what stands there before the last round. jn: both ways of a choice end in what rd reads. -/
inductive An : Type 1
  | no
  | two (l r : An)
  | lp (γ : Type) (rd : St → Option γ) (pat : γ → St) (adv : γ → γ) (body : An)
  | jn (γ : Type) (rd : St → Option γ) (pat : γ → St) (l r : An)
def An.l : An → An
  | .two l _ => l
  | .jn _ _ _ l _ => l
  | _ => .no
def An.r : An → An
  | .two _ r => r
  | .jn _ _ _ _ r => r
  | _ => .no

abbrev XT := An → (α : Type) → St → Kont α → Option α

def mixB {γ : Type} (b : Bool) (p q : γ) : γ := match b with
  | true => p
  | false => q
/-- a round that goes on -/
def kOn {γ : Type} (rd : St → Option γ) : Kont (Option γ) := fun e s => match e with
  | .normal => (rd s).map some
  | _ => some none
def kEnd {γ : Type} (rd : St → Option γ) : Kont γ := fun e s => match e with
  | .normal => rd s
  | _ => none
noncomputable def joinO {γ α : Type} (rd : St → Option γ) (pat : γ → St) (c : Operand) (s : St) (x y : (α : Type) → St → Kont α → Option α) (k : Kont α) : Option α := match c with
  | .tmp t => match eget s.E t with
    | some (.lit (.bool b)) => match x γ (s.putB t true) (kEnd rd) with
      | some p => match y γ (s.putB t false) (kEnd rd) with
        | some q => k .normal (pat (mixB b p q))
        | none => none
      | none => none
    | _ => none
  | _ => none
noncomputable def axReg (P : Program) (F : Orc) (n : Nat) (id : Nat) (ops : Array Oper) (draw : Bool) : XT := fun _ _ s k => exReg P F n id ops draw s k
noncomputable def axSeq (x y : XT) : XT := fun an α s k => x an.l α s (seqK (y an.r α) k)
noncomputable def axCond (c : Operand) (x y : XT) : XT := fun an α s k => match an with
  | .jn _ rd pat l r => joinO rd pat c s (x l) (y r) k
  | an => condO c s (fun s => x an.l α s k) (fun s => y an.r α s k)
noncomputable def axBlock (id : Nat) (x : XT) : XT := fun an α s k => x an α s (blockK id k)
noncomputable def axLoop (fuel : Nat) (x : XT) : XT := fun an α s k => match an with
  | .lp _ rd pat adv b => (rd s).bind fun p => x b α (pat (adv p)) (loopK k fun _ => none)
  | an => loopN (x an α) k fuel s
noncomputable def execA (P : Program) (F : Orc) (n : Nat) (fuel : Nat) (c : Code) : XT :=
  Code.rec (fun _ _ s k => exSkip s k) (axReg P F n) (fun _ _ => axSeq) (fun c _ _ => axCond c) (fun id _ => axBlock id) (fun _ => axLoop fuel) (fun _ _ _ _ _ _ _ _ s k => exNo s k) (fun i _ _ s k => exExit i s k) (fun _ _ _ _ s k => exNo s k) (fun _ _ _ s k => exNo s k) (fun _ _ _ s k => exNo s k) (fun _ _ s k => exRet s k) (fun _ _ _ s k => exNo s k) c

def RdOk {γ : Type} (n : Nat) (rd : St → Option γ) (pat : γ → St) : Prop := ∀ (C : Cg) s p a w, rd s = some p → Mt C n s a w → Mt C n (pat p) a w
def AdvOk {γ : Type} (x : XT) (rd : St → Option γ) (pat : γ → St) (adv : γ → γ) (b : An) : Prop :=
  ∃ meas : γ → Nat, ∀ p, adv p = p ∨ ∃ p', x b (Option γ) (pat p) (kOn rd) = some (some p') ∧ meas p' < meas p ∧ adv p' = adv p
noncomputable def AnOk (P : Program) (F : Orc) (n : Nat) (fuel : Nat) (c : Code) : An → Prop :=
  Code.rec (fun _ => True) (fun _ _ _ _ => True) (fun _ _ x y an => x an.l ∧ y an.r) (fun _ _ _ x y an => (∀ γ rd pat l r, an = .jn γ rd pat l r → RdOk n rd pat) ∧ x an.l ∧ y an.r) (fun _ _ x => x)
    (fun c x an => match an with
      | .lp _ rd pat adv b => RdOk n rd pat ∧ AdvOk (execA P F n fuel c) rd pat adv b ∧ x b
      | an => x an) (fun _ _ _ _ _ _ _ => True) (fun _ _ => True) (fun _ _ _ => True) (fun _ _ => True) (fun _ _ => True) (fun _ => True) (fun _ _ => True) c

section
variable {P : Program} {F : Orc} {C : Cg} {n : Nat}

theorem execA_ok (hF : OrcOk P F) (fuel : Nat) (c : Code) : ∀ an, AnOk P F n fuel c an → ∀ (α : Type), Says (α := α) P C n c (execA P F n fuel c an α) := by
  induction c with
  | skip => exact fun an _ α r s k a w h hm => wp_skip ⟨s, h, hm⟩
  | region id ops draw => exact fun an _ α => says_reg hF id ops draw
  | seq x y hx hy =>
    intro an ho α r s k a w h hm
    obtain ⟨h1, h2⟩ : AnOk P F n fuel x an.l ∧ AnOk P F n fuel y an.r := ho
    refine wp_seq (wp_mono (hx an.l h1 α r s _ a w h hm) fun e a' w' ⟨s', g1, g2⟩ => ?_)
    cases e with
    | normal => exact hy an.r h2 α r s' k a' w' g1 g2
    | _ => exact ⟨s', g1, g2⟩
  | cond c x y hx hy =>
    intro an ho α r s k a w h hm
    obtain ⟨h0, h1, h2⟩ : (∀ γ rd pat l r, an = .jn γ rd pat l r → RdOk n rd pat) ∧ AnOk P F n fuel x an.l ∧ AnOk P F n fuel y an.r := ho
    have plain : condO c s (fun s => execA P F n fuel x an.l α s k) (fun s => execA P F n fuel y an.r α s k) = some r → Ends P C n (.cond c x y) k r a w := fun h => by
      obtain ⟨b, s', he, hm', h'⟩ := condO_ok h hm
      cases b with
      | true => exact wp_cond_true he (hx an.l h1 α r s' k a w h' hm')
      | false => exact wp_cond_false he (hy an.r h2 α r s' k a w h' hm')
    cases an with
    | jn γ rd pat l r' =>
      have hrd := h0 γ rd pat l r' rfl
      change joinO rd pat c s (execA P F n fuel x l) (execA P F n fuel y r') k = some r at h
      unfold joinO at h
      split at h
      case h_2 => cases h
      rename_i t
      split at h
      case h_2 => cases h
      rename_i b hb
      split at h
      case h_2 => cases h
      rename_i p hp
      split at h
      case h_2 => cases h
      rename_i q hq
      have hev : a.eval (.tmp t) = .bool b := by
        obtain ⟨E, hh, _, _, ρ, _, hs⟩ := hm
        refine ev_bool hs ?_
        have g1 := hh t _ hb
        show Env.get (E.sub ρ) t = _
        rw [Env.sub_get, g1, Option.map_some, sub_lit]
      have fin : ∀ (p : γ), k .normal (pat p) = some r → ∀ e a' w', (∃ s', kEnd rd e s' = some p ∧ Mt C n s' a' w') → ∃ s', k e s' = some r ∧ Mt C n s' a' w' := fun p hk e a' w' ⟨s', g1, g2⟩ => by
        cases e with
        | normal => exact ⟨_, hk, hrd C s' p a' w' g1 g2⟩
        | _ => cases g1
      cases b with
      | true => exact wp_cond_true hev (wp_mono (hx l h1 γ p _ _ a w hp (hm.putB hb)) (fin p h))
      | false => exact wp_cond_false hev (wp_mono (hy r' h2 γ q _ _ a w hq (hm.putB hb)) (fin q h))
    | _ => exact plain h
  | block id x hx =>
    intro an ho α r s k a w h hm
    refine wp_block (wp_mono (hx an ho α r s _ a w h hm) fun e a' w' ⟨s', h1, h2⟩ => ?_)
    cases e with
    | exit id' =>
      simp only [blockK] at h1
      simp only [Exit.inBlock]
      split
      · rename_i he
        subst he
        have hb : Nat.beq id' id' = true := Nat.beq_refl _
        simp only [hb] at h1
        exact ⟨s', h1, h2⟩
      · rename_i he
        have hb : Nat.beq id' id = false := by
          cases hb : Nat.beq id' id with
          | false => rfl
          | true => exact absurd (Nat.eq_of_beq_eq_true hb) he
        simp only [hb] at h1
        exact ⟨s', h1, h2⟩
    | _ => exact ⟨s', h1, h2⟩
  | loop c hc =>
    intro an ho α r s k a w h hm
    cases an with
    | lp γ rd pat adv b =>
      obtain ⟨hrd, ⟨meas, hadv⟩, hb⟩ : RdOk n rd pat ∧ AdvOk (execA P F n fuel c) rd pat adv b ∧ AnOk P F n fuel c b := ho
      change ((rd s).bind fun p => execA P F n fuel c b α (pat (adv p)) (loopK k fun _ => none)) = some r at h
      obtain ⟨p, hp, h⟩ := Option.bind_eq_some_iff.1 h
      have key : ∀ (m : Nat) (p : γ), meas p = m → ∀ (a : Act) (w : World), Mt C n (pat p) a w → execA P F n fuel c b α (pat (adv p)) (loopK k fun _ => none) = some r →
          c.wp P (Exit.then (InL P c fun e a' w' => ∃ s', k e s' = some r ∧ Mt C n s' a' w') fun e a' w' => ∃ s', k e s' = some r ∧ Mt C n s' a' w') a w := by
        intro m
        induction m using Nat.strongRecOn with
        | _ m ih =>
          intro p hpm a w hm h
          rcases hadv p with he | ⟨p', g1, g2, g3⟩
          · rw [he] at h
            refine wp_mono (hc b hb α r _ _ a w h hm) fun e a' w' ⟨s', q1, q2⟩ => ?_
            cases e with
            | normal => cases q1
            | _ => exact ⟨s', q1, q2⟩
          · refine wp_mono (hc b hb (Option γ) (some p') _ _ a w g1 hm) fun e a' w' ⟨s', q1, q2⟩ => ?_
            cases e with
            | normal =>
              obtain ⟨p'', q3, q4⟩ := Option.map_eq_some_iff.1 (show (rd s').map some = some (some p') from q1)
              cases q4
              exact inL_step (ih (meas p') (by omega) p' rfl a' w' (hrd C s' p' a' w' q3 q2) (by rw [g3]; exact h))
            | _ => cases q1
      exact wp_unroll (key (meas p) p rfl a w (hrd C s p a w hp hm) h)
    | _ => exact says_loop (hc _ ho α) fuel r s k a w h hm
  | exit i => exact fun an _ α r s k a w h hm => wp_exit ⟨s, h, hm⟩
  | ret => exact fun an _ α r s k a w h hm => wp_ret ⟨s, h, hm⟩
  | _ => exact fun an _ α r s k a w h hm => by cases h

/-! ### functions -/

noncomputable def callA (P : Program) (F : Orc) (fuel : Nat) (an : An) {α : Type} (f : FuncId) (args : List AV) (R : IRs) (nx : Nat) (k : AV → IRs → Nat → Option α) : Option α := match P.funcs[f]? with
  | some fn => match fn.body with
    | some c => match Nat.ble args.length fn.ntmps && !(fn.name == "runtime.NumGoroutine") with
      | true => execA P F fn.ntmps fuel c an α ⟨argsT 0 args .e, R, nx⟩ fun e s => match e with
        | .normal => (resL P s fn.results.toList).bind fun ds => k (resA ds) (keepR s.R nx (resA ds)) s.nx
        | .ret => (resL P s fn.results.toList).bind fun ds => k (resA ds) (keepR s.R nx (resA ds)) s.nx
        | _ => none
      | false => none
    | none => none
  | none => none

/-- The notes on the code of function f are so. -/
def FnAn (P : Program) (F : Orc) (fuel : Nat) (f : FuncId) (an : An) : Prop := ∀ fn c, P.funcs[f]? = some fn → fn.body = some c → AnOk P F fn.ntmps fuel c an

theorem callA_ok (hF : OrcOk P F) (fuel : Nat) {f0 : FuncId} {an : An} (han : FnAn P F fuel f0 an) : OrcOk P (fun α f args R nx k => match Nat.beq f f0 with
    | true => callA (α := α) P F fuel an f args R nx k
    | false => none) := fun α f args R nx k r h0r hargs hR => by
  obtain ⟨hbq, h⟩ : Nat.beq f f0 = true ∧ callA (α := α) P F fuel an f args R nx k = some r := by
    have h : (match Nat.beq f f0 with
    | true => callA (α := α) P F fuel an f args R nx k
    | false => none) = some r := h0r
    cases hbq : Nat.beq f f0 with
    | true => rw [hbq] at h; exact ⟨rfl, h⟩
    | false => rw [hbq] at h; cases h
  have hbq := beqT hbq
  subst hbq
  unfold callA at h
  split at h
  case h_2 => cases h
  rename_i fn hf
  split at h
  case h_2 => cases h
  rename_i c hb
  split at h
  case h_2 => cases h
  rename_i hc
  rw [Bool.and_eq_true] at hc
  obtain ⟨hl, hnm⟩ := hc
  refine ⟨⟨fn, hf, by simpa using hnm, by rw [hb]; rfl⟩, fun ρ => Fn.of hf hb rfl (by rw [List.length_map]; exact hl) fun C a w ha => ?_⟩
  have hm : Mt ⟨C, ρ, nx⟩ fn.ntmps ⟨argsT 0 args .e, R, nx⟩ a w := by
    refine ⟨argsEnv 0 args, ?_, fun q hq => hargs _ (argsEnv_mem hq), hR, ρ, ⟨.refl _ _, Nat.le_refl _⟩, ?_⟩
    · have := hold_args args 0 .e [] (fun t d ht => by cases t <;> cases ht) (fun t d ht => by cases t <;> cases ht)
      rwa [List.append_nil] at this
    · rw [argsEnv_sub]; exact ha
  refine wp_mono (execA_ok hF fuel c an (han fn c hf hb) α r _ _ a w h hm) fun e a' w' ⟨s', h1, h2⟩ => ?_
  cases e with
  | normal => exact fin_ok (.inl rfl) h1 h2
  | ret => exact fin_ok (.inr rfl) h1 h2
  | _ => cases h1

/-- A function of data, summed up. -/
theorem fn_runA (hF : OrcOk P F) {fuel : Nat} {f : FuncId} {an : An} (han : FnAn P F fuel f an) {args : List AV} {β : Type} {e : AV → Option β} {m : β → AV} {x : β} (he : P0 e m) (hc : args.all (cloB 2) = true) (hl : ∀ d ∈ args, Ltd 0 d) (h : callA P F fuel an f args [] 0 (kRes e) = some x) : Fn P f args [] (fun a s => a = m x ∧ s = []) :=
  (fn_run (callA_ok hF fuel han) he hc hl (by rw [Nat.beq_refl]; exact h)).2
end
end Go.Iv
