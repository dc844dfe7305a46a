/- Code: an interpreter over names of what is owned, and that what it says is so. Program-independent. -/
import Derived.Test.YtgdahkddhecloaaIw7
import Derived.Test.YtgdahkddhecloaaIw13
set_option linter.unusedSectionVars false
set_option linter.unusedVariables false
set_option linter.unusedSimpArgs false
namespace Go.Iv
variable [U : Uni] [L : UniL]
open Go Go.RowKit

section
variable {α : Type} {r : α} {P : Program} {F : Orc} {C : Cg} {n : Nat}

noncomputable def exReg (P : Program) (F : Orc) (n : Nat) (_ : Nat) (ops : Array Oper) (draw : Bool) (s : St) (k : Kont α) : Option α := match draw with
  | false => rexec P F n ops ops.toList s (k .normal)
  | true => dexec P F n ops s (k .normal)
noncomputable def exec (P : Program) (F : Orc) (n : Nat) (fuel : Nat) (c : Code) : St → Kont α → Option α :=
  Code.rec exSkip (exReg P F n) (fun _ _ => exSeq) (fun c _ _ => exCond c) (fun id _ => exBlock id) (fun _ => exLoop fuel) (fun _ _ _ _ _ _ => exNo) exExit (fun _ _ => exNo) (fun _ => exNo) (fun _ => exNo) exRet (fun _ => exNo) c

noncomputable def callF (P : Program) (F : Orc) (fuel : Nat) (f : FuncId) (args : List AV) (R : IRs) (nx : Nat) (k : AV → IRs → Nat → Option α) : Option α := match P.funcs[f]? with
  | some fn => match fn.body with
    | some c => match Nat.ble args.length fn.ntmps && !(fn.name == "runtime.NumGoroutine") with
      | true => exec (α := α) P F fn.ntmps fuel c ⟨argsT 0 args .e, R, nx⟩ fun e s => match e with
        | .normal => (resL P s fn.results.toList).bind fun ds => k (resA ds) (keepR s.R nx (resA ds)) s.nx
        | .ret => (resL P s fn.results.toList).bind fun ds => k (resA ds) (keepR s.R nx (resA ds)) s.nx
        | _ => none
      | false => none
    | none => none
  | none => none

noncomputable def callN (P : Program) (F0 : Orc) (has : FuncId → Bool) (fuel : Nat) : Nat → Orc
  | 0 => F0
  | m + 1 => fun α f args R nx k => match has f with
    | true => F0 α f args R nx k
    | false => callF P (callN P F0 has fuel m) fuel f args R nx k

/-! ### what it says is so -/

/-- Every run of code c from here ends in a state that k answers with r. -/
def Ends (P : Program) (C : Cg) (n : Nat) (c : Code) (k : Kont α) (r : α) (a : Act) (w : World) : Prop := c.wp P (fun e a' w' => ∃ s', k e s' = some r ∧ Mt C n s' a' w') a w
/-- What x says of code c is so. -/
def Says (P : Program) (C : Cg) (n : Nat) (c : Code) (x : St → Kont α → Option α) : Prop := ∀ (r : α) (s : St) (k : Kont α) (a : Act) (w : World), x s k = some r → Mt C n s a w → Ends P C n c k r a w

theorem condO_ok {c : Operand} {s : St} {x y : St → Option α} (h : condO c s x y = some r) {a : Act} {w : World} (hm : Mt C n s a w) : ∃ (b : Bool) (s' : St), a.eval c = .bool b ∧ Mt C n s' a w ∧ (match b with | true => x s' | false => y s') = some r := by
  unfold condO at h
  split at h
  · rename_i t
    split at h
    case h_2 => cases h
    rename_i b hb
    have hev : a.eval (.tmp t) = .bool b := by
      obtain ⟨E, hh, _, _, ρ, _, hs⟩ := hm
      refine ev_bool hs ?_
      have h1 := hh t _ hb
      show Env.get (E.sub ρ) t = _
      rw [Env.sub_get, h1, Option.map_some, sub_lit]
    refine ⟨b, s.putB t b, hev, hm.putB hb, ?_⟩
    unfold condB at h
    cases b <;> exact h
  · exact ⟨true, s, rfl, hm, h⟩
  · exact ⟨false, s, rfl, hm, h⟩
  · cases h

theorem says_reg (hF : OrcOk P F) (hN : OrcNat F) (id : Nat) (ops : Array Oper) (draw : Bool) : Says (α := α) P C n (.region id ops draw) (exReg P F n id ops draw) := fun r s k a w h hm => by
  unfold exReg at h
  cases draw with
  | false =>
    refine wp_mono (wp_region_lit (rexec_ok hF _ h hm)) fun e a' w' ⟨he, _, s', h1, h2⟩ => ?_
    subst he
    exact ⟨s', h1, h2⟩
  | true =>
    refine wp_mono (dexec_ok hF hN h hm) fun e a' w' ⟨he, _, s', h1, h2⟩ => ?_
    subst he
    exact ⟨s', h1, h2⟩

theorem says_loop {c : Code} {x : St → Kont α → Option α} (hx : Says P C n c x) (fuel : Nat) : Says P C n (.loop c) (exLoop fuel x) := fun r s k a w h hm => by
  have key : ∀ (m : Nat) (s : St) (a : Act) (w : World), loopN x k m s = some r → Mt C n s a w → c.wp P (Exit.then (InL P c fun e a' w' => ∃ s', k e s' = some r ∧ Mt C n s' a' w') fun e a' w' => ∃ s', k e s' = some r ∧ Mt C n s' a' w') a w := by
    intro m
    induction m with
    | zero => intro s a w h; cases h
    | succ m ih =>
      intro s a w h hm
      refine wp_mono (hx r s _ a w h hm) fun e a' w' ⟨s', h1, h2⟩ => ?_
      cases e with
      | normal => exact inL_step (ih s' a' w' h1 h2)
      | _ => exact ⟨s', h1, h2⟩
  exact wp_unroll (key fuel s a w h hm)

theorem exec_ok (hF : OrcOk P F) (hN : OrcNat F) (fuel : Nat) (c : Code) : Says (α := α) P C n c (exec P F n fuel c) := by
  induction c with
  | skip => exact fun r s k a w h hm => wp_skip ⟨s, h, hm⟩
  | region id ops draw => exact says_reg hF hN id ops draw
  | seq x y hx hy =>
    intro r s k a w h hm
    refine wp_seq (wp_mono (hx r s _ a w h hm) fun e a' w' ⟨s', h1, h2⟩ => ?_)
    cases e with
    | normal => exact hy r s' k a' w' h1 h2
    | _ => exact ⟨s', h1, h2⟩
  | cond c x y hx hy =>
    intro r s k a w h hm
    obtain ⟨b, s', he, hm', h'⟩ := condO_ok (show condO c s _ _ = some r from h) hm
    cases b with
    | true => exact wp_cond_true he (hx r s' k a w h' hm')
    | false => exact wp_cond_false he (hy r s' k a w h' hm')
  | block id x hx =>
    intro r s k a w h hm
    refine wp_block (wp_mono (hx r s _ a w h hm) fun e a' w' ⟨s', h1, h2⟩ => ?_)
    cases e with
    | exit id' =>
      simp only [blockK] at h1
      simp only [Exit.inBlock]
      split
      · rename_i he
        subst he
        have hb : Nat.beq id' id' = true := Nat.beq_refl _
        simp only [hb] at h1
        exact ⟨s', h1, h2⟩
      · rename_i he
        have hb : Nat.beq id' id = false := by
          cases hb : Nat.beq id' id with
          | false => rfl
          | true => exact absurd (Nat.eq_of_beq_eq_true hb) he
        simp only [hb] at h1
        exact ⟨s', h1, h2⟩
    | _ => exact ⟨s', h1, h2⟩
  | loop c hc => exact says_loop hc fuel
  | exit i => exact fun r s k a w h hm => wp_exit ⟨s, h, hm⟩
  | ret => exact fun r s k a w h hm => wp_ret ⟨s, h, hm⟩
  | _ => exact fun r s k a w h hm => by cases h

/-! ### functions -/

theorem keepL_sub (nx : Nat) (ids : List Nat) : ∀ R : IRs, List.Sublist (keepL nx ids R) R
  | [] => .slnil
  | p :: R => by
    have ih := keepL_sub nx ids R
    show List.Sublist (Bool.rec (Bool.rec (keepL nx ids R) (p :: keepL nx ids R) (memB p.1 ids)) (p :: R) (Nat.blt p.1 nx)) (p :: R)
    cases Nat.blt p.1 nx with
    | true => exact List.Sublist.refl _
    | false =>
      cases memB p.1 ids with
      | true => exact ih.cons_cons p
      | false => exact ih.cons p

theorem resV_ok {s : St} {E : Env} {ρ : Gh} {rv : ResultVar} {d : AV} (h : resV P s rv = some d) (hh : Hold s.E E) : ResIs P (E.sub ρ) (IRs.res ρ s.R) rv (d.sub ρ) := by
  unfold resV at h
  split at h
  · rename_i t
    refine .tmp ?_
    rw [Env.sub_get, hh t d h]; rfl
  · rename_i t ty
    split at h
    case h_2 => cases h
    rename_i id hp
    have hp' : Env.get (E.sub ρ) t = some (.lit (.pointer (some ⟨ρ.b id, 0, none⟩))) := by
      rw [Env.sub_get, hh t _ hp, Option.map_some, AVq.sub]
    split at h
    case h_2 => cases h
    rename_i T cs hr
    obtain ⟨i, hi, _⟩ := rget_idx hr
    have hres := res_get (ρ := ρ) hi
    split at h
    · rename_i h1
      refine .cell1 i hp' hres (oneB_ok h1) ?_
      rw [List.getElem?_map, h]; rfl
    · split at h
      case h_2 => cases h
      rename_i m hm
      split at h
      case h_2 => cases h
      rename_i hl
      cases h
      rw [sub_agg]
      refine .cellN i hp' hres (manyB_ok hm) ?_
      rw [List.length_map]; exact beqT hl

theorem resV_ltd {s : St} {nx : Nat} {rv : ResultVar} {d : AV} (h : resV P s rv = some d) {E : Env} (hh : Hold s.E E) (hE : E.Ltd nx) (hR : IRs.Ltd nx s.R) : Ltd nx d := by
  unfold resV at h
  split at h
  · rename_i t
    exact hE _ (Env.get_mem (hh t d h))
  · split at h
    case h_2 => cases h
    split at h
    case h_2 => cases h
    rename_i id _ T cs hr
    have hL := rget_ltd hr hR
    split at h
    · exact hL.2 _ (List.mem_of_getElem? h)
    · split at h
      case h_2 => cases h
      split at h
      case h_2 => cases h
      cases h
      exact .agg _ hL.2

theorem resL_ok {s : St} {E : Env} {ρ : Gh} (hh : Hold s.E E) {A : Nat → Prop} {w : World} {tmps : Array Value} (hd : Hd A (IRs.res ρ s.R) w) (hs : Slots A w (E.sub ρ) tmps) : ∀ {l : List ResultVar} {ds : List AV}, resL P s l = some ds →
    ∃ us, (l.mapM (resOne tmps)).run P w = .ok us w ∧ RelL A w (ds.map (AVq.sub ρ)) us
  | [], ds, h => by cases h; exact ⟨[], rfl, RelL.nil⟩
  | x :: l, ds, h => by
    unfold resL at h
    split at h
    case h_2 => cases h
    rename_i d hx
    obtain ⟨ds', h1, h2⟩ := Option.map_eq_some_iff.1 h
    subst h2
    obtain ⟨v, q1, q2⟩ := resV_ok (ρ := ρ) hx hh A w tmps hd hs
    obtain ⟨us, q3, q4⟩ := resL_ok hh hd hs h1
    refine ⟨v :: us, ?_, RelL.cons q2 q4⟩
    rw [List.mapM_cons]
    simp [q1, q3]
theorem resL_ltd {s : St} {nx : Nat} {E : Env} (hh : Hold s.E E) (hE : E.Ltd nx) (hR : IRs.Ltd nx s.R) : ∀ {l : List ResultVar} {ds : List AV}, resL P s l = some ds → ∀ d ∈ ds, Ltd nx d
  | [], ds, h => by cases h; simp
  | x :: l, ds, h => by
    unfold resL at h
    split at h
    case h_2 => cases h
    rename_i d hx
    obtain ⟨ds', h1, h2⟩ := Option.map_eq_some_iff.1 h
    subst h2
    intro d' hd'
    rcases List.mem_cons.1 hd' with rfl | hd'
    · exact resV_ltd hx hh hE hR
    · exact resL_ltd hh hE hR h1 d' hd'
theorem resA_ltd {nx : Nat} {ds : List AV} (h : ∀ d ∈ ds, Ltd nx d) : Ltd nx (resA ds) := by
  unfold resA
  split
  · exact h _ (by simp)
  · exact .tup _ h
theorem resA_rel {ρ : Gh} {A : Nat → Prop} {w : World} {ds : List AV} {us : List Value} (h : RelL A w (ds.map (AVq.sub ρ)) us) : Rel A w ((resA ds).sub ρ) (if h : us.toArray.size = 1 then us.toArray[0] else .tuple us.toArray) := by
  unfold resA
  split
  · rename_i d
    obtain ⟨h1, h2⟩ := h
    match us, h1, h2 with
    | [u], _, h2 => exact h2 0 _ _ rfl rfl
  · rename_i hn
    have hl : us.length = ds.length := by have := h.1; simpa using this
    rw [dif_neg (by
      intro e
      match ds, hn with
      | [], _ => rw [List.size_toArray, hl] at e; cases e
      | [d], hn => exact hn d rfl
      | _ :: _ :: _, _ => rw [List.size_toArray, hl] at e; simp at e), sub_tup]
    exact Rel.tupL h

theorem hold_args : ∀ (l : List AV) (i : Nat) (T : ET) (E : Env), Hold T E → (∀ t d, eget T t = some d → t < i) → Hold (argsT i l T) (argsEnv i l ++ E)
  | [], _, _, _, h, _ => h
  | d :: l, i, T, E, h, hT => by
    have h2 : ∀ t d', eget (eput i d T) t = some d' → t < i + 1 := fun t d' ht => by
      rcases eput_get ht with ⟨rfl, _⟩ | ⟨_, q⟩
      · omega
      · have := hT t d' q; omega
    have := hold_args l (i + 1) (eput i d T) ((i, d) :: E) (h.put i d) h2
    intro t v ht
    have h1 : Env.get (argsEnv (i + 1) l ++ (i, d) :: E) t = some v := this t v ht
    show Env.get ((i, d) :: (argsEnv (i + 1) l ++ E)) t = some v
    have key : ∀ (l : List AV) (j : Nat), i < j → Env.get (argsEnv j l ++ (i, d) :: E) t = Env.get ((i, d) :: (argsEnv j l ++ E)) t := fun l => by
      induction l with
      | nil => intro j _; rfl
      | cons u l ih =>
        intro j hj
        show Env.get ((j, u) :: (argsEnv (j + 1) l ++ (i, d) :: E)) t = Env.get ((i, d) :: (j, u) :: (argsEnv (j + 1) l ++ E)) t
        by_cases h1 : j = t
        · subst h1
          rw [Env.get_hit, Env.get_miss _ _ (by omega), Env.get_hit]
        · rw [Env.get_miss _ _ h1, ih (j + 1) (by omega)]
          by_cases h2 : i = t
          · subst h2; rw [Env.get_hit, Env.get_hit]
          · rw [Env.get_miss _ _ h2, Env.get_miss _ _ h2, Env.get_miss _ _ h1]
    rw [← key l (i + 1) (Nat.lt_succ_self i)]
    exact h1
theorem argsEnv_sub (ρ : Gh) : ∀ (l : List AV) (i : Nat), (argsEnv i l).sub ρ = argsEnv i (l.map (AVq.sub ρ))
  | [], _ => rfl
  | d :: l, i => by show (i, d.sub ρ) :: (argsEnv (i + 1) l).sub ρ = _; rw [argsEnv_sub ρ l]; rfl
theorem argsEnv_mem : ∀ {l : List AV} {i : Nat} {q : Nat × AV}, q ∈ argsEnv i l → q.2 ∈ l
  | d :: l, i, q, h => by
    rcases List.mem_cons.1 h with rfl | h
    · exact List.mem_cons_self
    · exact List.mem_cons_of_mem _ (argsEnv_mem h)

/-- The end of a function. -/
theorem fin_ok {fn : Func} {C : Cx} {ρ : Gh} {nx : Nat} {s : St} {a : Act} {w : World} {k : AV → IRs → Nat → Option α} {e : Exit} (he : e = .normal ∨ e = .ret) (h : ((resL P s fn.results.toList).bind fun ds => k (resA ds) (keepR s.R nx (resA ds)) s.nx) = some r) (hm : Mt ⟨C, ρ, nx⟩ n s a w) :
    ∃ E' σ', Sim C n E' σ' a w ∧ FinQ P C n fn (fun a s => ∃ d R' nx', k d R' nx' = some r ∧ nx ≤ nx' ∧ Ltd nx' d ∧ IRs.Ltd nx' R' ∧ ∃ ρ', Agr nx ρ ρ' ∧ a = d.sub ρ' ∧ List.Perm s (IRs.res ρ' R')) e E' σ' := by
  obtain ⟨E, hh, hE, hR, ρ', ⟨hag, hnx⟩, hsim⟩ := hm
  obtain ⟨ds, h1, h2⟩ := Option.bind_eq_some_iff.1 h
  have hsub : List.Sublist (keepR s.R nx (resA ds)) s.R := keepL_sub _ _ _
  refine ⟨_, _, hsim, fin_of (σ' := IRs.res ρ' (keepR s.R nx (resA ds))) (av := (resA ds).sub ρ') he (hsub.map _) ⟨_, _, _, h2, hnx, resA_ltd (resL_ltd hh hE hR h1), fun q hq => hR q (hsub.subset hq), ρ', hag, rfl, List.Perm.refl _⟩ fun A w' tmps hd hs => ?_⟩
  obtain ⟨us, q1, q2⟩ := resL_ok hh hd hs h1
  refine ⟨_, ?_, resA_rel q2⟩
  show (do let vs ← fn.results.mapM (resOne tmps); pure (if h : vs.size = 1 then vs[0] else .tuple vs) : Sem Value).run P w' = _
  have e1 : fn.results = fn.results.toList.toArray := by simp
  rw [e1, List.mapM_toArray]
  simp [q1]

/-! ### what is done with an answer may be put into what is asked -/

section
variable {β : Type}
theorem gate_nat {ops : Array Oper} {o : Oper} {s : St} {y n : St → Option α} (D : α → Option β) : (gate ops o s y n).bind D = gate ops o s (fun s => (y s).bind D) (fun s => (n s).bind D) := by
  unfold gate
  repeat' split
  all_goals first | rfl | simp_all
theorem pickS_nat {o : Op} {s : St} {f : St → Option α} (D : α → Option β) : (pickS o s f).bind D = pickS o s (fun s => (f s).bind D) := by
  unfold pickS
  repeat' split
  all_goals first | rfl | simp_all
theorem rDo_nat (hN : OrcNat F) {o : Oper} {ih : St → (St → Option α) → Option α} {ih' : St → (St → Option β) → Option β} {k : St → Option α} {D : α → Option β} (hi : ∀ s k, (ih s k).bind D = ih' s (fun s => (k s).bind D)) (s : St) : (rDo P F o ih k s).bind D = rDo P F o ih' (fun s => (k s).bind D) s := by
  unfold rDo
  generalize s.frzL (frzOf s.E o.op) = s1
  obtain ⟨E, R, nx⟩ := s1
  show (stepF o.op P F (evF E) (rget R) R nx (appK o.dst E R nx ih k)).bind D = stepF o.op P F (evF E) (rget R) R nx (appK o.dst E R nx ih' fun s => (k s).bind D)
  rw [stepF_nat D hN]
  congr 1
  funext e
  cases e <;> exact hi ..
theorem rexec_nat (hN : OrcNat F) {ops : Array Oper} (D : α → Option β) : ∀ (l : List Oper) (s : St) (k : St → Option α), (rexec P F n ops l s k).bind D = rexec P F n ops l s (fun s => (k s).bind D)
  | [], s, k => rfl
  | o :: l, s, k => by
    show (rOne P F n ops o (rexec P F n ops l) s k).bind D = rOne P F n ops o (rexec P F n ops l) s (fun s => (k s).bind D)
    unfold rOne
    split
    · rw [gate_nat]
      congr 1
      · funext s1
        obtain ⟨E, R, nx⟩ := s1
        show (opF o.op P F o.dst E R nx (rexec P F n ops l) k).bind D = opF o.op P F o.dst E R nx (rexec P F n ops l) (fun s => (k s).bind D)
        have e1 := opF_eq P F o ⟨E, R, nx⟩ (rexec (α := α) P F n ops l) k
        have e2 := opF_eq P F o ⟨E, R, nx⟩ (rexec (α := β) P F n ops l) (fun s => (k s).bind D)
        dsimp only at e1 e2
        rw [e1, e2, pickS_nat]
        congr 1
        funext s2
        exact rDo_nat hN (fun s k => rexec_nat hN D l s k) s2
      · funext s1
        unfold rNo
        split <;> exact rexec_nat hN D l _ _
    · rfl
theorem dgo_nat (hN : OrcNat F) {ops : Array Oper} {ps : List (Nat × Nat)} (D : α → Option β) : ∀ (l : List Oper) (cs : List Rc) (s : St) (k : List Rc → St → Option α), (dgo P F n ops ps l cs s k).bind D = dgo P F n ops ps l cs s (fun cs s => (k cs s).bind D)
  | [], cs, s, k => rfl
  | o :: l, cs, s, k => by
    show (dOne P F n ops ps o (dgo P F n ops ps l) cs s k).bind D = dOne P F n ops ps o (dgo P F n ops ps l) cs s (fun cs s => (k cs s).bind D)
    unfold dOne
    split
    · rw [gate_nat]
      congr 1
      · funext s1
        obtain ⟨E, R, nx⟩ := s1
        show (lrunK P F o (opSlots ops o) E (inQ (footO ops o E R) R) nx (dK ops ps o cs (footO ops o E R) E R (inQ (footO ops o E R) R) nx (dgo P F n ops ps l) k)).bind D = lrunK P F o (opSlots ops o) E (inQ (footO ops o E R) R) nx (dK ops ps o cs (footO ops o E R) E R (inQ (footO ops o E R) R) nx (dgo P F n ops ps l) (fun cs s => (k cs s).bind D))
        rw [← lrun_nat hN, ← lrun_nat hN, Option.bind_assoc]
        congr 1
        funext x
        unfold dK
        split
        · exact dgo_nat hN D l _ _ _
        · rfl
      · funext s1
        exact dgo_nat hN D l _ _ _
    · rfl
theorem exReg_nat (hN : OrcNat F) (id : Nat) (ops : Array Oper) (draw : Bool) (D : α → Option β) (s : St) (k : Kont α) : (exReg P F n id ops draw s k).bind D = exReg P F n id ops draw s (fun e s => (k e s).bind D) := by
  unfold exReg
  cases draw with
  | false => exact rexec_nat hN D _ _ _
  | true =>
    show (dexec P F n ops s (k .normal)).bind D = dexec P F n ops s (fun s => (k .normal s).bind D)
    unfold dexec
    split
    · split
      · rw [dgo_nat hN D]
        congr 1
        funext cs s'
        split <;> rfl
      · rfl
    · rfl
theorem condO_nat {c : Operand} {s : St} {x y : St → Option α} (D : α → Option β) : (condO c s x y).bind D = condO c s (fun s => (x s).bind D) (fun s => (y s).bind D) := by
  unfold condO
  repeat' split
  all_goals first | rfl | (unfold condB; split <;> rfl) | simp_all
theorem loop_nat {x : St → Kont α → Option α} {x' : St → Kont β → Option β} {D : α → Option β} (hx : ∀ s k, (x s k).bind D = x' s (fun e s => (k e s).bind D)) (k : Kont α) : ∀ (m : Nat) (s : St), (loopN x k m s).bind D = loopN x' (fun e s => (k e s).bind D) m s
  | 0, s => rfl
  | m + 1, s => by
    show (x s (loopK k (loopN x k m))).bind D = x' s (loopK (fun e s => (k e s).bind D) (loopN x' (fun e s => (k e s).bind D) m))
    rw [hx]
    congr 1
    funext e s'
    cases e <;> first | exact loop_nat hx k m s' | rfl
theorem exec_nat (hN : OrcNat F) (fuel : Nat) (D : α → Option β) (c : Code) : ∀ (s : St) (k : Kont α), (exec P F n fuel c s k).bind D = exec P F n fuel c s (fun e s => (k e s).bind D) := by
  induction c with
  | region id ops draw => exact exReg_nat hN id ops draw D
  | seq x y hx hy =>
    intro s k
    show (exec P F n fuel x s (seqK (exec P F n fuel y) k)).bind D = exec P F n fuel x s (seqK (exec P F n fuel y) (fun e s => (k e s).bind D))
    rw [hx]
    congr 1
    funext e s'
    cases e <;> first | exact hy s' k | rfl
  | cond c x y hx hy =>
    intro s k
    show (condO c s (fun s => exec P F n fuel x s k) (fun s => exec P F n fuel y s k)).bind D = condO c s (fun s => exec P F n fuel x s _) (fun s => exec P F n fuel y s _)
    rw [condO_nat]
    congr 1
    · funext s; exact hx s k
    · funext s; exact hy s k
  | block id x hx =>
    intro s k
    show (exec P F n fuel x s (blockK id k)).bind D = exec P F n fuel x s (blockK id (fun e s => (k e s).bind D))
    rw [hx]
    congr 1
    funext e s'
    cases e <;> first | rfl | (simp only [blockK]; split <;> rfl)
  | loop c hc => exact fun s k => loop_nat hc k fuel s
  | _ => exact fun s k => rfl
theorem callF_nat (hN : OrcNat F) (fuel : Nat) : OrcNat (fun α => callF (α := α) P F fuel) := fun α β f args R nx k D => by
  show (callF P F fuel f args R nx k).bind D = callF P F fuel f args R nx _
  unfold callF
  split
  · split
    · split
      · rw [exec_nat hN]
        congr 1
        funext e s
        cases e <;> first | rfl | exact Option.bind_assoc ..
      · rfl
    · rfl
  · rfl
theorem callN_nat {F0 : Orc} {has : FuncId → Bool} (hN : OrcNat F0) (fuel : Nat) : ∀ m : Nat, OrcNat (callN P F0 has fuel m)
  | 0 => hN
  | m + 1 => fun α β f args R nx k D => by
    show (match has f with | true => F0 α f args R nx k | false => callF P (callN P F0 has fuel m) fuel f args R nx k).bind D = _
    show _ = (match has f with | true => F0 β f args R nx _ | false => callF P (callN P F0 has fuel m) fuel f args R nx _)
    cases has f with
    | true => exact hN ..
    | false => exact callF_nat (callN_nat hN fuel m) fuel α β f args R nx k D
end

theorem callF_ok (hF : OrcOk P F) (hN : OrcNat F) (fuel : Nat) : OrcOk P (fun α => callF (α := α) P F fuel) := fun α f args R nx k r h hargs hR => by
  have h : callF P F fuel f args R nx k = some r := h
  unfold callF at h
  split at h
  case h_2 => cases h
  rename_i fn hf
  split at h
  case h_2 => cases h
  rename_i c hb
  split at h
  case h_2 => cases h
  rename_i hc
  rw [Bool.and_eq_true] at hc
  obtain ⟨hl, hnm⟩ := hc
  refine ⟨⟨fn, hf, by simpa using hnm, by rw [hb]; rfl⟩, fun ρ => Fn.of hf hb rfl (by rw [List.length_map]; exact hl) fun C a w ha => ?_⟩
  have hm : Mt ⟨C, ρ, nx⟩ fn.ntmps ⟨argsT 0 args .e, R, nx⟩ a w := by
    refine ⟨argsEnv 0 args, ?_, fun q hq => hargs _ (argsEnv_mem hq), hR, ρ, ⟨.refl _ _, Nat.le_refl _⟩, ?_⟩
    · have := hold_args args 0 .e [] (fun t d ht => by cases t <;> cases ht) (fun t d ht => by cases t <;> cases ht)
      rwa [List.append_nil] at this
    · rw [argsEnv_sub]; exact ha
  refine wp_mono (exec_ok hF hN fuel c r _ _ a w h hm) fun e a' w' ⟨s', h1, h2⟩ => ?_
  cases e with
  | normal => exact fin_ok (.inl rfl) h1 h2
  | ret => exact fin_ok (.inr rfl) h1 h2
  | _ => cases h1

theorem callN_ok {F0 : Orc} {has : FuncId → Bool} (hF : OrcOk P F0) (hN : OrcNat F0) (fuel : Nat) : ∀ m : Nat, OrcOk P (callN P F0 has fuel m)
  | 0 => hF
  | m + 1 => fun α f args R nx k r h hargs hR => by
    change (match has f with | true => F0 α f args R nx k | false => callF P (callN P F0 has fuel m) fuel f args R nx k) = some r at h
    split at h
    · exact hF α f args R nx k r h hargs hR
    · exact callF_ok (callN_ok hF hN fuel m) (callN_nat hN fuel m) fuel α f args R nx k r h hargs hR
end
end Go.Iv
