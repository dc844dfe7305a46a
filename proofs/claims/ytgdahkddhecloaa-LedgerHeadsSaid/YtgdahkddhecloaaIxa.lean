/- Regions that come to one Bool. Program-independent. -/
import Derived.Test.YtgdahkddhecloaaIw15
set_option linter.unusedSectionVars false
set_option linter.unusedVariables false
set_option linter.unusedSimpArgs false
namespace Go.Iv
variable [U : Uni] [L : UniL]
open Go Go.RowKit

theorem eputN_get2 (d : AV) : ∀ (m : Nat) (T : ET) (k s : Nat), k < 2 ^ m - 1 → eget (eputN d m T k) s = if k = s then some d else eget T s
  | 0, T, k, s, h => by simp at h
  | m + 1, T, k, s, h => by
    have hp : 2 ^ (m + 1) = 2 * 2 ^ m := by rw [Nat.pow_succ]; omega
    rw [eputN_s, eget_vlr T s]
    by_cases hk : k = 0
    · rw [if_pos hk, eget_n]
      subst hk
      by_cases hs : s = 0
      · rw [if_pos hs, if_pos hs.symm]
      · have h0 : ¬ (0 = s) := fun e => hs e.symm
        rw [if_neg h0, if_neg hs]
        split <;> simp_all
    · rw [if_neg hk]
      by_cases hk2 : (k - 1) % 2 = 0
      · rw [if_pos hk2, eget_n]
        by_cases hs : s = 0
        · rw [if_pos hs, if_pos hs, if_neg (by omega)]
        · rw [if_neg hs, if_neg hs]
          by_cases hs2 : (s - 1) % 2 = 0
          · rw [if_pos hs2, if_pos hs2, eputN_get2 d m T.l _ _ (by omega)]
            by_cases hks : k = s
            · rw [if_pos hks, if_pos (by omega)]
            · rw [if_neg hks, if_neg (by omega)]
          · rw [if_neg hs2, if_neg hs2, if_neg (fun e => hs2 (by rw [← e]; exact hk2))]
      · rw [if_neg hk2, eget_n]
        by_cases hs : s = 0
        · rw [if_pos hs, if_pos hs, if_neg (by omega)]
        · rw [if_neg hs, if_neg hs]
          by_cases hs2 : (s - 1) % 2 = 0
          · rw [if_pos hs2, if_pos hs2, if_neg (fun e => hk2 (by rw [e]; exact hs2))]
          · rw [if_neg hs2, if_neg hs2, eputN_get2 d m T.r _ _ (by omega)]
            by_cases hks : k = s
            · rw [if_pos hks, if_pos (by omega)]
            · rw [if_neg hks, if_neg (by omega)]
theorem eput_get2 {t s : Nat} {d : AV} {T : ET} (h : t < 4095) : eget (eput t d T) s = if t = s then some d else eget T s := eputN_get2 d 12 T t s h

/-- Function f leaves what is owned as it is. -/
def PureF (F : Orc) (f : FuncId) : Prop := ∀ args R nx d R' nx', F (AV × IRs × Nat) f args R nx (fun d R nx => some (d, R, nx)) = some (d, R', nx') → R' = R
/-- operations that make nothing and write nothing; they call fs at most -/
noncomputable def okOp (fs : List Nat) : Op → Bool
  | .move _ => true
  | .assign _ => true
  | .pick c _ _ => match c with
    | .tmp t => Nat.blt t 4095
    | _ => true
  | .binOp _ _ _ _ _ => true
  | .unOp _ _ _ => true
  | .fieldAddr _ _ _ => true
  | .indexAddr _ _ _ => true
  | .index _ _ _ => true
  | .load _ _ => true
  | .nilCheck _ => true
  | .convert _ _ _ => true
  | .extract _ _ => true
  | .call c => match c.callee with
    | .value (.func f) => memB f fs && !L.fz f
    | .builtin .len => true
    | .builtin .max => true
    | .builtin .min => true
    | _ => false
  | _ => false
noncomputable def okDst : Option Nat → Bool
  | some t => Nat.blt t 4095
  | none => true

section
variable {P : Program} {F : Orc} {n : Nat} {fs : List Nat}
theorem okOp_frz {E : ET} {o : Op} (h : okOp fs o = true) : frzOf E o = [] := by
  cases o <;> first | rfl | (cases h; done) | skip
  case call c =>
    unfold okOp at h
    unfold frzOf
    dsimp only at h ⊢
    split at h
    · rename_i f hf
      rw [Bool.and_eq_true, Bool.not_eq_true'] at h
      rw [hf]
      dsimp only
      rw [h.2]
    · rename_i hc; rw [hc]
    · rename_i hc; rw [hc]
    · rename_i hc; rw [hc]
    · cases h
theorem pureV {g : (K : AV → Option Eff) → Option Eff} {g0 : Option AV} {e : Eff} (hg : g (fun d => some (.val d)) = g0.bind fun d => some (.val d)) (h : g (pureK some) = some e) : ∃ d, e = .val d := by
  have h : g (fun d => some (.val d)) = some e := h
  rw [hg] at h
  obtain ⟨d, _, h2⟩ := Option.bind_eq_some_iff.1 h
  cases h2
  exact ⟨d, rfl⟩
theorem okOp_step (hN : OrcNat F) (hp : ∀ f ∈ fs, PureF F f) {o : Op} {E : ET} {rd : Nat → Option IR} {R : IRs} {nx : Nat} {e : Eff} (ho : okOp fs o = true) (h : stepF o P F (evF E) rd R nx some = some e) : ∃ d nx', e = .all d R nx' ∨ e = .val d := by
  have fin : (∃ d, e = .val d) → ∃ d nx', e = Eff.all d R nx' ∨ e = .val d := fun ⟨d, h⟩ => ⟨d, 0, .inr h⟩
  have fb : ∀ {x : Option AV}, x.bind (pureK some) = some e → ∃ d, e = .val d := fun {x} h => by
    obtain ⟨d, _, h2⟩ := Option.bind_eq_some_iff.1 h
    cases h2
    exact ⟨d, rfl⟩
  cases o <;> first | (cases ho; done) | exact fin (fb h) | skip
  case pick c a b =>
    have h : stPic c a b P F (evF E) rd R nx some = some e := h
    unfold stPic at h
    split at h
    · exact fin (fb h)
    · exact fin (fb h)
    · cases h
  case binOp b T x y t => exact fin (pureV (binV_nat (K := some) (fun d => some (Eff.val d))).symm h)
  case unOp b T x => exact fin (pureV (unV_nat (K := some) (fun d => some (Eff.val d))).symm h)
  case fieldAddr T x i => exact fin (pureV (fldV_nat (K := some) (fun d => some (Eff.val d))).symm h)
  case indexAddr T x y => exact fin (pureV (idxV_nat (K := some) (fun d => some (Eff.val d))).symm h)
  case index T x y => exact fin (pureV (ixaV_nat (K := some) (fun d => some (Eff.val d))).symm h)
  case load T x => exact fin (pureV (ldV_nat (K := some) (fun d => some (Eff.val d))).symm h)
  case nilCheck x => exact fin (pureV (nilV_nat (K := some) (fun d => some (Eff.val d))).symm h)
  case convert T T' x => exact fin (pureV (cnvV_nat (K := some) (fun d => some (Eff.val d))).symm h)
  case extract x i => exact fin (pureV (extV_nat (K := some) (fun d => some (Eff.val d))).symm h)
  case call c =>
    have h : stCal c P F (evF E) rd R nx some = some e := h
    unfold stCal at h
    unfold okOp at ho
    dsimp only at ho
    split at ho
    · rename_i f hf
      rw [hf] at h
      rw [Bool.and_eq_true] at ho
      have h : calE F (evF E) R nx (some (.fn (.func f) [])) c.args.toList some = some e := h
      unfold calE at h
      dsimp only at h
      obtain ⟨xs, _, h2⟩ := Option.bind_eq_some_iff.1 h
      have h3 := hN (AV × IRs × Nat) Eff f (xs ++ []) R nx (fun d R nx => some (d, R, nx)) (fun x => some (.all x.1 x.2.1 x.2.2))
      have h3' : (F (AV × IRs × Nat) f (xs ++ []) R nx (fun d R nx => some (d, R, nx))).bind (fun x => some (.all x.1 x.2.1 x.2.2)) = some e := h3.trans h2
      obtain ⟨⟨d, R', nx'⟩, h4, h5⟩ := Option.bind_eq_some_iff.1 h3'
      have h6 := hp f (memB_iff.1 ho.1) _ _ _ _ _ _ h4
      subst h6
      cases h5
      exact ⟨d, nx', .inl rfl⟩
    · rename_i hc
      rw [hc] at h
      have h : stBui .len c.args c.argTypes P (evF E) rd nx some = some e := h
      unfold stBui at h
      dsimp only at h
      split at h
      · exact fin (pureV (lenV_nat (K := some) (fun d => some (Eff.val d))).symm h)
      · cases h
    · rename_i hc
      rw [hc] at h
      have h : stBui .max c.args c.argTypes P (evF E) rd nx some = some e := h
      unfold stBui at h
      dsimp only at h
      split at h
      · exact fin (pureV (mnV_nat (K := some) (fun d => some (Eff.val d))).symm h)
      · cases h
    · rename_i hc
      rw [hc] at h
      have h : stBui .min c.args c.argTypes P (evF E) rd nx some = some e := h
      unfold stBui at h
      dsimp only at h
      split at h
      · exact fin (pureV (mnV_nat (K := some) (fun d => some (Eff.val d))).symm h)
      · cases h
    · cases ho

/-- what stays -/
def Stay (l : List Oper) (s s0 : St) : Prop := s0.R = s.R ∧ ∀ u d, (∀ o ∈ l, o.dst ≠ some u) → eget s.E u = some d → eget s0.E u = some d
theorem putB_get {s : St} {t : Nat} {b : Bool} (ht : t < 4095) (h : eget s.E t = some (.lit (.bool b))) {u : Nat} {d : AV} (hu : eget s.E u = some d) : eget (s.putB t b).E u = some d := by
  show eget (eput t (.b b) s.E) u = _
  rw [eput_get2 ht]
  split
  · rename_i e; subst e; rw [h] at hu; exact hu
  · exact hu
theorem rexec_stay (hN : OrcNat F) (hp : ∀ f ∈ fs, PureF F f) {ops : Array Oper} (hops : ∀ o ∈ ops.toList, okDst o.dst = true) : ∀ (l : List Oper) {s s0 : St}, (∀ o ∈ l, okOp fs o.op = true ∧ okDst o.dst = true) → rexec P F n ops l s some = some s0 → Stay l s s0
  | [], s, s0, _, h => by cases h; exact ⟨rfl, fun u d _ hu => hu⟩
  | o :: l, s, s0, hl, h => by
    have ho := hl o List.mem_cons_self
    have hl' := fun o' h' => hl o' (List.mem_cons_of_mem _ h')
    change rOne P F n ops o (rexec P F n ops l) s some = some s0 at h
    unfold rOne at h
    split at h
    case h_2 => cases h
    have putG : ∀ {s2 : St} {d : AV} {nx' : Nat}, rexec P F n ops l ⟨putO o.dst d s2.E, s2.R, nx'⟩ some = some s0 → s2.R = s.R → (∀ u d, eget s.E u = some d → eget s2.E u = some d) → Stay (o :: l) s s0 := fun {s2 d nx'} h1 h2 h3 => by
      obtain ⟨q1, q2⟩ := rexec_stay hN hp hops l hl' h1
      refine ⟨q1.trans h2, fun u d' hu hd => q2 u d' (fun o' h' => hu o' (List.mem_cons_of_mem _ h')) ?_⟩
      show eget (putO o.dst d s2.E) u = some d'
      have hne := hu o List.mem_cons_self
      have hod := ho.2
      unfold putO
      split
      · exact h3 u d' hd
      · rename_i t ht
        rw [ht] at hod hne
        rw [eput_get2 (by simpa [okDst] using hod), if_neg (fun e => hne (by rw [e]))]
        exact h3 u d' hd
    have yes : ∀ s1 : St, rYes P F o (rexec P F n ops l) some s1 = some s0 → s1.R = s.R → (∀ u d, eget s.E u = some d → eget s1.E u = some d) → Stay (o :: l) s s0 := fun s1 h1 h2 h3 => by
      obtain ⟨E1, R1, nx1⟩ := s1
      have h1 : opF o.op P F o.dst E1 R1 nx1 (rexec P F n ops l) some = some s0 := h1
      have e1 := opF_eq P F o ⟨E1, R1, nx1⟩ (rexec (α := St) P F n ops l) some
      dsimp only at e1
      rw [e1] at h1
      have go : ∀ s2 : St, rDo P F o (rexec P F n ops l) some s2 = some s0 → s2.R = s.R → (∀ u d, eget s.E u = some d → eget s2.E u = some d) → Stay (o :: l) s s0 := fun s2 g1 g2 g3 => by
        unfold rDo at g1
        rw [okOp_frz ho.1] at g1
        obtain ⟨E2, R2, nx2⟩ := s2
        have g1 : stepF o.op P F (evF E2) (rget R2) R2 nx2 (appK o.dst E2 R2 nx2 (rexec P F n ops l) some) = some s0 := g1
        have g4 : (stepF o.op P F (evF E2) (rget R2) R2 nx2 some).bind (appK o.dst E2 R2 nx2 (rexec P F n ops l) some) = some s0 := (stepF_nat _ hN ..).trans g1
        obtain ⟨e, g5, g6⟩ := Option.bind_eq_some_iff.1 g4
        obtain ⟨d, nx', he⟩ := okOp_step hN hp ho.1 g5
        rcases he with he | he
        · subst he; exact putG (s2 := ⟨E2, R2, nx2⟩) g6 g2 g3
        · subst he; exact putG (s2 := ⟨E2, R2, nx2⟩) g6 g2 g3
      unfold pickS at h1
      split at h1
      · rename_i t a b hop
        have ht : t < 4095 := by
          have := ho.1
          rw [hop] at this
          simpa [okOp, Nat.blt_eq] using this
        split at h1
        · rename_i b hb
          split at h1
          · exact go _ h1 h2 fun u d hu => putB_get (s := ⟨E1, R1, nx1⟩) ht hb (h3 u d hu)
          · exact go _ h1 h2 fun u d hu => putB_get (s := ⟨E1, R1, nx1⟩) ht hb (h3 u d hu)
        · cases h1
      · exact go _ h1 h2 h3
    have no : ∀ s1 : St, rNo o.dst (rexec P F n ops l) some s1 = some s0 → s1.R = s.R → (∀ u d, eget s.E u = some d → eget s1.E u = some d) → Stay (o :: l) s s0 := fun s1 h1 h2 h3 => by
      have : rNo o.dst (rexec P F n ops l) some s1 = rexec P F n ops l ⟨putO o.dst (.lit undef) s1.E, s1.R, s1.nx⟩ some := by
        unfold rNo putO
        cases o.dst <;> rfl
      rw [this] at h1
      exact putG (s2 := s1) h1 h2 h3
    unfold gate at h
    split at h
    · exact yes s h rfl fun _ _ h => h
    · rename_i j want hg
      split at h
      · cases h
      · rename_i t hj
        have ht : t < 4095 := by
          obtain ⟨o', ho', hd'⟩ := Option.bind_eq_some_iff.1 hj
          have hm : o' ∈ ops.toList := Array.mem_toList_iff.2 (Array.mem_of_getElem? ho')
          have := hops o' hm
          rw [hd'] at this
          simpa [okDst, Nat.blt_eq] using this
        split at h
        · rename_i b hb
          split at h
          · split at h
            · exact yes _ h rfl fun u d hu => putB_get ht hb hu
            · exact no _ h rfl fun u d hu => putB_get ht hb hu
          · split at h
            · exact no _ h rfl fun u d hu => putB_get ht hb hu
            · exact yes _ h rfl fun u d hu => putB_get ht hb hu
        · exact no _ h rfl fun _ _ h => h
        · cases h

/-- the region writes nothing that is known, but t -/
noncomputable def regB (fs : List Nat) (t : Nat) (E : ET) (ops : List Oper) : Bool := Nat.blt t 4095 && ops.all fun o => okOp fs o.op && okDst o.dst && match o.dst with
  | some u => Nat.beq u t || match eget E u with
    | none => true
    | some _ => false
  | none => true
noncomputable def rbK (t : Nat) (s : St) : Option Bool := match eget s.E t with
  | some (.lit (.bool b)) => some b
  | _ => none
/-- A region of pure operations that comes to a Bool in slot t. -/
noncomputable def exRegB {α : Type} (P : Program) (F : Orc) (n : Nat) (fs : List Nat) (t : Nat) (ops : Array Oper) (s : St) (k : Kont α) : Option α := match regB fs t s.E ops.toList with
  | true => match rexec (α := Bool) P F n ops ops.toList s (rbK t) with
    | some b => k .normal ⟨eput t (.b b) s.E, s.R, s.nx⟩
    | none => none
  | false => none
theorem Env.filter_get {T : ET} : ∀ (E : Env) (u : Nat) (d : AV), Env.get (E.filter fun p => @decide (eget T p.1 = some p.2) (Classical.propDecidable _)) u = some d → eget T u = some d
  | [], _, _, h => by cases h
  | (k, v) :: E, u, d, h => by
    by_cases hk : eget T k = some v
    · rw [List.filter_cons, if_pos (by simp [hk])] at h
      by_cases hku : k = u
      · subst hku
        rw [Env.get_hit] at h
        cases h
        exact hk
      · rw [Env.get_miss _ _ hku] at h
        exact Env.filter_get E u d h
    · rw [List.filter_cons, if_neg (by simp [hk])] at h
      exact Env.filter_get E u d h
theorem Env.filter_hold {T : ET} : ∀ (E : Env) (u : Nat) (d : AV), eget T u = some d → E.get u = some d → Env.get (E.filter fun p => @decide (eget T p.1 = some p.2) (Classical.propDecidable _)) u = some d
  | [], _, _, _, h => by cases h
  | (k, v) :: E, u, d, ht, h => by
    by_cases hku : k = u
    · subst hku
      rw [Env.get_hit] at h
      cases h
      rw [List.filter_cons, if_pos (by simp [ht])]
      exact Env.get_hit _ _ _
    · rw [Env.get_miss _ _ hku] at h
      rw [List.filter_cons]
      split
      · rw [Env.get_miss _ _ hku]; exact Env.filter_hold E u d ht h
      · exact Env.filter_hold E u d ht h
theorem says_regB {α : Type} {C : Cg} (hF : OrcOk P F) (hN : OrcNat F) (hp : ∀ f ∈ fs, PureF F f) (id t : Nat) (ops : Array Oper) : Says (α := α) P C n (.region id ops false) (exRegB P F n fs t ops) := fun r s k a w h hm => by
  unfold exRegB at h
  split at h
  case h_2 => cases h
  rename_i hrb
  split at h
  case h_2 => cases h
  rename_i b hb
  unfold regB at hrb
  rw [Bool.and_eq_true, Nat.blt_eq] at hrb
  obtain ⟨ht, hall⟩ := hrb
  have hall : ∀ o ∈ ops.toList, (okOp fs o.op = true ∧ okDst o.dst = true) ∧ ∀ u, o.dst = some u → u = t ∨ eget s.E u = none := fun o ho => by
    have h1 := List.all_eq_true.1 hall o ho
    rw [Bool.and_eq_true, Bool.and_eq_true] at h1
    refine ⟨h1.1, fun u hu => ?_⟩
    have h2 := h1.2
    rw [hu] at h2
    dsimp only at h2
    rw [Bool.or_eq_true] at h2
    rcases h2 with h2 | h2
    · exact .inl (beqT h2)
    · right
      split at h2
      · assumption
      · cases h2
  have hnat := rexec_nat hN (P := P) (n := n) (ops := ops) (rbK t) ops.toList s some
  have hb' : (rexec P F n ops ops.toList s some).bind (rbK t) = some b := hnat.trans hb
  obtain ⟨s0, h1, h2⟩ := Option.bind_eq_some_iff.1 hb'
  obtain ⟨q1, q2⟩ := rexec_stay hN hp (fun o ho => (hall o ho).1.2) ops.toList (fun o ho => (hall o ho).1) h1
  have hend : Ends P C n (.region id ops false) (fun e s' => match e with
    | .normal => some s'
    | _ => none) s0 a w := by
    refine wp_mono (wp_region_lit (rexec_ok hF _ h1 hm)) fun e a' w' ⟨he, _, s', h3, h4⟩ => ?_
    subst he
    exact ⟨s', h3, h4⟩
  refine wp_mono hend fun e a' w' ⟨s', h3, h4⟩ => ?_
  cases e <;> first | (cases h3; done) | skip
  have h3 : some s' = some s0 := h3
  cases h3
  refine ⟨_, h, ?_⟩
  have hbt : eget s0.E t = some (.b b) := by
    unfold rbK at h2
    split at h2
    · rename_i b' hb'; cases h2; exact hb'
    · cases h2
  obtain ⟨E, hh, hE, hR, ρ, hag, hsim⟩ := hm
  obtain ⟨E0, hh0, hE0, hR0, ρ0, hag0, hsim0⟩ := h4
  let E1 : Env := (t, .b b) :: E.filter fun p => @decide (eget s.E p.1 = some p.2) (Classical.propDecidable _)
  have hkey : ∀ u d, E1.get u = some d → eget s0.E u = some d := fun u d hu => by
    by_cases htu : t = u
    · subst htu
      rw [Env.get_hit] at hu
      cases hu
      exact hbt
    · rw [Env.get_miss _ _ htu] at hu
      have h5 := Env.filter_get E u d hu
      refine q2 u d (fun o ho hd => ?_) h5
      rcases (hall o ho).2 u hd with h6 | h6
      · exact htu h6.symm
      · rw [h5] at h6; cases h6
  refine ⟨E1, fun u d hu => ?_, Env.cons_ltd (fun p hp => hE p (List.mem_filter.1 hp).1) (.lit _), hR, ρ0, ⟨hag0.1, hag.2⟩, ?_⟩
  · have hu : eget (eput t (.b b) s.E) u = some d := hu
    rw [eput_get2 ht] at hu
    split at hu
    · rename_i e; rw [← e, ← Option.some.inj hu]; exact Env.get_hit _ _ _
    · rename_i e
      show Env.get ((t, _) :: _) u = _
      rw [Env.get_miss _ _ e]
      exact Env.filter_hold E u d hu (hh u d hu)
  · rw [q1] at hsim0
    refine ⟨hsim0.defers, hsim0.size, fun u av hu => ?_, hsim0.good⟩
    rw [Env.sub_get] at hu
    obtain ⟨d, hd, rfl⟩ := Option.map_eq_some_iff.1 hu
    exact hsim0.slots u _ (by rw [Env.sub_get, hh0 u d (hkey u d hd)]; rfl)
end
end Go.Iv
