/- Regions that draw their order: every order comes to the same. Program-independent. -/
import Derived.Test.YtgdahkddhecloaaIw12
set_option linter.unusedSectionVars false
set_option linter.unusedVariables false
set_option linter.unusedSimpArgs false
namespace Go.Iv
variable [U : Uni] [L : UniL]
open Go Go.RowKit

section
variable {P : Program} {n : Nat} {ops : Array Oper}

/-- The chain, by number. -/
theorem Ch.idx {f f' : Fr} {R R' : IRs} {nx nx' : Nat} {os : List Oper} {cs : List Rc} (h : Ch P n ops f R nx os cs f' R' nx') : cs.length = os.length ∧ f' = runF cs (List.replicate cs.length true) f ∧ R' = runR cs (List.replicate cs.length true) R ∧
    ∃ g : Nat → Nat, g 0 = nx ∧ g os.length = nx' ∧ (∀ i, i < os.length → g i ≤ g (i + 1)) ∧ ∀ (i : Nat) o c, os[i]? = some o → cs[i]? = some c → OpFact P n ops o (runF (cs.take i) (List.replicate i true) f) (runR (cs.take i) (List.replicate i true) R) (g i) c (g (i + 1)) := by
  induction h with
  | nil f R nx => exact ⟨rfl, rfl, rfl, fun _ => nx, rfl, rfl, fun i hi => by simp at hi, fun i o c h => by cases h⟩
  | @cons f f' R R' nx nx1 nx' o os c cs h hs ih =>
    obtain ⟨h1, h2, h3, g, g0, g1, g2, g3⟩ := ih
    refine ⟨by simp [h1], by rw [h2]; rfl, by rw [h3]; rfl, fun i => match i with | 0 => nx | i + 1 => g i, rfl, g1, fun i hi => ?_, fun i o' c' q1 q2 => ?_⟩
    · cases i with
      | zero => show nx ≤ g 0; rw [g0]; exact h.le
      | succ i => exact g2 i (by simpa using hi)
    · cases i with
      | zero => cases q1; cases q2; show OpFact P n ops o f R nx c (g 0); rw [g0]; exact h
      | succ i => exact g3 i o' c' q1 q2

theorem mono_g {g : Nat → Nat} {N : Nat} (h : ∀ i, i < N → g i ≤ g (i + 1)) : ∀ i j, i ≤ j → j ≤ N → g i ≤ g j := fun i j hij hj => by
  induction j with
  | zero => have : i = 0 := by omega
            subst this; exact Nat.le_refl _
  | succ j ih =>
    by_cases hi : i = j + 1
    · subst hi; exact Nat.le_refl _
    · exact Nat.le_trans (ih (by omega) (by omega)) (h j (by omega))

/-- how many have not come up -/
def cntF : List Bool → Nat
  | [] => 0
  | b :: bs => (match b with | true => 0 | false => 1) + cntF bs
theorem cntF_set : ∀ {bs : List Bool} {i : Nat}, bs[i]? = some false → cntF bs = cntF (bs.set i true) + 1
  | [], _, h => by cases h
  | b :: bs, 0, h => by
    simp only [List.getElem?_cons_zero, Option.some.injEq] at h
    subst h
    show 1 + cntF bs = (0 + cntF bs) + 1
    omega
  | b :: bs, i + 1, h => by
    have := cntF_set (bs := bs) (i := i) (by simpa using h)
    cases b with
    | true =>
      show 0 + cntF bs = (0 + cntF (bs.set i true)) + 1
      omega
    | false =>
      show 1 + cntF bs = (1 + cntF (bs.set i true)) + 1
      omega
theorem cntF_rep : ∀ N : Nat, cntF (List.replicate N false) = N
  | 0 => rfl
  | N + 1 => by rw [List.replicate_succ]; show 1 + cntF (List.replicate N false) = N + 1; rw [cntF_rep N]; omega
theorem cntF_zero : ∀ {bs : List Bool}, cntF bs = 0 → bs = List.replicate bs.length true
  | [], _ => rfl
  | b :: bs, h => by
    cases b with
    | true => rw [List.length_cons, List.replicate_succ, ← cntF_zero (bs := bs) (by have : 0 + cntF bs = 0 := h; omega)]
    | false => have : 1 + cntF bs = 0 := h; omega
theorem cntF_pos : ∀ {bs : List Bool}, cntF bs ≠ 0 → ∃ i : Nat, bs[i]? = some false ∧ ∀ j, j < i → bs[j]? = some true
  | [], h => absurd rfl h
  | b :: bs, h => by
    cases b with
    | false => exact ⟨0, rfl, fun j hj => by omega⟩
    | true =>
      obtain ⟨i, h1, h2⟩ := cntF_pos (bs := bs) (fun e => h (by show 0 + cntF bs = 0; omega))
      refine ⟨i + 1, h1, fun j hj => ?_⟩
      cases j with
      | zero => rfl
      | succ j => exact h2 j (by omega)

theorem mem_ready {listed : Array Bool} {i : Nat} : i ∈ Region.ready .any ops listed ↔ i < ops.size ∧ listed.getD i true = false ∧ ∃ o, ops[i]? = some o ∧ ∀ e ∈ o.after.toList, Region.binds .any e = true → listed.getD e.on false = true := by
  unfold Region.ready
  simp only [List.mem_filter, List.mem_range, Bool.and_eq_true, Bool.not_eq_true']
  refine and_congr_right fun hi => and_congr_right fun _ => ?_
  rw [Array.getElem?_eq_getElem hi]
  simp only [Option.map_some, Option.getD_some, Option.some.injEq, exists_eq_left']
  rw [Array.all_eq_true']
  constructor
  · intro h e he hb
    have := h e (by simpa using he)
    rw [hb] at this
    simpa using this
  · intro h e he
    cases hb : Region.binds .any e with
    | false => rfl
    | true => simpa using h e (by simpa using he) hb

theorem getD_true {listed : Array Bool} {i : Nat} (hi : i < listed.size) : listed.getD i true = false ↔ listed.toList[i]? = some false := by
  rw [Array.getD_eq_getD_getElem?, Array.getElem?_eq_getElem hi, List.getElem?_eq_getElem (by simpa using hi)]
  simp
theorem getD_false {listed : Array Bool} {i : Nat} : listed.getD i false = true ↔ listed.toList[i]? = some true := by
  rw [Array.getD_eq_getD_getElem?]
  cases h : listed[i]? with
  | none => simp [h]
  | some b => simp [h]

theorem any_ok {C : Cg} {cs : List Rc} {f0 : Fr} {R0 : IRs} {nx0 : Nat} {g : Nat → Nat} {ds : List Deferred} {Q : Exit → Act → World → Prop}
    (hlen : cs.length = ops.size) (g0 : g 0 = nx0) (gn : C.n ≤ nx0) (g2 : ∀ i, i < ops.size → g i ≤ g (i + 1)) (hf : ∀ (i : Nat) o c, ops.toList[i]? = some o → cs[i]? = some c → OpFact P n ops o (runF (cs.take i) (List.replicate i true) f0) (runR (cs.take i) (List.replicate i true) R0) (g i) c (g (i + 1)))
    (hcf : ∀ (i j : Nat) (c d : Rc), j < i → cs[j]? = some c → cs[i]? = some d → CF c d ∨ ∀ bs, Closed ops.toList bs → (∀ o, ops.toList[i]? = some o → Rdy bs o) → bs[j]? = some true)
    (hback : ∀ (i : Nat) o, ops.toList[i]? = some o → ∀ e ∈ o.after.toList, Region.binds .any e = true → e.on < i)
    (hQ : ∀ a w, a.defers = ds → MtS C n (fun i => i < g ops.size) (runF cs (List.replicate cs.length true) f0) (runR cs (List.replicate cs.length true) R0) a w → Q .normal a w) :
    ∀ (fuel : Nat) (listed : Array Bool) (a : Act) (w : World), listed.size = ops.size → cntF listed.toList = fuel → Closed ops.toList listed.toList → a.defers = ds →
      MtS C n (fun x => x < nx0 ∨ ∃ j : Nat, listed.toList[j]? = some true ∧ g j ≤ x ∧ x < g (j + 1)) (runF cs listed.toList f0) (runR cs listed.toList R0) a w → wpAny P .any ops Q fuel listed a w := by
  have hmono := mono_g (N := ops.size) (g := g) g2
  intro fuel
  induction fuel with
  | zero =>
    intro listed a w hs hc hcl hda hm
    have hall := cntF_zero hc
    have hfin : Q .normal a w := by
      refine hQ a w hda ?_
      rw [hall, show listed.toList.length = cs.length from by rw [hlen, ← hs]; simp] at hm
      obtain ⟨E, ρ, q1, q2, q3, q5, q4⟩ := hm
      have hle : ∀ i, (i < nx0 ∨ ∃ j : Nat, (List.replicate cs.length true)[j]? = some true ∧ g j ≤ i ∧ i < g (j + 1)) → i < g ops.size := fun i hi => by
        rcases hi with hi | ⟨j, hj, _, hj3⟩
        · have := hmono 0 ops.size (Nat.zero_le _) (Nat.le_refl _); omega
        · have hj' : j < cs.length := by simpa using (List.getElem?_eq_some_iff.1 hj).1
          have := hmono (j + 1) ops.size (by omega) (Nat.le_refl _); omega
      exact ⟨E, ρ, q1, fun q hq => (q2 q hq).mono hle, q3.mono hle, q5, q4⟩
    refine ⟨?_, hfin⟩
    rw [List.eq_nil_iff_forall_not_mem]
    intro i hi
    obtain ⟨h1, h2, _⟩ := mem_ready.1 hi
    rw [getD_true (by omega), hall, List.getElem?_replicate] at h2
    split at h2 <;> cases h2
  | succ fuel ih =>
    intro listed a w hs hc hcl hda hm
    refine ⟨fun hr => ?_, fun i hi => ?_⟩
    · -- something is ready
      exfalso
      obtain ⟨i, h1, h2⟩ := cntF_pos (bs := listed.toList) (by omega)
      have hil : i < listed.size := by simpa using (List.getElem?_eq_some_iff.1 h1).1
      have hio : i < ops.size := by omega
      have : i ∈ Region.ready .any ops listed := mem_ready.2 ⟨hio, (getD_true hil).2 h1, ops[i], Array.getElem?_eq_getElem hio, fun e he hb => getD_false.2 (h2 _ (hback i ops[i] (by simp [hio]) e he hb))⟩
      rw [hr] at this
      cases this
    · obtain ⟨hio, h2, o, ho, hrd⟩ := mem_ready.1 hi
      have hil : i < listed.size := by omega
      have hbi := (getD_true hil).1 h2
      have hol : ops.toList[i]? = some o := by simpa using ho
      have hRdy : Rdy listed.toList o := fun e he hb => getD_false.1 (hrd e he hb)
      obtain ⟨c, hci⟩ : ∃ c, cs[i]? = some c := ⟨_, List.getElem?_eq_getElem (by omega)⟩
      have fact := hf i o c hol hci
      obtain ⟨s1, s2, s3, s4⟩ := step_sel (cs := cs) (bs := listed.toList) (i := i) (c := c) f0 R0 (by rw [hlen, ← hs]; simp) hci hbi
        (fun j d hji hd hbj => (hcf i j d c hji hd hci).resolve_right fun h => by
          have := h listed.toList hcl (fun o' ho' => by rw [hol] at ho'; cases ho'; exact hRdy)
          rw [hbj] at this; cases this)
        (fun j d hij hd hbj => ((hcf j i c d hij hci hd).resolve_right fun h => by
          have hjo : j < ops.size := by have := (List.getElem?_eq_some_iff.1 hd).1; omega
          have := h listed.toList hcl (fun o' ho' => hcl j o' ho' hbj)
          rw [hbi] at this; cases this).symm)
      have eset : (listed.setIfInBounds i true).toList = listed.toList.set i true := Array.toList_setIfInBounds ..
      have hcl' : Closed ops.toList (listed.toList.set i true) := fun j o' ho' hbj e he hb => by
        have hmono' : ∀ k, listed.toList[k]? = some true → (listed.toList.set i true)[k]? = some true := fun k hk => by
          rw [List.getElem?_set]
          split
          · rename_i hik; rw [if_pos (by simpa using hil)]
          · exact hk
        by_cases hij : i = j
        · subst hij
          rw [hol] at ho'
          cases ho'
          exact hmono' _ (hRdy e he hb)
        · rw [List.getElem?_set_ne hij] at hbj
          exact hmono' _ (hcl j o' ho' hbj e he hb)
      have hpn : ∀ x, (x < nx0 ∨ ∃ j : Nat, listed.toList[j]? = some true ∧ g j ≤ x ∧ x < g (j + 1)) → ¬ (g i ≤ x ∧ x < g (i + 1)) := fun x hx hr => by
        rcases hx with hx | ⟨j, hj, hj2, hj3⟩
        · have := hmono 0 i (Nat.zero_le _) (by omega); omega
        · have hne : j ≠ i := fun e => by rw [e, hbi] at hj; cases hj
          have hjl : j < ops.size := by
            have : j < listed.toList.length := (List.getElem?_eq_some_iff.1 hj).1
            have h3 : listed.toList.length = listed.size := by simp
            omega
          by_cases hlt : j < i
          · have := hmono (j + 1) i (by omega) (by omega); omega
          · have := hmono (i + 1) j (by omega) (by omega); omega
      have hweak : ∀ x, ((x < nx0 ∨ ∃ j : Nat, listed.toList[j]? = some true ∧ g j ≤ x ∧ x < g (j + 1)) ∨ (g i ≤ x ∧ x < g (i + 1))) → (x < nx0 ∨ ∃ j : Nat, (listed.toList.set i true)[j]? = some true ∧ g j ≤ x ∧ x < g (j + 1)) := fun x hx => by
        rcases hx with (hx | ⟨j, hj, hj2⟩) | hx
        · exact .inl hx
        · refine .inr ⟨j, ?_, hj2⟩
          rw [List.getElem?_set]
          split
          · rw [if_pos (by simpa using hil)]
          · exact hj
        · refine .inr ⟨i, ?_, hx⟩
          rw [List.getElem?_set_self (by simpa using hil)]
      have cont : ∀ a' w', a'.defers = ds → MtS C n (fun x => (x < nx0 ∨ ∃ j : Nat, listed.toList[j]? = some true ∧ g j ≤ x ∧ x < g (j + 1)) ∨ (g i ≤ x ∧ x < g (i + 1))) (c.F (runF cs listed.toList f0)) (c.R (runR cs listed.toList R0)) a' w' → wpAny P .any ops Q fuel (listed.setIfInBounds i true) a' w' := fun a' w' hda' hm' => by
        refine ih (listed.setIfInBounds i true) a' w' (by simp [hs]) ?_ (by rw [eset]; exact hcl') hda' ?_
        · rw [eset]
          have := cntF_set hbi
          omega
        · rw [eset, ← s3]
          obtain ⟨E, ρ, q1, q2, q3, q5, q4⟩ := hm'.perm s4
          exact ⟨E, ρ, q1, fun q hq => (q2 q hq).mono hweak, q3.mono hweak, q5, q4⟩
      have hgate : ∀ wn, GateS ops o (runF (cs.take i) (List.replicate i true) f0) wn → Region.wanted o (yielded ops a.tmps) = wn := fun wn hg => by
        unfold GateS at hg
        cases hgd : o.guard with
        | none =>
          rw [hgd] at hg
          simp only at hg
          rw [hg]
          unfold Region.wanted
          rw [hgd]
        | some jw =>
          obtain ⟨j, want⟩ := jw
          rw [hgd] at hg
          obtain ⟨t, hj, hg⟩ := hg
          have hts : t ∈ c.sl := by
            rw [fact.sl]
            unfold opSlots gslot
            rw [hgd]
            simp only [hj]
            exact List.mem_append_right _ (List.mem_singleton.2 rfl)
          obtain ⟨E, ρ, q1, _, _, _, q4⟩ := hm
          obtain ⟨w1, w2⟩ := wants_sub (ρ := ρ) hgd hj (E := E)
          rcases hg with ⟨b, hb, hw⟩ | ⟨vs, hb, hw⟩
          · rw [hw]
            exact Wants.spec q4.slots (w1 b (q1 _ _ (by rw [s1 t hts]; exact hb)))
          · rw [hw]
            exact Wants.spec q4.slots (w2 vs (q1 _ _ (by rw [s1 t hts]; exact hb)))
      unfold wpOp
      simp only [ho]
      rcases fact.run with ⟨hg, hv, hef⟩ | ⟨hg, hy⟩
      · rw [if_neg (by rw [hgate _ hg]; exact Bool.false_ne_true)]
        obtain ⟨E, ρ, q1, q2, q3, q5, q4⟩ := hm
        have hR : c.R (runR cs listed.toList R0) = runR cs listed.toList R0 := by unfold Rc.R; rw [hef]
        refine cont _ _ (by rw [← hda]; cases o.dst <;> rfl) ?_
        rw [hR]
        cases hdo : o.dst with
        | none => exact ⟨E, ρ, fun t d ht => q1 t d (by unfold Rc.F at ht; rw [fact.dst, hdo] at ht; simpa using ht), fun q hq => (q2 q hq).mono fun _ h => .inl h, q3.mono fun _ h => .inl h, q5, q4⟩
        | some t =>
          refine ⟨(t, .lit undef) :: E, ρ, fun s d hsd => ?_, fun q hq => ?_, q3.mono fun _ h => .inl h, q5, ?_⟩
          · unfold Rc.F at hsd
            rw [fact.dst, hdo, hv] at hsd
            by_cases hts : t = s
            · subst hts
              rw [if_pos rfl] at hsd
              cases hsd
              exact Env.get_hit _ _ _
            · rw [if_neg (fun e => hts (Option.some.inj e))] at hsd
              rw [Env.get_miss _ _ hts]
              exact q1 s d hsd
          · rcases List.mem_cons.1 hq with rfl | hq
            · exact .lit _
            · exact (q2 q hq).mono fun _ h => .inl h
          · have hdn := fact.dn
            rw [hdo] at hdn
            have := q4.put (av := .lit undef) (v := undef) hdn (.lit _)
            show Sim C.C n ((t, AVq.sub ρ (.lit undef)) :: E.sub ρ) _ _ _
            rw [sub_lit]
            exact this
      · rw [if_pos (hgate _ hg)]
        refine .inl ?_
        have hle : locE (runF cs listed.toList f0) c.sl = locE (runF (cs.take i) (List.replicate i true) f0) c.sl := locE_congr s1
        obtain ⟨E, ρ, q1, q2, q3, q5, q4⟩ := hm
        have hids := fact.ids (fun x => x < nx0 ∨ ∃ j : Nat, listed.toList[j]? = some true ∧ g j ≤ x ∧ x < g (j + 1)) (fun t ht d hd => by
          rw [← s1 t ht] at hd
          exact q2 _ (Env.get_mem (q1 t d hd))) (by rw [← s2]; exact fun q hq => q3 q (List.mem_filter.1 hq).1)
        exact loc_wp (nx := g i) (nx' := g (i + 1)) (by have := hmono 0 i (Nat.zero_le _) (by omega); omega) ⟨E, ρ, q1, q2, q3, q5, q4⟩ fact.dst fact.dn fact.wr (by rw [hle, s2]; exact hy) hpn fact.lv (by rw [s2]; exact fact.lin) fact.lo hids.1 hids.2 fun a' w' hd' hm' => cont a' w' (hd'.trans hda) hm'

theorem dexec_ok {α : Type} {r : α} {F : Orc} {C : Cg} {s : St} {a : Act} {w : World} {id : Nat} {k : St → Option α} (hF : OrcOk P F) (hN : OrcNat F) (h : dexec P F n ops s k = some r) (hm : Mt C n s a w) :
    (Code.region id ops true).wp P (fun e a' w' => e = .normal ∧ a'.defers = a.defers ∧ ∃ s', k s' = some r ∧ Mt C n s' a' w') a w := by
  unfold dexec at h
  split at h
  case h_2 => cases h
  rename_i hb
  simp only [Bool.and_eq_true] at hb
  split at h
  case h_2 => cases h
  rename_i ps hps
  obtain ⟨E, hh, hE, hR, ρ, hag, hsim⟩ := hm
  obtain ⟨cs, s', f', q1, q2, q3⟩ := dgo_ok hF hN ops.toList (f := eget s.E) h (fun t d h => h) (fun t d hd => Env.ev_ltd (x := .tmp t) hE (hh t d hd)) hR
  rw [List.nil_append] at q1
  split at q1
  case h_2 => cases q1
  rename_i hpo
  obtain ⟨l1, l2, l3, g, g0, g1, g2, g3⟩ := q2.idx
  have hN : ops.toList.length = ops.size := by simp
  refine wp_region_any hb.1 ?_
  refine any_ok (C := C) (cs := cs) (f0 := eget s.E) (R0 := s.R) (nx0 := s.nx) (g := g) (ds := a.defers) (by rw [l1, hN]) g0 hag.2 (by rw [← hN]; exact g2) g3 (fun i j c d hji hc hd => plan_cf hps hpo (fun i c hc => by
      obtain ⟨o, ho⟩ : ∃ o, ops.toList[i]? = some o := ⟨_, List.getElem?_eq_getElem (by rw [← l1]; exact (List.getElem?_eq_some_iff.1 hc).1)⟩
      have := g3 i o c ho hc
      exact ⟨o, ho, this.dst, this.sl, this.ef, this.wr⟩) hji hc hd) (fun i o ho e he hbe => by have := backB_ok hb.2 i o ho e he hbe; omega) (fun a' w' hd' hm' => ?_) ops.size (Array.replicate ops.size false) a _ (by simp) (by rw [Array.toList_replicate, cntF_rep]) (fun i o _ hbi => ?_) rfl ?_
  · refine ⟨rfl, hd', s', q1, ?_⟩
    rw [← l2, ← l3] at hm'
    obtain ⟨E', ρ', p1, p2, p3, p5, p4⟩ := hm'
    rw [hN] at g1
    rw [g1] at p2 p3
    exact ⟨E', fun t d hd => p1 t d (q3 t d hd), p2, p3.ltd, ρ', ⟨p5, by have := mono_g (N := ops.toList.length) g2 0 ops.toList.length (Nat.zero_le _) (Nat.le_refl _); rw [g0, hN, g1] at this; have h7 := hag.2; omega⟩, p4⟩
  · rw [Array.toList_replicate, List.getElem?_replicate] at hbi
    split at hbi <;> cases hbi
  · have nF : ∀ (cs : List Rc) (n : Nat) (f : Fr), runF cs (List.replicate n false) f = f := fun cs => by
      induction cs with
      | nil => intro n f; rfl
      | cons d cs ih =>
        intro n f
        cases n with
        | zero => rfl
        | succ n => rw [List.replicate_succ]; exact ih n f
    have nR : ∀ (cs : List Rc) (n : Nat) (R : IRs), runR cs (List.replicate n false) R = R := fun cs => by
      induction cs with
      | nil => intro n f; rfl
      | cons d cs ih =>
        intro n f
        cases n with
        | zero => rfl
        | succ n => rw [List.replicate_succ]; exact ih n f
    rw [Array.toList_replicate, nF, nR]
    exact ⟨E, ρ, hh, fun q hq => Lts.mono (hE q hq) fun i hi => .inl hi, (IRs.Lts.mono hR.lts fun i hi => .inl hi), hag.1, hsim.drew⟩
end
end Go.Iv
