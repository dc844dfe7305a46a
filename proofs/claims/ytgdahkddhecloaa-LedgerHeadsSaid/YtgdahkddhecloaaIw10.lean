/- Regions that draw their order: one operation, seen by itself. Program-independent. -/
import Derived.Test.YtgdahkddhecloaaIw9
set_option linter.unusedSectionVars false
set_option linter.unusedVariables false
set_option linter.unusedSimpArgs false
namespace Go.Iv
variable [U : Uni] [L : UniL]
open Go Go.RowKit

def IR.Lts (p : Nat → Prop) : IR → Prop
  | .box _ cs => ∀ c ∈ cs, Iv.Lts p c
  | .row _ _ => True
def IRs.Lts (p : Nat → Prop) (R : IRs) : Prop := ∀ q ∈ R, p q.1 ∧ q.2.Lts p
theorem IR.Lts.mono {p q : Nat → Prop} {r : IR} (h : r.Lts p) (hn : ∀ i, p i → q i) : r.Lts q := by
  cases r with
  | box T cs => exact fun c hc => (h c hc).mono hn
  | row t l => trivial
theorem IRs.Lts.mono {p q : Nat → Prop} {R : IRs} (h : IRs.Lts p R) (hn : ∀ i, p i → q i) : IRs.Lts q R := fun x hx => ⟨hn _ (h x hx).1, (h x hx).2.mono hn⟩
theorem IRs.Lts.res {p : Nat → Prop} {R : IRs} {ρ ρ' : Gh} (h : IRs.Lts p R) (ha : Ags p ρ ρ') : IRs.res ρ R = IRs.res ρ' R := List.map_congr_left fun q hq => by
  obtain ⟨h1, h2⟩ := h q hq
  obtain ⟨i, r⟩ := q
  cases r with
  | box T cs => simp only [IR.res]; rw [(ha i h1).2, Iv.Lts.subL h2 ha]
  | row t l => simp only [IR.res]; rw [(ha i h1).1]
theorem IRs.Lts.perm {p : Nat → Prop} {R R' : IRs} (h : IRs.Lts p R) (hp : List.Perm R R') : IRs.Lts p R' := fun q hq => h q (hp.mem_iff.2 hq)
theorem IRs.Ltd.lts {n : Nat} {R : IRs} (h : IRs.Ltd n R) : IRs.Lts (fun i => i < n) R := fun q hq => ⟨(h q hq).1, by
  have := (h q hq).2
  cases hr : q.2 with
  | box T cs => rw [hr] at this; exact this
  | row t l => trivial⟩
theorem IRs.Lts.ltd {n : Nat} {R : IRs} (h : IRs.Lts (fun i => i < n) R) : IRs.Ltd n R := fun q hq => ⟨(h q hq).1, by
  have := (h q hq).2
  cases hr : q.2 with
  | box T cs => rw [hr] at this; exact this
  | row t l => trivial⟩

def locE (f : Fr) (sl : List Nat) : Env := sl.filterMap fun t => (f t).map fun d => (t, d)
theorem locE_get {f : Fr} {t : Nat} {d : AV} : ∀ {sl : List Nat}, (locE f sl).get t = some d → f t = some d
  | [], h => by cases h
  | s :: sl, h => by
    unfold locE at h
    rw [List.filterMap_cons] at h
    cases hs : f s with
    | none =>
      rw [hs] at h
      exact locE_get (sl := sl) h
    | some e =>
      rw [hs] at h
      simp only [Option.map_some] at h
      unfold Env.get at h
      cases hb : Nat.beq s t with
      | true =>
        rw [hb] at h
        cases h
        rw [← beqT hb]
        exact hs
      | false =>
        rw [hb] at h
        exact locE_get (sl := sl) h
theorem locE_of {f : Fr} {t : Nat} {d : AV} : ∀ {sl : List Nat}, t ∈ sl → f t = some d → (locE f sl).get t = some d
  | [], h, _ => by cases h
  | s :: sl, h, hf => by
    unfold locE
    rw [List.filterMap_cons]
    by_cases hst : s = t
    · subst hst
      rw [hf]
      exact Env.get_hit _ _ _
    · have ht : t ∈ sl := (List.mem_cons.1 h).resolve_left fun e => hst e.symm
      cases f s with
      | none => exact locE_of ht hf
      | some e => simp only [Option.map_some]; rw [Env.get_miss _ _ hst]; exact locE_of ht hf
theorem locE_congr {f g : Fr} {sl : List Nat} (h : ∀ t ∈ sl, f t = g t) : locE f sl = locE g sl := by
  unfold locE
  induction sl with
  | nil => rfl
  | cons s sl ih =>
    rw [List.filterMap_cons, List.filterMap_cons, h s List.mem_cons_self, ih fun t ht => h t (List.mem_cons_of_mem _ ht)]

section
variable {P : Program} {C : Cx} {n : Nat} {o : Oper}

/-- What stands in the slots is said by f, what is owned by R, in names of p. -/
def MtS (C : Cg) (n : Nat) (p : Nat → Prop) (f : Fr) (R : IRs) (a : Act) (w : World) : Prop := ∃ (E : Env) (ρ : Gh), (∀ t d, f t = some d → E.get t = some d) ∧ (∀ q ∈ E, Lts p q.2) ∧ IRs.Lts p R ∧ Agr C.n C.ρ ρ ∧ Sim C.C n (E.sub ρ) (IRs.res ρ R) a w

theorem res_perm {ρ : Gh} {R R' : IRs} (h : List.Perm R R') : List.Perm (IRs.res ρ R) (IRs.res ρ R') := h.map _
theorem res_app {ρ : Gh} (R R' : IRs) : IRs.res ρ (R ++ R') = IRs.res ρ R ++ IRs.res ρ R' := List.map_append ..
theorem MtS.perm {C : Cg} {p : Nat → Prop} {f : Fr} {R R' : IRs} {a : Act} {w : World} (h : MtS C n p f R a w) (hp : List.Perm R R') : MtS C n p f R' a w := by
  obtain ⟨E, ρ, h1, h2, h3, h5, h4⟩ := h
  exact ⟨E, ρ, h1, h2, h3.perm hp, h5, h4.perm (res_perm hp)⟩

/-- What an operation yields and owns, seen by itself. -/
def Nlc (nx : Nat) (v : AV) (Ro : IRs) (ρ : Gh) : Option AV → List Res → Prop := fun a σ' => ∃ ρ', Agr nx ρ ρ' ∧ (a = some (v.sub ρ') ∨ a = none ∧ v = .lit undef) ∧ List.Perm σ' (IRs.res ρ' Ro)

theorem wr_perm {wr rd : List Nat} (h : ∀ i ∈ wr, i ∈ rd) (R : IRs) : List.Perm (outR wr (inR rd R) ++ outR rd R) (outR wr R) := by
  have e1 : outR wr (inR rd R) = (outR wr R).filter fun p => memB p.1 rd := by
    simp only [outR, inR, List.filter_filter]
    exact List.filter_congr fun p _ => Bool.and_comm ..
  have e2 : outR rd R = (outR wr R).filter fun p => !memB p.1 rd := by
    simp only [outR, List.filter_filter]
    refine List.filter_congr fun p _ => ?_
    cases hm : memB p.1 rd with
    | true => rfl
    | false =>
      have : memB p.1 wr = false := memB_not.2 fun hw => memB_not.1 hm (h _ hw)
      rw [this]; rfl
  rw [e1, e2]
  exact List.filter_append_perm _ _

theorem loc_wp {C : Cg} {p : Nat → Prop} {f : Fr} {R : IRs} {a : Act} {w : World} {c : Rc} {nx nx' : Nat} {Q : Exit → Act → World → Prop} {K' : Act → World → Prop}
    (hn : C.n ≤ nx) (hm : MtS C n p f R a w) (hdst : c.dst = o.dst) (hd : dstOk n o.dst = true) (hwr : ∀ i ∈ c.wr, i ∈ c.rd) (hloc : ∀ ρ C, Ye P ((locE f c.sl).sub ρ) (IRs.res ρ (inR c.rd R)) o C (Nlc nx c.v (match c.ef with | true => c.Lo ++ outR c.wr (inR c.rd R) | false => inR c.rd R) ρ))
    (hp : ∀ i, p i → ¬ (nx ≤ i ∧ i < nx')) (hv : Ltd nx' c.v) (hLi : IRs.Ltd nx (inR c.rd R)) (hLo : c.ef = true → IRs.Ltd nx' c.Lo)
    (hv' : Lts (fun i => p i ∨ (nx ≤ i ∧ i < nx')) c.v) (hLo' : c.ef = true → IRs.Lts (fun i => p i ∨ (nx ≤ i ∧ i < nx')) c.Lo)
    (hK : ∀ a' w', a'.defers = a.defers → MtS C n (fun i => p i ∨ (nx ≤ i ∧ i < nx')) (c.F f) (c.R R) a' w' → K' a' w') : o.wp P a w K' Q := by
  obtain ⟨E, ρ, h1, h2, h3, h0, hsim0⟩ := hm
  have hpm : List.Perm (inR c.rd R ++ outR c.rd R) R := List.filter_append_perm _ _
  have hsim := hsim0.perm (res_perm (ρ := ρ) hpm.symm)
  rw [res_app] at hsim
  generalize hσi : IRs.res ρ (inR c.rd R) = σi at hsim
  generalize hσr : IRs.res ρ (outR c.rd R) = σr at hsim
  have hg := hsim.good
  have hlt : ∀ b ∈ blks (σi ++ σr), b < w.heap.size := fun b hb => by
    obtain ⟨s, q1, q2⟩ := mem_blks.1 hb
    exact (hg.res s q1).lt q2
  have hal : ∀ b, al C.C (σi ++ σr) b → al ⟨w, al C.C (σi ++ σr), blks σi⟩ σi b := fun b hA => ⟨.inl hA, fun hx => hA.2 (blks_mem_app.2 (.inl hx))⟩
  have hgood : Good ⟨w, al C.C (σi ++ σr), blks σi⟩ σi w := ⟨Kp.refl _ _, fun r hr => (hg.res r (List.mem_append_left _ hr)).mono (fun b _ hA => ⟨hal b hA, rfl⟩) (fun _ _ => rfl), by
    have := hg.dis; rw [blks_app] at this; exact (List.nodup_append.1 this).1, fun b hb => .inl hb⟩
  have hops : Ops (al ⟨w, al C.C (σi ++ σr), blks σi⟩ σi) w ((locE f c.sl).sub ρ) a.eval := fun x u hx => by
    rw [Env.sub_ev] at hx
    obtain ⟨d, hd1, rfl⟩ := Option.map_eq_some_iff.1 hx
    have hE : E.ev x = some d := by
      cases x with
      | tmp t => exact h1 t d (locE_get hd1)
      | _ => exact hd1
    exact (hsim.slots.ops x (d.sub ρ) (by rw [Env.sub_ev, hE]; rfl)).mono fun b _ hA => ⟨hal b hA, rfl⟩
  -- the names behind
  have step : ∀ (ρ' : Gh) (σo : List Res) (w' : World), Agr nx ρ ρ' → List.Perm σo (IRs.res ρ' (match c.ef with | true => c.Lo ++ outR c.wr (inR c.rd R) | false => inR c.rd R)) → Tr ⟨w, al C.C (σi ++ σr), blks σi⟩ (blks σi) σi w σo w' →
      ∃ ρ'' : Gh, Agr C.n C.ρ ρ'' ∧ c.v.sub ρ' = c.v.sub ρ'' ∧ Sim C.C n (E.sub ρ'') (IRs.res ρ'' (c.R R)) a w' ∧ (∀ b, b < w'.heap.size → al ⟨w, al C.C (σi ++ σr), blks σi⟩ σo b → al C.C (IRs.res ρ'' (c.R R)) b) := fun ρ' σo w' ha hσo ht => by
    let ρ'' : Gh := ⟨fun i => if nx ≤ i ∧ i < nx' then ρ'.v i else ρ.v i, fun i => if nx ≤ i ∧ i < nx' then ρ'.b i else ρ.b i⟩
    have hag : Ags p ρ ρ'' := fun i hi => by
      have := hp i hi
      exact ⟨by simp only [ρ'', if_neg this], by simp only [ρ'', if_neg this]⟩
    have hag2 : Agr nx' ρ' ρ'' := fun i hi => by
      by_cases hni : nx ≤ i
      · exact ⟨by simp only [ρ'', if_pos (And.intro hni hi)], by simp only [ρ'', if_pos (And.intro hni hi)]⟩
      · have h0 : ¬ (nx ≤ i ∧ i < nx') := fun h => hni h.1
        obtain ⟨a1, a2⟩ := ha i (by omega)
        exact ⟨by simp only [ρ'', if_neg h0]; exact a1.symm, by simp only [ρ'', if_neg h0]; exact a2.symm⟩
    have hnx : nx ≤ nx' ∨ nx' < nx := by omega
    have hown : ∀ b ∈ blks σo, b ∈ blks σi ∨ w.heap.size ≤ b := ht.good.own
    have hsub : ∀ b, b < w'.heap.size → al ⟨w, al C.C (σi ++ σr), blks σi⟩ σo b → al C.C (σo ++ σr) b := fun b _ hb => by
      obtain ⟨hb1, hb2⟩ := hb
      rcases hb1 with hb1 | hb1 | hb1
      · exact ⟨hb1.1, fun hx => (blks_mem_app.1 hx).elim hb2 (fun h => hb1.2 (blks_mem_app.2 (.inr h)))⟩
      · have hbp : b ∈ blks σi := hb1
        refine ⟨?_, fun hx => (blks_mem_app.1 hx).elim hb2 (fun h => ?_)⟩
        · rcases hg.own b (blks_mem_app.2 (.inl hbp)) with h | h
          · exact .inr (.inl h)
          · exact .inr (.inr h)
        · have hdis := hg.dis
          rw [blks_app] at hdis
          exact (List.nodup_append.1 hdis).2.2 b hbp b h rfl
      · have hbw : w.heap.size ≤ b := hb1
        exact ⟨.inr (.inr (Nat.le_trans hg.kept.size hbw)), fun hx => (blks_mem_app.1 hx).elim hb2 (fun h => by have := hlt b (blks_mem_app.2 (.inr h)); omega)⟩
    have ht2 : Tr C.C (blks σi) (σi ++ σr) w (σo ++ σr) w' := tr_call hg (fun b hA _ => .inl hA) ht (fun r hr => (ht.good.res r hr).mono (fun b hb hA => ⟨hsub b hb hA, rfl⟩) (fun _ _ => rfl))
    have hs2 := hsim.tr ht2
    have hout : IRs.Lts p (outR c.rd R) := fun q hq => h3 q (List.mem_filter.1 hq).1
    have hEs : E.sub ρ = E.sub ρ'' := List.map_congr_left fun q hq => by rw [(h2 q hq).sub hag]
    have hrs : σr = IRs.res ρ'' (outR c.rd R) := by rw [← hσr, hout.res hag]
    have hpo : List.Perm (σo ++ σr) (IRs.res ρ'' (c.R R)) := by
      rw [hrs]
      unfold Rc.R
      cases hce : c.ef with
      | true =>
        rw [hce] at hσo
        simp only at hσo ⊢
        have hin : IRs.Lts p (outR c.wr (inR c.rd R)) := fun q hq => h3 q (List.mem_filter.1 (List.mem_filter.1 hq).1).1
        have hin2 : IRs.Ltd nx (outR c.wr (inR c.rd R)) := fun q hq => hLi q (List.mem_filter.1 hq).1
        have e1 : IRs.res ρ' (outR c.wr (inR c.rd R)) = IRs.res ρ'' (outR c.wr (inR c.rd R)) := by rw [← hin2.res ha, hin.res hag]
        rw [res_app, e1, (hLo hce).res hag2] at hσo
        refine (hσo.append_right _).trans ?_
        rw [List.append_assoc, res_app, ← res_app (outR c.wr (inR c.rd R))]
        exact List.Perm.append_left _ (res_perm (wr_perm hwr R))
      | false =>
        rw [hce] at hσo
        simp only at hσo ⊢
        have hin : IRs.Lts p (inR c.rd R) := fun q hq => h3 q (List.mem_filter.1 hq).1
        have e1 : IRs.res ρ' (inR c.rd R) = IRs.res ρ'' (inR c.rd R) := by rw [← hLi.res ha, hin.res hag]
        rw [e1] at hσo
        refine (hσo.append_right _).trans ?_
        rw [← res_app]
        exact res_perm hpm
    refine ⟨ρ'', h0.trans (fun i hi => ⟨by simp only [ρ'', if_neg (show ¬ (nx ≤ i ∧ i < nx') by omega)], by simp only [ρ'', if_neg (show ¬ (nx ≤ i ∧ i < nx') by omega)]⟩) (Nat.le_refl C.n), hv.sub hag2, by rw [← hEs]; exact hs2.perm hpo, fun b hb hA => al_perm hpo b (hsub b hb hA)⟩
  have fin : ∀ (ρ' : Gh) (σo : List Res) (w' : World) (v : Value), Agr nx ρ ρ' → List.Perm σo (IRs.res ρ' (match c.ef with | true => c.Lo ++ outR c.wr (inR c.rd R) | false => inR c.rd R)) → Tr ⟨w, al C.C (σi ++ σr), blks σi⟩ (blks σi) σi w σo w' →
      Rel (al ⟨w, al C.C (σi ++ σr), blks σi⟩ σo) w' (c.v.sub ρ') v → K' (a.put o.dst v) w' := fun ρ' σo w' v q1 q2 q3 q4 => by
    obtain ⟨ρ'', g1, g2, g3, g4⟩ := step ρ' σo w' q1 q2 q3
    have hR' : IRs.Lts (fun i => p i ∨ (nx ≤ i ∧ i < nx')) (c.R R) := by
      unfold Rc.R
      cases hce : c.ef with
      | false => exact h3.mono fun i hi => .inl hi
      | true => exact fun q hq => (List.mem_append.1 hq).elim (hLo' hce q) fun hq => ⟨.inl (h3 q (List.mem_filter.1 hq).1).1, (h3 q (List.mem_filter.1 hq).1).2.mono fun i hi => .inl hi⟩
    refine hK _ _ (by cases o.dst <;> rfl) ?_
    rw [g2] at q4
    cases hdo : o.dst with
    | none => exact ⟨E, ρ'', fun t d ht => h1 t d (by unfold Rc.F at ht; rw [hdst, hdo] at ht; simpa using ht), fun q hq => (h2 q hq).mono fun i hi => .inl hi, hR', g1, g3⟩
    | some t =>
      refine ⟨(t, c.v) :: E, ρ'', fun s d hs => ?_, fun q hq => ?_, hR', g1, ?_⟩
      · unfold Rc.F at hs
        rw [hdst, hdo] at hs
        by_cases hts : t = s
        · subst hts
          rw [if_pos rfl] at hs
          cases hs
          exact Env.get_hit _ _ _
        · rw [if_neg (fun e => hts (Option.some.inj e))] at hs
          rw [Env.get_miss _ _ hts]
          exact h1 s d hs
      · rcases List.mem_cons.1 hq with rfl | hq
        · exact hv'
        · exact (h2 q hq).mono fun i hi => .inl hi
      · rw [hdo] at hd
        exact g3.put hd (q4.mono fun b hb hA => ⟨g4 b hb hA, rfl⟩)
  unfold Oper.wp
  subst hσi
  rcases hloc ρ _ w a.eval hgood hops with ⟨v, w', av, σ', ⟨ρ', q1, q2, q3⟩, r1, r2, r3⟩ | ⟨w', σ', ⟨ρ', q1, q2, q3⟩, r1, r2⟩ | ⟨g, args, r1, r2⟩
  · rw [r2]
    rcases q2 with q2 | ⟨q2, _⟩
    · cases q2; exact fin ρ' σ' w' v q1 q3 r1 r3
    · cases q2
  · rw [r2]
    rcases q2 with q2 | ⟨_, q2⟩
    · cases q2
    · exact fin ρ' σ' w' undef q1 q3 r1 (by rw [q2, sub_lit]; exact .lit _)
  · rw [r1]
    refine Calls.mono r2 fun ee w' ⟨v, av, σ', q0, ⟨ρ', q1, q2, q3⟩, s1, s2⟩ => ?_
    subst q0
    rcases q2 with q2 | ⟨q2, _⟩
    · cases q2; exact fin ρ' σ' w' v q1 q3 s1 s2
    · cases q2
end
end Go.Iv
