/- Regions that draw their order: carried out once, in the order of the text. Program-independent. -/
import Derived.Test.YtgdahkddhecloaaIw10
set_option linter.unusedSectionVars false
set_option linter.unusedVariables false
set_option linter.unusedSimpArgs false
namespace Go.Iv
variable [U : Uni] [L : UniL]
open Go Go.RowKit

/-! ### what is given up, seen by itself -/

section
variable {P : Program} {o : Oper} {C : Cx} {N : Option AV → List Res → Prop}

theorem Ye.frz1 {E : Env} {R : IRs} {ρ : Gh} {id t : Nat} {l : List (U.Dat t)} (hr : rget R id = some (.row t l))
    (h : Ye P (Env.sub ρ (E.map fun p => (p.1, frzN id t l 3 p.2))) (IRs.res ρ ((rdel id R).map fun p => (p.1, frzR id t l p.2))) o C N) : Ye P (E.sub ρ) (IRs.res ρ R) o C N := fun w ϱ hg hρ => by
  obtain ⟨i, hi1, _, hi3⟩ := rget_idx hr
  have hres := res_get (ρ := ρ) hi1
  have hd : Hd (al C (IRs.res ρ R)) [.row (ρ.v id) t l] w := ⟨fun r hr => by
      rw [List.mem_singleton] at hr
      rw [hr]
      exact hg.res _ (List.mem_of_getElem? hres), fun b hb hA => hA.2 (by
      obtain ⟨r, h1, h2⟩ := mem_blks.1 hb
      rw [List.mem_singleton] at h1
      rw [h1] at h2
      exact mem_blks.2 ⟨_, List.mem_of_getElem? hres, h2⟩)⟩
  have hle := al_erase (C := C) hres hg
  have hbk : blks (IRs.res ρ ((rdel id R).map fun p => (p.1, frzR id t l p.2))) = blks ((IRs.res ρ R).eraseIdx i) := by
    rw [← res_erase, ← hi3]
    unfold blks IRs.res
    rw [List.map_map, List.filterMap_map, List.filterMap_map]
    congr 1
    funext p
    obtain ⟨q, rr⟩ := p
    cases rr <;> rfl
  have hal : ∀ b, (al C (IRs.res ρ R) b ∨ b ∈ blks [Res.row (ρ.v id) t l]) → al C (IRs.res ρ ((rdel id R).map fun p => (p.1, frzR id t l p.2))) b := fun b hb => by
    have := hle b hb
    exact ⟨this.1, by rw [hbk]; exact this.2⟩
  have hrel : ∀ {d : AV} {v : Value}, Rel (al C (IRs.res ρ R)) w (d.sub ρ) v → Rel (al C (IRs.res ρ ((rdel id R).map fun p => (p.1, frzR id t l p.2)))) w ((frzN id t l 3 d).sub ρ) v := fun h =>
    (frzN_rel hd 3 h).mono fun b _ hA => ⟨hal b hA, rfl⟩
  have hsubb : ∀ b ∈ blks (IRs.res ρ ((rdel id R).map fun p => (p.1, frzR id t l p.2))), b ∈ blks (IRs.res ρ R) := fun b hb => by
    rw [hbk] at hb
    exact blks_sub (fun r hr => (List.eraseIdx_sublist _ _).subset hr) b hb
  have hg' : Good C (IRs.res ρ ((rdel id R).map fun p => (p.1, frzR id t l p.2))) w := by
    refine ⟨hg.kept, fun rr hrr => ?_, ?_, fun b hb => hg.own b (hsubb b hb)⟩
    · obtain ⟨p, h1, rfl⟩ := List.mem_map.1 hrr
      obtain ⟨p', h2, rfl⟩ := List.mem_map.1 h1
      have hm : p'.2.res ρ p'.1 ∈ IRs.res ρ R := by
        rw [hi3] at h2
        exact List.mem_map.2 ⟨p', List.mem_of_mem_eraseIdx h2, rfl⟩
      have h3 := hg.res _ hm
      obtain ⟨q, rr⟩ := p'
      cases rr with
      | row t' l' => exact h3.mono (fun b _ hA => ⟨hal b (.inl hA), rfl⟩) (fun _ _ => rfl)
      | box T cs =>
        obtain ⟨us, h4, h5⟩ := h3
        refine ⟨us, h4, by simpa using h5.1, fun j av v q1 q2 => ?_⟩
        rw [List.map_map, List.getElem?_map] at q1
        obtain ⟨c, hc, rfl⟩ := Option.map_eq_some_iff.1 q1
        exact hrel (h5.2 j (c.sub ρ) v (by rw [List.getElem?_map, hc]; rfl) q2)
    · rw [hbk]
      exact hg.dis.sublist ((List.eraseIdx_sublist _ _).filterMap _)
  have hops : Ops (al C (IRs.res ρ ((rdel id R).map fun p => (p.1, frzR id t l p.2)))) w (Env.sub ρ (E.map fun p => (p.1, frzN id t l 3 p.2))) ϱ := fun x u hx => by
    cases x with
    | tmp k =>
      have hx' : Env.get (Env.sub ρ (E.map fun p => (p.1, frzN id t l 3 p.2))) k = some u := hx
      rw [Env.sub_get, map_get] at hx'
      obtain ⟨d', h1, rfl⟩ := Option.map_eq_some_iff.1 hx'
      obtain ⟨d, h2, rfl⟩ := Option.map_eq_some_iff.1 h1
      exact hrel (hρ (.tmp k) (d.sub ρ) (by show Env.get (E.sub ρ) k = _; rw [Env.sub_get, h2]; rfl))
    | const v => exact (hρ (.const v) u hx).mono fun b _ hA => ⟨hal b (.inl hA), rfl⟩
    | global g => exact (hρ (.global g) u hx).mono fun b _ hA => ⟨hal b (.inl hA), rfl⟩
    | func f => exact (hρ (.func f) u hx).mono fun b _ hA => ⟨hal b (.inl hA), rfl⟩
  have htr : ∀ {σ' : List Res} {w' : World}, Tr C (blks (IRs.res ρ ((rdel id R).map fun p => (p.1, frzR id t l p.2)))) (IRs.res ρ ((rdel id R).map fun p => (p.1, frzR id t l p.2))) w σ' w' → Tr C (blks (IRs.res ρ R)) (IRs.res ρ R) w σ' w' := fun h =>
    ⟨h.good, ⟨h.kp.os, h.kp.tape, h.kp.output, h.kp.size, fun k hk hn => h.kp.block k hk fun hx => hn (hsubb k hx)⟩, fun b hb hA => ⟨(h.al b hb (hal b (.inl hA))).1, hA.2⟩⟩
  rcases h w ϱ hg' hops with ⟨v, w', av, σ', h1, h2, h3, h4⟩ | ⟨w', σ', h1, h2, h3⟩ | ⟨f, args, h1, h2⟩
  · exact .inl ⟨v, w', av, σ', h1, htr h2, h3, h4⟩
  · exact .inr (.inl ⟨w', σ', h1, htr h2, h3⟩)
  · exact .inr (.inr ⟨f, args, h1, h2.mono fun e w' ⟨v, av, σ', q1, q2, q3, q4⟩ => ⟨v, av, σ', q1, q2, htr q3, q4⟩⟩)

def HoldL (sl : List Nat) (T : ET) (E : Env) : Prop := ∀ t ∈ sl, ∀ d, eget T t = some d → E.get t = some d

theorem Ye.frzL {sl : List Nat} {nx : Nat} {ρ : Gh} : ∀ (ids : List Nat) (T : ET) (E : Env) (R : IRs), HoldL sl T E → E.Ltd nx → IRs.Ltd nx R →
    (∀ E', HoldL sl (St.frzL ⟨T, R, nx⟩ ids).E E' → E'.Ltd nx → IRs.Ltd nx (St.frzL ⟨T, R, nx⟩ ids).R → Ye P (E'.sub ρ) (IRs.res ρ (St.frzL ⟨T, R, nx⟩ ids).R) o C N) → Ye P (E.sub ρ) (IRs.res ρ R) o C N
  | [], T, E, R, hh, hE, hR, h => h E hh hE hR
  | i :: ids, T, E, R, hh, hE, hR, h => by
    have e0 : St.frzL ⟨T, R, nx⟩ (i :: ids) = (St.frz ⟨T, R, nx⟩ i).frzL ids := rfl
    rw [e0] at h
    have key : ∀ s : St, s.nx = nx → s = ⟨s.E, s.R, nx⟩ := fun s hs => by obtain ⟨a, b, c⟩ := s; simp only at hs; rw [hs]
    cases hr : rget R i with
    | none =>
      have e1 : St.frz ⟨T, R, nx⟩ i = ⟨T, R, nx⟩ := by unfold St.frz; simp only [hr]
      rw [e1] at h
      exact Ye.frzL ids T E R hh hE hR h
    | some rr =>
      cases rr with
      | box T0 cs =>
        have e1 : St.frz ⟨T, R, nx⟩ i = ⟨T, R, nx⟩ := by unfold St.frz; simp only [hr]
        rw [e1] at h
        exact Ye.frzL ids T E R hh hE hR h
      | row t l =>
        have e1 : St.frz ⟨T, R, nx⟩ i = ⟨emap (frzN i t l 3) T, (rdel i R).map fun p => (p.1, frzR i t l p.2), nx⟩ := by unfold St.frz; simp only [hr]
        rw [e1] at h
        refine Ye.frz1 hr (Ye.frzL ids _ _ _ (fun k hk d hd => ?_) (fun p hp => ?_) (fun p hp => ?_) h)
        · rw [emap_get] at hd
          obtain ⟨d', h1, rfl⟩ := Option.map_eq_some_iff.1 hd
          rw [map_get, hh k hk d' h1]
          rfl
        · obtain ⟨p', h1, rfl⟩ := List.mem_map.1 hp
          exact frzN_ltd 3 (hE p' h1)
        · obtain ⟨p', h1, rfl⟩ := List.mem_map.1 hp
          have h2 := rdel_ltd (id := i) hR p' h1
          refine ⟨h2.1, ?_⟩
          obtain ⟨q, rr⟩ := p'
          cases rr with
          | row t' l' => trivial
          | box T0 cs =>
            intro c hc
            obtain ⟨c', h3, rfl⟩ := List.mem_map.1 hc
            exact frzN_ltd 3 (h2.2 c' h3)
end

/-! ### one operation -/

noncomputable def evL (sl : List Nat) (T : ET) : Operand → Option AV
  | .tmp t => match memB t sl with
    | true => eget T t
    | false => none
  | x => evF T x
noncomputable def lK (R1 : IRs) (nx : Nat) (fz : Bool) (e : Eff) : Option (AV × Bool × IRs × Nat) := some (match e.vl nx with
  | some d => d
  | none => .lit undef, match e with
  | .val _ => fz
  | _ => true, e.R R1 nx, e.nx nx)
noncomputable def lrun2 (P : Program) (F : Orc) (o : Oper) (sl : List Nat) (ids : List Nat) (s : St) : Option (AV × Bool × IRs × Nat) := St.rec (fun E1 R1 nx1 => stepF o.op P F (evL sl E1) (rget R1) R1 nx1 (lK R1 nx1 (!ids.isEmpty))) (s.frzL ids)
noncomputable def lrun (P : Program) (F : Orc) (o : Oper) (sl : List Nat) (E : ET) (Rl : IRs) (nx : Nat) : Option (AV × Bool × IRs × Nat) := lrun2 P F o sl (frzOf E o.op) ⟨E, Rl, nx⟩

noncomputable def lrunK2 {α : Type} (P : Program) (F : Orc) (o : Oper) (sl : List Nat) (ids : List Nat) (D : AV × Bool × IRs × Nat → Option α) (s : St) : Option α := St.rec (fun E1 R1 nx1 => stepF o.op P F (evL sl E1) (rget R1) R1 nx1 (fun e => D (match e.vl nx1 with
  | some d => d
  | none => .lit undef, match e with
  | .val _ => (!ids.isEmpty)
  | _ => true, e.R R1 nx1, e.nx nx1))) (s.frzL ids)
/-- the same, and what comes of it -/
noncomputable def lrunK {α : Type} (P : Program) (F : Orc) (o : Oper) (sl : List Nat) (E : ET) (Rl : IRs) (nx : Nat) (D : AV × Bool × IRs × Nat → Option α) : Option α := lrunK2 P F o sl (frzOf E o.op) D ⟨E, Rl, nx⟩
theorem lrun_nat {α : Type} {P : Program} {F : Orc} (hN : OrcNat F) {o : Oper} {sl : List Nat} {E : ET} {Rl : IRs} {nx : Nat} (D : AV × Bool × IRs × Nat → Option α) : (lrun P F o sl E Rl nx).bind D = lrunK P F o sl E Rl nx D := by
  unfold lrun lrunK lrun2 lrunK2
  generalize St.frzL ⟨E, Rl, nx⟩ (frzOf E o.op) = s1
  obtain ⟨E1, R1, n1⟩ := s1
  exact stepF_nat D hN ..
theorem frzL_nx : ∀ (ids : List Nat) (s : St), (s.frzL ids).nx = s.nx
  | [], s => rfl
  | i :: ids, s => by
    show ((s.frz i).frzL ids).nx = s.nx
    rw [frzL_nx ids]
    unfold St.frz
    split <;> rfl

theorem lrun_ok {P : Program} {F : Orc} {o : Oper} {sl : List Nat} {T : ET} {E : Env} {Rl Lo : IRs} {nx nx' : Nat} {v : AV} {ef : Bool} (hF : OrcOk P F) (h : lrun P F o sl T Rl nx = some (v, ef, Lo, nx')) (hh : HoldL sl T E) (hE : E.Ltd nx) (hR : IRs.Ltd nx Rl) :
    (∀ ρ C, Ye P (E.sub ρ) (IRs.res ρ Rl) o C (Nlc nx v Lo ρ)) ∧ (ef = false → ∀ ρ C, Ye P (E.sub ρ) (IRs.res ρ Rl) o C (Nlc nx v Rl ρ)) := by
  unfold lrun lrun2 at h
  generalize hs : St.frzL ⟨T, Rl, nx⟩ (frzOf T o.op) = s1 at h
  have hnx : s1.nx = nx := by rw [← hs, frzL_nx]
  obtain ⟨E1, R1, n1⟩ := s1
  simp only at hnx
  subst hnx
  have h' : stepF o.op P F (evL sl E1) (rget R1) R1 n1 (lK R1 n1 (!(frzOf T o.op).isEmpty)) = some (v, ef, Lo, nx') := h
  rw [stepF_eq] at h'
  have main : ∀ ρ C (Ro : IRs), (∀ e : Eff, lK R1 n1 (!(frzOf T o.op).isEmpty) e = some (v, ef, Lo, nx') → e.R R1 n1 = Ro) → Ye P (E.sub ρ) (IRs.res ρ Rl) o C (Nlc n1 v Ro ρ) := fun ρ C Ro hRo => by
    refine Ye.frzL (sl := sl) (frzOf T o.op) T E Rl hh hE hR fun E' hh' hE' hR' => ?_
    rw [hs] at hh' hR' ⊢
    have hsee : See (evL sl E1) (rget R1) n1 E' R1 := ⟨fun x d hx => by
      cases x with
      | tmp t =>
        unfold evL at hx
        simp only at hx
        split at hx
        · rename_i hm; exact hh' t (memB_iff.1 hm) d hx
        · cases hx
      | _ => exact hx, fun _ _ h => h, hE', hR'⟩
    have hst := stepOp_ok (o := o) hF hsee rfl h' ρ C
    intro w ϱ hg hρ
    have conv : ∀ a σ', Nx R1 n1 (lK R1 n1 (!(frzOf T o.op).isEmpty)) (v, ef, Lo, nx') ρ a σ' → Nlc n1 v Ro ρ a σ' := fun a σ' ⟨e, q1, q2, q3, q4, ρ', q5, q6, q7⟩ => by
      refine ⟨ρ', q5, ?_, by rw [← hRo e q1]; exact q7⟩
      unfold lK at q1
      simp only [Option.some.injEq, Prod.mk.injEq] at q1
      cases hv : e.vl n1 with
      | some d =>
        rw [hv] at q1 q6
        left
        rw [q6, ← q1.1]
        rfl
      | none =>
        rw [hv] at q1 q6
        right
        exact ⟨q6, q1.1.symm⟩
    rcases hst w ϱ hg hρ with ⟨v', w', av, σ', h1, h2, h3, h4⟩ | ⟨w', σ', h1, h2, h3⟩ | ⟨f, args, h1, h2⟩
    · exact .inl ⟨v', w', av, σ', conv _ _ h1, h2, h3, h4⟩
    · exact .inr (.inl ⟨w', σ', conv _ _ h1, h2, h3⟩)
    · exact .inr (.inr ⟨f, args, h1, h2.mono fun e w' ⟨v', av, σ', q1, q2, q3, q4⟩ => ⟨v', av, σ', q1, conv _ _ q2, q3, q4⟩⟩)
  refine ⟨fun ρ C => main ρ C Lo fun e he => ?_, fun hef ρ C => main ρ C Rl fun e he => ?_⟩
  · unfold lK at he
    simp only [Option.some.injEq, Prod.mk.injEq] at he
    exact he.2.2.1
  · unfold lK at he
    simp only [Option.some.injEq, Prod.mk.injEq] at he
    cases e with
    | val d =>
      have hemp : frzOf T o.op = [] := by
        have h2 : (!(frzOf T o.op).isEmpty) = false := by rw [← hef]; exact he.2.1
        simpa using h2
      rw [hemp] at hs
      have : (⟨T, Rl, n1⟩ : St) = ⟨E1, R1, n1⟩ := hs
      exact (St.mk.inj this).2.1.symm
    | _ => exact absurd (he.2.1.trans hef) (by simp)
end Go.Iv
