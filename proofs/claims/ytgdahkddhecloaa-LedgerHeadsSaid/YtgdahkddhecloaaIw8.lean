/- Regions that draw their order: what was done in the order of the text is done in every order. First: what is said of records alone. Program-independent. -/
import Derived.Test.YtgdahkddhecloaaIw7
set_option linter.unusedSectionVars false
set_option linter.unusedVariables false
set_option linter.unusedSimpArgs false
namespace Go.Iv
variable [U : Uni]
open Go Go.RowKit

abbrev Fr : Type := Nat → Option AV

/-- What an operation did: into dst it put v; it looked at the slots sl and the names rd; if it has an effect, what the names wr of these named is now Lo. -/
structure Rc where
  dst : Option Nat
  v : AV
  sl : List Nat
  rd : List Nat
  wr : List Nat
  ef : Bool
  Lo : IRs

def outR (rd : List Nat) (R : IRs) : IRs := R.filter fun p => !memB p.1 rd
def inR (rd : List Nat) (R : IRs) : IRs := R.filter fun p => memB p.1 rd
def Rc.F (c : Rc) (f : Fr) : Fr := fun t => if c.dst = some t then some c.v else f t
def Rc.R (c : Rc) (R : IRs) : IRs := match c.ef with
  | true => c.Lo ++ outR c.wr R
  | false => R

def runF : List Rc → List Bool → Fr → Fr
  | c :: cs, b :: bs, f => runF cs bs (match b with | true => c.F f | false => f)
  | _, _, f => f
def runR : List Rc → List Bool → IRs → IRs
  | c :: cs, b :: bs, R => runR cs bs (match b with | true => c.R R | false => R)
  | _, _, R => R

theorem memB_iff {i : Nat} : ∀ {l : List Nat}, memB i l = true ↔ i ∈ l
  | [] => by simp [memB]
  | j :: js => by
    unfold memB
    cases h : Nat.beq i j with
    | true => have := beqT h; subst this; simp
    | false =>
      have hne : i ≠ j := fun e => by rw [e, Nat.beq_refl] at h; cases h
      simp only [List.mem_cons, hne, false_or]
      exact memB_iff
theorem memB_not {i : Nat} {l : List Nat} : memB i l = false ↔ i ∉ l := by
  cases h : memB i l with
  | true => simp [memB_iff.1 h]
  | false => simp only [true_iff]; exact fun hm => by rw [memB_iff.2 hm] at h; cases h

/-- Two operations that neither see nor hide one another's deeds. -/
structure CF (c d : Rc) : Prop where
  ds : ∀ t, c.dst = some t → t ∉ d.sl ∧ d.dst ≠ some t
  sd : ∀ t, d.dst = some t → t ∉ c.sl
  rc : c.ef = true → (∀ i ∈ c.wr, i ∉ d.rd) ∧ (∀ p ∈ c.Lo, p.1 ∉ d.rd) ∧ ∀ p ∈ c.Lo, p.1 ∉ d.wr
  rd : d.ef = true → (∀ i ∈ d.wr, i ∉ c.rd) ∧ (∀ p ∈ d.Lo, p.1 ∉ c.rd) ∧ ∀ p ∈ d.Lo, p.1 ∉ c.wr
theorem CF.symm {c d : Rc} (h : CF c d) : CF d c := ⟨fun t ht => ⟨h.sd t ht, fun e => (h.ds t e).2 ht⟩, fun t ht => (h.ds t ht).1, h.rd, h.rc⟩

theorem in_R {c i : Rc} (h : CF c i) (R : IRs) : inR i.rd (c.R R) = inR i.rd R := by
  unfold Rc.R
  cases he : c.ef with
  | false => rfl
  | true =>
    obtain ⟨h1, h2, _⟩ := h.rc he
    simp only [inR, outR, List.filter_append, List.filter_filter]
    have e1 : c.Lo.filter (fun p => memB p.1 i.rd) = [] := List.filter_eq_nil_iff.2 fun p hp => by simp [memB_not.2 (h2 p hp)]
    rw [e1, List.nil_append]
    refine List.filter_congr fun p _ => ?_
    cases hm : memB p.1 i.rd with
    | false => rfl
    | true =>
      have : memB p.1 c.wr = false := memB_not.2 fun hc => h1 _ hc (memB_iff.1 hm)
      rw [this]; rfl
theorem F_at {c i : Rc} (h : CF c i) (f : Fr) {t : Nat} (ht : t ∈ i.sl) : c.F f t = f t := by
  unfold Rc.F
  split
  · rename_i hd; exact absurd ht (h.ds t hd).1
  · rfl
theorem in_both {c : Rc} {rd : List Nat} {R R' : IRs} (h : inR rd R = inR rd R') : inR rd (c.R R) = inR rd (c.R R') := by
  unfold Rc.R
  cases c.ef with
  | false => exact h
  | true =>
    simp only [inR, outR, List.filter_append, List.filter_filter] at h ⊢
    congr 1
    have e : ∀ R : IRs, R.filter (fun p => memB p.1 rd && !memB p.1 c.wr) = (R.filter fun p => memB p.1 rd).filter fun p => !memB p.1 c.wr := fun R => by
      rw [List.filter_filter]
      exact List.filter_congr fun p _ => Bool.and_comm ..
    rw [e, e, h]

/-- what operation i looks at is the same, whichever of the others, that it neither sees nor is seen by, have come up -/
theorem view_eq {i : Rc} : ∀ (cs : List Rc) (bs bs' : List Bool) (f f' : Fr) (R R' : IRs), bs.length = cs.length → bs'.length = cs.length →
    (∀ (j : Nat) c b b', cs[j]? = some c → bs[j]? = some b → bs'[j]? = some b' → b = b' ∨ CF c i) →
    (∀ t ∈ i.sl, f t = f' t) → inR i.rd R = inR i.rd R' → (∀ t ∈ i.sl, runF cs bs f t = runF cs bs' f' t) ∧ inR i.rd (runR cs bs R) = inR i.rd (runR cs bs' R')
  | [], _, _, f, f', R, R', _, _, _, h1, h2 => ⟨by simpa [runF] using h1, by simpa [runR] using h2⟩
  | c :: cs, [], _, _, _, _, _, hl, _, _, _, _ => by cases hl
  | c :: cs, _ :: _, [], _, _, _, _, _, hl, _, _, _ => by cases hl
  | c :: cs, b :: bs, b' :: bs', f, f', R, R', hl, hl', hb, h1, h2 => by
    have h0 := hb 0 c b b' rfl rfl rfl
    have hrec := fun f f' R R' => view_eq (i := i) cs bs bs' f f' R R' (by simpa using hl) (by simpa using hl') (fun j c b b' q1 q2 q3 => hb (j + 1) c b b' q1 q2 q3)
    unfold runF runR
    refine hrec _ _ _ _ ?_ ?_
    · intro t ht
      rcases h0 with rfl | hcf
      · cases b with
        | false => exact h1 t ht
        | true => show c.F f t = c.F f' t; unfold Rc.F; split <;> first | rfl | exact h1 t ht
      · cases b <;> cases b' <;> simp only [F_at hcf _ ht] <;> exact h1 t ht
    · rcases h0 with rfl | hcf
      · cases b with
        | false => exact h2
        | true => exact in_both h2
      · cases b <;> cases b' <;> simp only [in_R hcf] <;> exact h2

theorem F_comm {c d : Rc} (h : CF c d) (f : Fr) : c.F (d.F f) = d.F (c.F f) := by
  funext t
  unfold Rc.F
  by_cases h1 : c.dst = some t
  · rw [if_pos h1, if_neg (h.ds t h1).2, if_pos h1]
  · by_cases h2 : d.dst = some t
    · rw [if_neg h1, if_pos h2, if_pos h2]
    · rw [if_neg h1, if_neg h2, if_neg h2, if_neg h1]
theorem R_perm {c : Rc} {R R' : IRs} (h : List.Perm R R') : List.Perm (c.R R) (c.R R') := by
  unfold Rc.R
  cases c.ef with
  | false => exact h
  | true => exact (h.filter _).append_left _
theorem R_comm {c d : Rc} (h : CF c d) (R : IRs) : List.Perm (c.R (d.R R)) (d.R (c.R R)) := by
  unfold Rc.R
  cases hc : c.ef with
  | false => cases d.ef <;> exact .refl _
  | true =>
    cases hd : d.ef with
    | false => exact .refl _
    | true =>
      obtain ⟨h1, _, h2⟩ := h.rc hc
      obtain ⟨h3, _, h4⟩ := h.rd hd
      simp only [outR, List.filter_append, List.filter_filter]
      have e1 : d.Lo.filter (fun p => !memB p.1 c.wr) = d.Lo := List.filter_eq_self.2 fun p hp => by simp [memB_not.2 (h4 p hp)]
      have e2 : c.Lo.filter (fun p => !memB p.1 d.wr) = c.Lo := List.filter_eq_self.2 fun p hp => by simp [memB_not.2 (h2 p hp)]
      rw [e1, e2, ← List.append_assoc, ← List.append_assoc]
      refine (List.perm_append_comm).append ?_
      rw [show (R.filter fun a => !memB a.1 c.wr && !memB a.1 d.wr) = R.filter fun a => !memB a.1 d.wr && !memB a.1 c.wr from List.filter_congr fun p _ => Bool.and_comm ..]

/-- an operation's deed, done behind those that come later in the text, is done in its place -/
theorem late {i : Rc} : ∀ (cs : List Rc) (bs : List Bool) (f : Fr) (R R' : IRs), (∀ (j : Nat) c, cs[j]? = some c → bs[j]? = some true → CF i c) → List.Perm R' (i.R R) →
    i.F (runF cs bs f) = runF cs bs (i.F f) ∧ List.Perm (i.R (runR cs bs R)) (runR cs bs R')
  | [], _, f, R, R', _, hp => ⟨rfl, hp.symm⟩
  | _ :: _, [], f, R, R', _, hp => ⟨rfl, hp.symm⟩
  | c :: cs, b :: bs, f, R, R', hb, hp => by
    unfold runF runR
    cases b with
    | false => exact late cs bs f R R' (fun j c q1 q2 => hb (j + 1) c q1 q2) hp
    | true =>
      have hcf := hb 0 c rfl rfl
      have h1 := late cs bs (c.F f) (c.R R) (c.R R') (fun j c q1 q2 => hb (j + 1) c q1 q2) ((R_perm hp).trans (R_comm hcf.symm R))
      refine ⟨?_, h1.2⟩
      rw [h1.1, F_comm hcf]

theorem runF_app : ∀ (pre : List Rc) (bp : List Bool) (cs : List Rc) (bs : List Bool) (f : Fr), bp.length = pre.length → runF (pre ++ cs) (bp ++ bs) f = runF cs bs (runF pre bp f)
  | [], [], _, _, _, _ => rfl
  | _ :: _, [], _, _, _, h => by cases h
  | [], _ :: _, _, _, _, h => by cases h
  | c :: pre, b :: bp, cs, bs, f, h => by
    show runF (pre ++ cs) (bp ++ bs) _ = _
    rw [runF_app pre bp cs bs _ (by simpa using h)]
    rfl
theorem runR_app : ∀ (pre : List Rc) (bp : List Bool) (cs : List Rc) (bs : List Bool) (R : IRs), bp.length = pre.length → runR (pre ++ cs) (bp ++ bs) R = runR cs bs (runR pre bp R)
  | [], [], _, _, _, _ => rfl
  | _ :: _, [], _, _, _, h => by cases h
  | [], _ :: _, _, _, _, h => by cases h
  | c :: pre, b :: bp, cs, bs, R, h => by
    show runR (pre ++ cs) (bp ++ bs) _ = _
    rw [runR_app pre bp cs bs _ (by simpa using h)]
    rfl

/-- Operation number i is ready, and done now. -/
theorem step_sel {cs : List Rc} {bs : List Bool} {i : Nat} {c : Rc} (f : Fr) (R : IRs) (hl : bs.length = cs.length) (hc : cs[i]? = some c) (hb : bs[i]? = some false)
    (hpre : ∀ (j : Nat) d, j < i → cs[j]? = some d → bs[j]? = some false → CF d c) (hpost : ∀ (j : Nat) d, i < j → cs[j]? = some d → bs[j]? = some true → CF d c) :
    (∀ t ∈ c.sl, runF cs bs f t = runF (cs.take i) (List.replicate i true) f t) ∧ inR c.rd (runR cs bs R) = inR c.rd (runR (cs.take i) (List.replicate i true) R) ∧
    c.F (runF cs bs f) = runF cs (bs.set i true) f ∧ List.Perm (c.R (runR cs bs R)) (runR cs (bs.set i true) R) := by
  have hi : i < cs.length := (List.getElem?_eq_some_iff.1 hc).1
  have hib : i < bs.length := by omega
  have ec : cs = cs.take i ++ c :: cs.drop (i + 1) := by
    rw [← (List.getElem?_eq_some_iff.1 hc).2, ← List.drop_eq_getElem_cons hi, List.take_append_drop]
  have eb : bs = bs.take i ++ false :: bs.drop (i + 1) := by
    rw [← (List.getElem?_eq_some_iff.1 hb).2, ← List.drop_eq_getElem_cons hib, List.take_append_drop]
  have lp : (bs.take i).length = (cs.take i).length := by rw [List.length_take, List.length_take]; omega
  have eb2 : bs.set i true = bs.take i ++ true :: bs.drop (i + 1) := by
    rw [List.set_eq_take_append_cons_drop, if_pos hib]
  have hF : runF cs bs f = runF (cs.drop (i + 1)) (bs.drop (i + 1)) (runF (cs.take i) (bs.take i) f) := by
    conv => lhs; rw [ec, eb]
    rw [runF_app _ _ _ _ _ lp]; rfl
  have hR : runR cs bs R = runR (cs.drop (i + 1)) (bs.drop (i + 1)) (runR (cs.take i) (bs.take i) R) := by
    conv => lhs; rw [ec, eb]
    rw [runR_app _ _ _ _ _ lp]; rfl
  have hF2 : runF cs (bs.set i true) f = runF (cs.drop (i + 1)) (bs.drop (i + 1)) (c.F (runF (cs.take i) (bs.take i) f)) := by
    rw [eb2]
    conv => lhs; rw [ec]
    rw [runF_app _ _ _ _ _ lp]; rfl
  have hR2 : runR cs (bs.set i true) R = runR (cs.drop (i + 1)) (bs.drop (i + 1)) (c.R (runR (cs.take i) (bs.take i) R)) := by
    rw [eb2]
    conv => lhs; rw [ec]
    rw [runR_app _ _ _ _ _ lp]; rfl
  have hpo : ∀ (j : Nat) d, (cs.drop (i + 1))[j]? = some d → (bs.drop (i + 1))[j]? = some true → CF d c := fun j d q1 q2 => by
    rw [List.getElem?_drop] at q1 q2
    exact hpost (i + 1 + j) d (by omega) q1 q2
  -- the later ones are not seen
  have v2 := view_eq (i := c) (cs.drop (i + 1)) (bs.drop (i + 1)) (List.replicate (cs.length - (i + 1)) false) (runF (cs.take i) (bs.take i) f) (runF (cs.take i) (bs.take i) f) (runR (cs.take i) (bs.take i) R) (runR (cs.take i) (bs.take i) R)
    (by rw [List.length_drop, List.length_drop]; omega) (by rw [List.length_replicate, List.length_drop]) (fun j d b b' q1 q2 q3 => by
      cases b with
      | true => exact .inr (hpo j d q1 q2)
      | false =>
        rw [List.getElem?_replicate] at q3
        split at q3
        · cases q3; exact .inl rfl
        · cases q3) (fun t _ => rfl) rfl
  have none_F : ∀ (cs : List Rc) (n : Nat) (f : Fr), runF cs (List.replicate n false) f = f := fun cs => by
    induction cs with
    | nil => intro n f; rfl
    | cons d cs ih =>
      intro n f
      cases n with
      | zero => rfl
      | succ n => rw [List.replicate_succ]; exact ih n f
  have none_R : ∀ (cs : List Rc) (n : Nat) (R : IRs), runR cs (List.replicate n false) R = R := fun cs => by
    induction cs with
    | nil => intro n f; rfl
    | cons d cs ih =>
      intro n f
      cases n with
      | zero => rfl
      | succ n => rw [List.replicate_succ]; exact ih n f
  have v1 := view_eq (i := c) (cs.take i) (bs.take i) (List.replicate i true) f f R R lp (by rw [List.length_replicate, List.length_take]; omega) (fun j d b b' q1 q2 q3 => by
      rw [List.getElem?_take] at q1 q2
      rw [List.getElem?_replicate] at q3
      split at q1
      · rename_i hji
        rw [if_pos hji] at q2 q3
        cases q3
        cases b with
        | true => exact .inl rfl
        | false => exact .inr (hpre j d hji q1 q2)
      · cases q1) (fun t _ => rfl) rfl
  refine ⟨fun t ht => ?_, ?_, ?_, ?_⟩
  · rw [hF, v2.1 t ht, none_F, v1.1 t ht]
  · rw [hR, v2.2, none_R, v1.2]
  · rw [hF, hF2]
    exact (late (i := c) _ _ _ (runR (cs.take i) (bs.take i) R) _ (fun j d q1 q2 => (hpo j d q1 q2).symm) (.refl _)).1
  · rw [hR, hR2]
    exact (late (i := c) _ _ (runF (cs.take i) (bs.take i) f) _ _ (fun j d q1 q2 => (hpo j d q1 q2).symm) (.refl _)).2
end Go.Iv
