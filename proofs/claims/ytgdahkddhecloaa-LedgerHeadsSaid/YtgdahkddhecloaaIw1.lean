/- An interpreter over names of what is owned: states, and how they stand for frames and worlds. Program-independent. -/
import Derived.Test.YtgdahkddhecloaaIv5
set_option linter.unusedSectionVars false
set_option linter.unusedVariables false
set_option linter.unusedSimpArgs false
namespace Go.Iv
variable [U : Uni]
open Go Go.RowKit

/-- What names stand for: own slices, and the blocks of variables. -/
structure Gh where
  v : Nat → Value
  b : Nat → Nat

def AVq.sub (ρ : Gh) : AV → AV
  | .lit v => .lit v
  | .sl t l => .sl t l
  | .fp cs => .fp (cs.map (AVq.sub ρ))
  | .rp v k => .rp v k
  | .agg cs => .agg (cs.map (AVq.sub ρ))
  | .tup cs => .tup (cs.map (AVq.sub ρ))
  | .fn f cs => .fn f (cs.map (AVq.sub ρ))
  | .own id => .lit (ρ.v id)
  | .ptr id off => .lit (.pointer (some ⟨ρ.b id, off, none⟩))
  | .ra id t m off => .rp (ρ.v id) (m * U.sz t + off)

/-- Only names of p stand in it. -/
inductive Lts (p : Nat → Prop) : AV → Prop
  | lit (v : Value) : Lts p (.lit v)
  | sl (t : Nat) (l : List (U.Dat t)) : Lts p (.sl t l)
  | fp (cs : List AV) (h : ∀ c ∈ cs, Lts p c) : Lts p (.fp cs)
  | rp (v : Value) (k : Nat) : Lts p (.rp v k)
  | agg (cs : List AV) (h : ∀ c ∈ cs, Lts p c) : Lts p (.agg cs)
  | tup (cs : List AV) (h : ∀ c ∈ cs, Lts p c) : Lts p (.tup cs)
  | fn (f : Go.Fn) (cs : List AV) (h : ∀ c ∈ cs, Lts p c) : Lts p (.fn f cs)
  | own (id : Nat) (h : p id) : Lts p (.own id)
  | ptr (id off : Nat) (h : p id) : Lts p (.ptr id off)
  | ra (id t m off : Nat) (h : p id) : Lts p (.ra id t m off)
/-- Only names below n stand in it. -/
abbrev Ltd (n : Nat) : AV → Prop := Lts (fun i => i < n)

/-- Two readings of the names of p agree. -/
def Ags (p : Nat → Prop) (ρ ρ' : Gh) : Prop := ∀ i, p i → ρ.v i = ρ'.v i ∧ ρ.b i = ρ'.b i
theorem Lts.mono {p q : Nat → Prop} {d : AV} (h : Lts p d) (hn : ∀ i, p i → q i) : Lts q d := by
  induction h with
  | lit v => exact .lit v
  | sl t l => exact .sl t l
  | fp cs _ ih => exact .fp cs ih
  | rp v k => exact .rp v k
  | agg cs _ ih => exact .agg cs ih
  | tup cs _ ih => exact .tup cs ih
  | fn f cs _ ih => exact .fn f cs ih
  | own id h => exact .own id (hn _ h)
  | ptr id off h => exact .ptr id off (hn _ h)
  | ra id t m off h => exact .ra id t m off (hn _ h)
theorem Lts.sub {p : Nat → Prop} {d : AV} {ρ ρ' : Gh} (h : Lts p d) (ha : Ags p ρ ρ') : d.sub ρ = d.sub ρ' := by
  have key : ∀ cs : List AV, (∀ c ∈ cs, c.sub ρ = c.sub ρ') → cs.map (AVq.sub ρ) = cs.map (AVq.sub ρ') := fun cs h => List.map_congr_left h
  induction h with
  | lit v => simp only [AVq.sub]
  | sl t l => simp only [AVq.sub]
  | fp cs _ ih => simp only [AVq.sub]; rw [key cs ih]
  | rp v k => simp only [AVq.sub]
  | agg cs _ ih => simp only [AVq.sub]; rw [key cs ih]
  | tup cs _ ih => simp only [AVq.sub]; rw [key cs ih]
  | fn f cs _ ih => simp only [AVq.sub]; rw [key cs ih]
  | own id h => simp only [AVq.sub]; rw [(ha id h).1]
  | ptr id off h => simp only [AVq.sub]; rw [(ha id h).2]
  | ra id t m off h => simp only [AVq.sub]; rw [(ha id h).1]
theorem Lts.subL {p : Nat → Prop} {cs : List AV} {ρ ρ' : Gh} (h : ∀ c ∈ cs, Lts p c) (ha : Ags p ρ ρ') : cs.map (AVq.sub ρ) = cs.map (AVq.sub ρ') := List.map_congr_left fun c hc => (h c hc).sub ha

/-- Two readings of the names below n agree. -/
def Agr (n : Nat) (ρ ρ' : Gh) : Prop := ∀ i, i < n → ρ.v i = ρ'.v i ∧ ρ.b i = ρ'.b i
theorem Agr.refl (n : Nat) (ρ : Gh) : Agr n ρ ρ := fun _ _ => ⟨rfl, rfl⟩
theorem Agr.trans {n m : Nat} {ρ ρ' ρ'' : Gh} (h : Agr n ρ ρ') (h' : Agr m ρ' ρ'') (hn : n ≤ m) : Agr n ρ ρ'' := fun i hi =>
  ⟨(h i hi).1.trans (h' i (by omega)).1, (h i hi).2.trans (h' i (by omega)).2⟩

theorem Ltd.mono {n m : Nat} {d : AV} (h : Ltd n d) (hn : n ≤ m) : Ltd m d := Lts.mono h fun _ hi => Nat.lt_of_lt_of_le hi hn
theorem Ltd.sub {n : Nat} {d : AV} {ρ ρ' : Gh} (h : Ltd n d) (ha : Agr n ρ ρ') : d.sub ρ = d.sub ρ' := Lts.sub h ha
theorem Ltd.subL {n : Nat} {cs : List AV} {ρ ρ' : Gh} (h : ∀ c ∈ cs, Ltd n c) (ha : Agr n ρ ρ') : cs.map (AVq.sub ρ) = cs.map (AVq.sub ρ') := Lts.subL h ha

/-! ### what is owned -/

inductive IR : Type
  | box (T : Nat) (cs : List AV)
  | row (t : Nat) (l : List (U.Dat t))

def IR.res (ρ : Gh) (id : Nat) : IR → Res
  | .box T cs => .box (ρ.b id) T (cs.map (AVq.sub ρ))
  | .row t l => .row (ρ.v id) t l

abbrev IRs : Type := List (Nat × IR)
def IRs.res (ρ : Gh) (R : IRs) : List Res := R.map fun p => p.2.res ρ p.1
def IR.Ltd (n : Nat) : IR → Prop
  | .box _ cs => ∀ c ∈ cs, Iv.Ltd n c
  | .row _ _ => True
def IRs.Ltd (n : Nat) (R : IRs) : Prop := ∀ p ∈ R, p.1 < n ∧ p.2.Ltd n
theorem IR.Ltd.mono {n m : Nat} {r : IR} (h : r.Ltd n) (hn : n ≤ m) : r.Ltd m := by
  cases r with
  | box T cs => exact fun c hc => (h c hc).mono hn
  | row t l => trivial
theorem IRs.Ltd.mono {n m : Nat} {R : IRs} (h : IRs.Ltd n R) (hn : n ≤ m) : IRs.Ltd m R := fun p hp => ⟨Nat.lt_of_lt_of_le (h p hp).1 hn, (h p hp).2.mono hn⟩
theorem IR.Ltd.res {n id : Nat} {r : IR} {ρ ρ' : Gh} (h : r.Ltd n) (hi : id < n) (ha : Agr n ρ ρ') : r.res ρ id = r.res ρ' id := by
  cases r with
  | box T cs => simp only [IR.res]; rw [(ha id hi).2, Iv.Ltd.subL h ha]
  | row t l => simp only [IR.res]; rw [(ha id hi).1]
theorem IRs.Ltd.res {n : Nat} {R : IRs} {ρ ρ' : Gh} (h : IRs.Ltd n R) (ha : Agr n ρ ρ') : IRs.res ρ R = IRs.res ρ' R := List.map_congr_left fun p hp => (h p hp).2.res (h p hp).1 ha

noncomputable def rget (R : IRs) (id : Nat) : Option IR := List.rec none (fun p _ ih => Bool.rec ih (some p.2) (Nat.beq p.1 id)) R
noncomputable def rset (id : Nat) (r' : IR) (R : IRs) : IRs := List.rec [] (fun p R ih => Bool.rec (p :: ih) ((p.1, r') :: R) (Nat.beq p.1 id)) R
noncomputable def rdel (id : Nat) (R : IRs) : IRs := List.rec [] (fun p R ih => Bool.rec (p :: ih) R (Nat.beq p.1 id)) R
theorem rget_cons {i : Nat} {r : IR} {R : IRs} {id : Nat} : rget ((i, r) :: R) id = match Nat.beq i id with
    | true => some r
    | false => rget R id := by
  show Bool.rec (motive := fun _ => _) (rget R id) (some r) (Nat.beq i id) = _
  cases Nat.beq i id <;> rfl
theorem rset_cons {i : Nat} {r r' : IR} {R : IRs} {id : Nat} : rset id r' ((i, r) :: R) = match Nat.beq i id with
    | true => (i, r') :: R
    | false => (i, r) :: rset id r' R := by
  show Bool.rec (motive := fun _ => _) ((i, r) :: rset id r' R) ((i, r') :: R) (Nat.beq i id) = _
  cases Nat.beq i id <;> rfl
theorem rdel_cons {i : Nat} {r : IR} {R : IRs} {id : Nat} : rdel id ((i, r) :: R) = match Nat.beq i id with
    | true => R
    | false => (i, r) :: rdel id R := by
  show Bool.rec (motive := fun _ => _) ((i, r) :: rdel id R) R (Nat.beq i id) = _
  cases Nat.beq i id <;> rfl

theorem beqT {a b : Nat} (h : Nat.beq a b = true) : a = b := Nat.eq_of_beq_eq_true h

theorem rget_idx : ∀ {R : IRs} {id : Nat} {r : IR}, rget R id = some r → ∃ i : Nat, R[i]? = some (id, r) ∧ (∀ r', rset id r' R = R.set i (id, r')) ∧ rdel id R = R.eraseIdx i
  | [], _, _, h => by cases h
  | (i, r) :: R, id, r0, h => by
    rw [rget_cons] at h
    cases hb : Nat.beq i id with
    | true =>
      rw [hb] at h
      cases h
      cases beqT hb
      exact ⟨0, rfl, fun r' => by rw [rset_cons, hb]; rfl, by rw [rdel_cons, hb]; rfl⟩
    | false =>
      rw [hb] at h
      obtain ⟨j, h1, h2, h3⟩ := rget_idx h
      exact ⟨j + 1, h1, fun r' => by rw [rset_cons, hb]; simp [h2], by rw [rdel_cons, hb]; simp [h3]⟩
theorem res_get {R : IRs} {ρ : Gh} {i id : Nat} {r : IR} (h : R[i]? = some (id, r)) : (IRs.res ρ R)[i]? = some (r.res ρ id) := by
  unfold IRs.res
  rw [List.getElem?_map, h]
  rfl
theorem res_set {R : IRs} {ρ : Gh} {i id : Nat} {r : IR} : IRs.res ρ (R.set i (id, r)) = (IRs.res ρ R).set i (r.res ρ id) := by
  unfold IRs.res
  rw [List.map_set]
theorem res_erase {R : IRs} {ρ : Gh} {i : Nat} : IRs.res ρ (R.eraseIdx i) = (IRs.res ρ R).eraseIdx i := by
  unfold IRs.res
  rw [List.eraseIdx_eq_take_drop_succ, List.eraseIdx_eq_take_drop_succ, List.map_append, List.map_take, List.map_drop]
theorem rget_ltd {R : IRs} {id n : Nat} {r : IR} (h : rget R id = some r) (hR : IRs.Ltd n R) : id < n ∧ r.Ltd n := by
  obtain ⟨i, h1, _⟩ := rget_idx h
  exact hR _ (List.mem_of_getElem? h1)
theorem rset_ltd {R : IRs} {id n : Nat} {r r' : IR} (h : rget R id = some r) (hR : IRs.Ltd n R) (hr : r'.Ltd n) : IRs.Ltd n (rset id r' R) := by
  obtain ⟨i, h1, h2, _⟩ := rget_idx h
  rw [h2]
  intro p hp
  rcases List.mem_or_eq_of_mem_set hp with hp | rfl
  · exact hR p hp
  · exact ⟨(hR _ (List.mem_of_getElem? h1)).1, hr⟩
theorem rdel_ltd {R : IRs} {id n : Nat} (hR : IRs.Ltd n R) : IRs.Ltd n (rdel id R) := by
  induction R with
  | nil => exact hR
  | cons p R ih =>
    obtain ⟨i, r⟩ := p
    have h2 : IRs.Ltd n R := fun p hp => hR p (List.mem_cons_of_mem _ hp)
    rw [rdel_cons]
    split
    · exact h2
    · intro q hq
      rcases List.mem_cons.1 hq with rfl | hq
      · exact hR _ List.mem_cons_self
      · exact ih h2 q hq

/-! ### frames -/

def Env.sub (ρ : Gh) (E : Env) : Env := E.map fun p => (p.1, p.2.sub ρ)
def Env.Ltd (n : Nat) (E : Env) : Prop := ∀ p ∈ E, Iv.Ltd n p.2
theorem Env.sub_get {ρ : Gh} (t : Nat) : ∀ (E : Env), (E.sub ρ).get t = (E.get t).map (AVq.sub ρ)
  | [] => rfl
  | (k, v) :: E => by
    show Env.get ((k, v.sub ρ) :: Env.sub ρ E) t = _
    unfold Env.get
    cases hb : Nat.beq k t with
    | true => rfl
    | false => exact Env.sub_get t E
theorem Env.sub_ev {ρ : Gh} {E : Env} (x : Operand) : (E.sub ρ).ev x = (E.ev x).map (AVq.sub ρ) := by
  cases x with
  | tmp t => exact Env.sub_get t E
  | const v => simp [Env.ev, AVq.sub]
  | global g => simp [Env.ev, AVq.sub]
  | func f => simp [Env.ev, AVq.sub]
theorem Env.get_mem : ∀ {E : Env} {t : Nat} {d : AV}, E.get t = some d → (t, d) ∈ E
  | [], _, _, h => by cases h
  | (k, v) :: E, t, d, h => by
    unfold Env.get at h
    cases hb : Nat.beq k t with
    | true =>
      rw [hb] at h
      cases h
      cases beqT hb
      exact List.mem_cons_self
    | false =>
      rw [hb] at h
      exact List.mem_cons_of_mem _ (Env.get_mem h)
theorem Env.ev_ltd {E : Env} {n : Nat} {x : Operand} {d : AV} (hE : E.Ltd n) (h : E.ev x = some d) : Iv.Ltd n d := by
  cases x with
  | tmp t => exact hE _ (Env.get_mem h)
  | const v => cases h; exact .lit _
  | global g => cases h; exact .lit _
  | func f => cases h; exact .fn _ [] (by simp)
theorem Env.Ltd.mono {n m : Nat} {E : Env} (h : E.Ltd n) (hn : n ≤ m) : E.Ltd m := fun p hp => (h p hp).mono hn
theorem Env.Ltd.sub {n : Nat} {E : Env} {ρ ρ' : Gh} (h : E.Ltd n) (ha : Agr n ρ ρ') : E.sub ρ = E.sub ρ' := List.map_congr_left fun p hp => by rw [(h p hp).sub ha]

/-- What slots hold, as a tree: slot 0 at the root, the odd slots to the left, the even ones to the right. -/
inductive ETq (Dat : Nat → Type) : Type
  | e
  | n (v : Option (AVq Dat)) (l r : ETq Dat)
abbrev ET : Type := ETq U.Dat
noncomputable def eget (T : ET) : Nat → Option AV := ETq.rec (fun _ => none) (fun v _ _ il ir k => Bool.rec (Bool.rec (ir (Nat.div (Nat.sub k 1) 2)) (il (Nat.div (Nat.sub k 1) 2)) (Nat.beq (Nat.mod (Nat.sub k 1) 2) 0)) v (Nat.beq k 0)) T
def ETq.v : ET → Option AV
  | .e => none
  | .n v _ _ => v
def ETq.l : ET → ET
  | .e => .e
  | .n _ l _ => l
def ETq.r : ET → ET
  | .e => .e
  | .n _ _ r => r
noncomputable def eputB (d : AV) (ih : ET → Nat → ET) (v : Option AV) (l r : ET) (k : Nat) : ET := Bool.rec (Bool.rec (.n v l (ih r (Nat.div (Nat.sub k 1) 2))) (.n v (ih l (Nat.div (Nat.sub k 1) 2)) r) (Nat.beq (Nat.mod (Nat.sub k 1) 2) 0)) (.n (some d) l r) (Nat.beq k 0)
noncomputable def eputN (d : AV) (m : Nat) : ET → Nat → ET := Nat.rec (fun _ _ => .e) (fun _ ih T k => ETq.rec (eputB d ih none .e .e k) (fun v l r _ _ => eputB d ih v l r k) T) m
noncomputable def eput (t : Nat) (d : AV) (T : ET) : ET := eputN d 12 T t
noncomputable def emap (f : AV → AV) (T : ET) : ET := ETq.rec .e (fun v _ _ il ir => .n (v.map f) il ir) T

theorem eget_n (v : Option AV) (l r : ET) (k : Nat) : eget (.n v l r) k = if k = 0 then v else if (k - 1) % 2 = 0 then eget l ((k - 1) / 2) else eget r ((k - 1) / 2) := by
  show Bool.rec (motive := fun _ => Option AV) (Bool.rec (motive := fun _ => Option AV) (eget r ((k - 1) / 2)) (eget l ((k - 1) / 2)) (Nat.beq ((k - 1) % 2) 0)) v (Nat.beq k 0) = _
  by_cases hk : k = 0
  · subst hk; rfl
  · have h1 : Nat.beq k 0 = false := by
      cases h : Nat.beq k 0 with
      | false => rfl
      | true => exact absurd (Nat.eq_of_beq_eq_true h) hk
    rw [h1, if_neg hk]
    by_cases h2 : (k - 1) % 2 = 0
    · rw [h2]; rfl
    · have h3 : Nat.beq ((k - 1) % 2) 0 = false := by
        cases h : Nat.beq ((k - 1) % 2) 0 with
        | false => rfl
        | true => exact absurd (Nat.eq_of_beq_eq_true h) h2
      rw [h3, if_neg h2]
theorem eget_e (k : Nat) : eget (.e : ET) k = none := rfl
theorem eget_vlr (T : ET) (k : Nat) : eget T k = if k = 0 then T.v else if (k - 1) % 2 = 0 then eget T.l ((k - 1) / 2) else eget T.r ((k - 1) / 2) := by
  cases T with
  | e => simp only [ETq.v, ETq.l, ETq.r, eget_e, ite_self]
  | n v l r => exact eget_n v l r k
theorem eputN_s (d : AV) (m : Nat) (T : ET) (k : Nat) : eputN d (m + 1) T k = if k = 0 then .n (some d) T.l T.r else if (k - 1) % 2 = 0 then .n T.v (eputN d m T.l ((k - 1) / 2)) T.r else .n T.v T.l (eputN d m T.r ((k - 1) / 2)) := by
  have e : eputN d (m + 1) T k = eputB d (eputN d m) T.v T.l T.r k := by cases T <;> rfl
  rw [e]
  show Bool.rec (motive := fun _ => ET) (Bool.rec (motive := fun _ => ET) (.n T.v T.l (eputN d m T.r ((k - 1) / 2))) (.n T.v (eputN d m T.l ((k - 1) / 2)) T.r) (Nat.beq ((k - 1) % 2) 0)) (.n (some d) T.l T.r) (Nat.beq k 0) = _
  by_cases hk : k = 0
  · subst hk; rfl
  · have h1 : Nat.beq k 0 = false := by
      cases h : Nat.beq k 0 with
      | false => rfl
      | true => exact absurd (Nat.eq_of_beq_eq_true h) hk
    rw [h1, if_neg hk]
    by_cases h2 : (k - 1) % 2 = 0
    · rw [h2]; rfl
    · have h3 : Nat.beq ((k - 1) % 2) 0 = false := by
        cases h : Nat.beq ((k - 1) % 2) 0 with
        | false => rfl
        | true => exact absurd (Nat.eq_of_beq_eq_true h) h2
      rw [h3, if_neg h2]
theorem eputN_get (d : AV) : ∀ (m : Nat) (T : ET) (k s : Nat) (av : AV), eget (eputN d m T k) s = some av → (k = s ∧ av = d) ∨ (k ≠ s ∧ eget T s = some av)
  | 0, T, k, s, av, h => by cases h
  | m + 1, T, k, s, av, h => by
    rw [eputN_s] at h
    rw [eget_vlr T s]
    split at h
    · rename_i hk
      subst hk
      rw [eget_n] at h
      split at h
      · rename_i hs; subst hs; cases h; exact .inl ⟨rfl, rfl⟩
      · rename_i hs
        rw [if_neg hs]
        exact .inr ⟨fun e => hs e.symm, h⟩
    · rename_i hk
      split at h
      · rename_i hk2
        rw [eget_n] at h
        split at h
        · rename_i hs; subst hs; exact .inr ⟨hk, by rw [if_pos rfl]; exact h⟩
        · rename_i hs
          rw [if_neg hs]
          split at h
          · rename_i hs2
            rw [if_pos hs2]
            rcases eputN_get d m T.l _ _ av h with ⟨h1, h2⟩ | ⟨h1, h2⟩
            · exact .inl ⟨by omega, h2⟩
            · exact .inr ⟨fun e => h1 (by rw [e]), h2⟩
          · rename_i hs2
            rw [if_neg hs2]
            exact .inr ⟨fun e => hs2 (by rw [← e]; exact hk2), h⟩
      · rename_i hk2
        rw [eget_n] at h
        split at h
        · rename_i hs; subst hs; exact .inr ⟨hk, by rw [if_pos rfl]; exact h⟩
        · rename_i hs
          rw [if_neg hs]
          split at h
          · rename_i hs2
            rw [if_pos hs2]
            exact .inr ⟨fun e => hk2 (by rw [e]; exact hs2), h⟩
          · rename_i hs2
            rw [if_neg hs2]
            rcases eputN_get d m T.r _ _ av h with ⟨h1, h2⟩ | ⟨h1, h2⟩
            · exact .inl ⟨by omega, h2⟩
            · exact .inr ⟨fun e => h1 (by rw [e]), h2⟩
theorem eput_get {t s : Nat} {d av : AV} {T : ET} (h : eget (eput t d T) s = some av) : (t = s ∧ av = d) ∨ (t ≠ s ∧ eget T s = some av) := eputN_get d 12 T t s av h
theorem emap_get (f : AV → AV) : ∀ (T : ET) (s : Nat), eget (emap f T) s = (eget T s).map f
  | .e, s => rfl
  | .n v l r, s => by
    show eget (.n (v.map f) (emap f l) (emap f r)) s = _
    rw [eget_n, eget_n, emap_get f l, emap_get f r]
    split
    · rfl
    · split <;> rfl

/-- E holds what T says. -/
def Hold (T : ET) (E : Env) : Prop := ∀ t d, eget T t = some d → E.get t = some d
theorem Hold.put {T : ET} {E : Env} (h : Hold T E) (t : Nat) (d : AV) : Hold (eput t d T) ((t, d) :: E) := fun s av hs => by
  rcases eput_get hs with ⟨rfl, rfl⟩ | ⟨h1, h2⟩
  · exact Env.get_hit _ _ _
  · rw [Env.get_miss _ _ h1]; exact h s av h2
noncomputable def evF (T : ET) : Operand → Option AV
  | .tmp t => eget T t
  | .const v => some (.lit v)
  | .global g => some (.lit (.pointer (some ⟨g, 0, none⟩)))
  | .func f => some (.fn (.func f) [])
theorem Hold.ev {T : ET} {E : Env} (h : Hold T E) (x : Operand) (d : AV) (hx : evF T x = some d) : E.ev x = some d := by
  cases x with
  | tmp t => exact h t d hx
  | _ => exact hx

/-! ### states -/

structure St where
  E : ET
  R : IRs
  nx : Nat

/-- What a function began with: the world, and what the names below n stood for. -/
structure Cg where
  C : Cx
  ρ : Gh
  n : Nat
/-- State s stands for frame a and world w. -/
def Mt (C : Cg) (n : Nat) (s : St) (a : Act) (w : World) : Prop := ∃ E : Env, Hold s.E E ∧ E.Ltd s.nx ∧ IRs.Ltd s.nx s.R ∧ ∃ ρ, (Agr C.n C.ρ ρ ∧ C.n ≤ s.nx) ∧ Sim C.C n (E.sub ρ) (IRs.res ρ s.R) a w

theorem Env.cons_ltd {E : Env} {n t : Nat} {d : AV} (hE : E.Ltd n) (hd : Iv.Ltd n d) : Env.Ltd n ((t, d) :: E) := fun p hp => by
  rcases List.mem_cons.1 hp with rfl | hp
  · exact hd
  · exact hE p hp

theorem Good.perm {C : Cx} {σ σ' : List Res} {w : World} (h : Good C σ w) (hp : List.Perm σ σ') : Good C σ' w := by
  have hb : ∀ b, b ∈ blks σ' ↔ b ∈ blks σ := fun b => (hp.filterMap _).symm.mem_iff
  have hal : ∀ b, al C σ b → al C σ' b := fun b hA => ⟨hA.1, fun hx => hA.2 ((hb b).1 hx)⟩
  exact ⟨h.kept, fun r hr => (h.res r (hp.mem_iff.2 hr)).mono (fun b _ hA => ⟨hal b hA, rfl⟩) (fun _ _ => rfl), (hp.filterMap _).nodup_iff.1 h.dis, fun b hx => h.own b ((hb b).1 hx)⟩
theorem al_perm {C : Cx} {σ σ' : List Res} (hp : List.Perm σ σ') (b : Nat) : al C σ b → al C σ' b := fun hA => ⟨hA.1, fun hx => hA.2 ((hp.filterMap _).symm.mem_iff.1 hx)⟩

end Go.Iv
