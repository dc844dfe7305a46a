/- An interpreter over names of what is owned: the operations that make or write. Program-independent. -/
import Derived.Test.YtgdahkddhecloaaIw3
import Derived.Test.YtgdahkddhecloaaIv10
set_option linter.unusedSectionVars false
set_option linter.unusedVariables false
set_option linter.unusedSimpArgs false
namespace Go.Iv
variable [U : Uni] [L : UniL]
open Go Go.RowKit

/-- What an operation does: it yields d; it makes something new, with the next name, and yields d; it changes what id names; what id names is given up for something new, which it yields; it yields d, and what is owned is R. -/
inductive Eff : Type
  | val (d : AV)
  | new (d : AV) (r : IR)
  | set (id : Nat) (r : IR)
  | grow (id : Nat) (r : IR)
  | all (d : AV) (R : IRs) (nx : Nat)
noncomputable def Eff.R (R : IRs) (nx : Nat) : Eff → IRs
  | .val _ => R
  | .new _ r => (nx, r) :: R
  | .set id r => rset id r R
  | .grow id r => (nx, r) :: rdel id R
  | .all _ R' _ => R'
def Eff.nx (nx : Nat) : Eff → Nat
  | .val _ => nx
  | .new _ _ => nx + 1
  | .set _ _ => nx
  | .grow _ _ => nx + 1
  | .all _ _ m => m
def Eff.vl (nx : Nat) : Eff → Option AV
  | .val d => some d
  | .new d _ => some d
  | .set _ _ => none
  | .grow _ _ => some (.own nx)
  | .all d _ _ => some d

section
variable {P : Program} {C : Cx} {E : Env} {σ σ' : List Res} {o : Oper} {N : Option AV → List Res → Prop} {X : List Nat} {N0 : AV → List Res → Prop} {av : AV}

/-- The operation yields something or nothing, by itself or by a call; what and what is owned then is of N. -/
def Ye (P : Program) (E : Env) (σ : List Res) (o : Oper) (C : Cx) (N : Option AV → List Res → Prop) : Prop := ∀ (w : World) (ϱ : Operand → Value), Good C σ w → Ops (al C σ) w E ϱ →
  (∃ v w' av σ', N (some av) σ' ∧ Tr C (blks σ) σ w σ' w' ∧ (execOp ϱ o).run P w = .ok (.value v) w' ∧ Rel (al C σ') w' av v) ∨
  (∃ w' σ', N none σ' ∧ Tr C (blks σ) σ w σ' w' ∧ (execOp ϱ o).run P w = .ok .skip w') ∨
  (∃ f args, (execOp ϱ o).run P w = .ok (.enter f args) w ∧ Calls P f args w fun e w' => ∃ v av σ', e = .returned v ∧ N (some av) σ' ∧ Tr C (blks σ) σ w σ' w' ∧ Rel (al C σ') w' av v)

theorem Tr.wide {w w' : World} (h : Tr C X σ w σ' w') (hX : ∀ b ∈ X, b ∈ blks σ) : Tr C (blks σ) σ w σ' w' :=
  ⟨h.good, ⟨h.kp.os, h.kp.tape, h.kp.output, h.kp.size, fun k hk hn => h.kp.block k hk fun hx => hn (hX k hx)⟩, fun b hb hA => ⟨(h.al b hb hA).1, hA.2⟩⟩
theorem Tr.none {w : World} (h : Good C σ w) : Tr C (blks σ) σ w σ w := ⟨h, Kp.refl _ _, fun _ _ hA => ⟨hA, hA.2⟩⟩
theorem Ye.ofP (h : Yp P E σ o av) (hN : N (some av) σ) : Ye P E σ o C N := fun w ϱ hg hρ => by
  obtain ⟨v, h1, h2⟩ := h _ w ϱ hg.hd hρ
  exact .inl ⟨v, w, av, σ, hN, .none hg, h2 w (fun _ _ _ => rfl), h1⟩
theorem Ye.ofV (h : Yv P E σ o C X N0) (hX : ∀ b ∈ X, b ∈ blks σ) (hN : ∀ a σ', N0 a σ' → N (some a) σ') : Ye P E σ o C N := fun w ϱ hg hρ => by
  obtain ⟨v, w', av, σ', h1, h2, h3, h4⟩ := h w ϱ hg hρ
  exact .inl ⟨v, w', av, σ', hN _ _ h1, h2.wide hX, h3, h4⟩
theorem Ye.ofU (h : Yu P E σ o C X σ') (hX : ∀ b ∈ X, b ∈ blks σ) (hN : N none σ') : Ye P E σ o C N := fun w ϱ hg hρ => by
  obtain ⟨w', h2, h3⟩ := h w ϱ hg hρ
  exact .inr (.inl ⟨w', σ', hN, h2.wide hX, h3⟩)
theorem Ye.ofC (h : Yc P E σ o C X N0) (hX : ∀ b ∈ X, b ∈ blks σ) (hN : ∀ a σ', N0 a σ' → N (some a) σ') : Ye P E σ o C N := fun w ϱ hg hρ => by
  obtain ⟨f, args, h1, h2⟩ := h w ϱ hg hρ
  exact .inr (.inr ⟨f, args, h1, h2.mono fun e w' ⟨v, av, σ', q1, q2, q3, q4⟩ => ⟨v, av, σ', q1, hN _ _ q2, q3.wide hX, q4⟩⟩)
end

/-- What follows an operation of effect eff. -/
def Nx {α : Type} (R : IRs) (nx : Nat) (K : Eff → Option α) (r : α) (ρ : Gh) : Option AV → List Res → Prop := fun a σ' => ∃ eff : Eff, K eff = some r ∧ nx ≤ eff.nx nx ∧ IRs.Ltd (eff.nx nx) (eff.R R nx) ∧ (∀ d, eff.vl nx = some d → Ltd (eff.nx nx) d) ∧
  ∃ ρ', Agr nx ρ ρ' ∧ a = (eff.vl nx).map (AVq.sub ρ') ∧ List.Perm σ' (IRs.res ρ' (eff.R R nx))
def Stp {α : Type} (P : Program) (o : Oper) (E : Env) (R : IRs) (nx : Nat) (K : Eff → Option α) (r : α) : Prop := ∀ ρ C, Ye P (E.sub ρ) (IRs.res ρ R) o C (Nx R nx K r ρ)

def Gh.putV (ρ : Gh) (n : Nat) (v : Value) : Gh := ⟨fun i => if i = n then v else ρ.v i, ρ.b⟩
def Gh.putB (ρ : Gh) (n b : Nat) : Gh := ⟨ρ.v, fun i => if i = n then b else ρ.b i⟩
theorem Agr.putV (ρ : Gh) (n : Nat) (v : Value) : Agr n ρ (ρ.putV n v) := fun i hi => ⟨by simp [Gh.putV, Nat.ne_of_lt hi], rfl⟩
theorem Agr.putB (ρ : Gh) (n b : Nat) : Agr n ρ (ρ.putB n b) := fun i hi => ⟨rfl, by simp [Gh.putB, Nat.ne_of_lt hi]⟩

section
variable {α : Type} {r : α} {P : Program} {o : Oper} {E : Env} {R : IRs} {nx : Nat} {ev : Operand → Option AV} {rd : Nat → Option IR} {x y z : Operand} {d : AV} {K : Eff → Option α}

theorem Stp.pu (hs : See ev rd nx E R) (h : ∃ d, K (.val d) = some r ∧ Pu P o E R nx d) : Stp P o E R nx K r := fun ρ C => by
  obtain ⟨d, h1, h2, h3⟩ := h
  exact .ofP (h3 ρ) ⟨.val d, h1, Nat.le_refl _, hs.lr, fun d' hd => by cases hd; exact h2, ρ, .refl _ _, rfl, .refl _⟩

theorem nxNew (hs : See ev rd nx E R) {d : AV} {rr : IR} {ρ ρ' : Gh} {σ' : List Res} {a : AV} (hK : K (.new d rr) = some r) (hd : Ltd (nx + 1) d) (hr : rr.Ltd (nx + 1)) (hρ : Agr nx ρ ρ') (ha : a = d.sub ρ') (hσ : σ' = rr.res ρ' nx :: IRs.res ρ R) : Nx R nx K r ρ (some a) σ' := by
  refine ⟨.new d rr, hK, Nat.le_succ nx, fun p hp => ?_, fun d' h => by cases h; exact hd, ρ', hρ, by rw [ha]; rfl, ?_⟩
  · rcases List.mem_cons.1 hp with rfl | hp
    · exact ⟨Nat.lt_succ_self _, hr⟩
    · exact (hs.lr.mono (Nat.le_succ nx)) p hp
  · rw [hσ, hs.lr.res hρ]
    exact .refl _

/-! ### variables -/

def aloE (P : Program) (nx : Nat) (T : TypeId) (K : Eff → Option α) : Option α := ((P.info? T).bind fun i => i.zero).bind fun z => K (.new (.ptr nx 0) (.box T (z.cells.toList.map .lit)))
theorem aloE_ok {T : TypeId} (hs : See ev rd nx E R) (ho : o.op = .alloc T) (h : aloE P nx T K = some r) : Stp P o E R nx K r := fun ρ C => by
  obtain ⟨z, h1, h⟩ := Option.bind_eq_some_iff.1 h
  obtain ⟨i, h2, h3⟩ := Option.bind_eq_some_iff.1 h1
  refine .ofV (.alloc (zs := z.cells.toList) ho (by rw [h2]; simp [h3])) (by simp) fun a σ' ⟨b, ha, hσ⟩ => ?_
  refine nxNew hs (ρ' := ρ.putB nx b) h (.ptr _ _ (Nat.lt_succ_self _)) (fun c hc => ltd_lits _ _ c hc) (.putB ρ nx b) ?_ ?_
  · rw [ha, sub_ptr]; simp [Gh.putB]
  · rw [hσ]; simp only [IR.res, lits_sub]; simp [Gh.putB]

def boxE (rd : Nat → Option IR) (nx : Nat) (T : TypeId) (x : Option AV) (K : Eff → Option α) : Option α := match x with
  | some d => match dplain rd d with
    | true => K (.new (.ptr nx 0) (.box T (acells d)))
    | false => none
  | none => none
theorem boxE_ok {T : TypeId} (hs : See ev rd nx E R) (ho : o.op = .box T x) (h : boxE rd nx T (ev x) K = some r) : Stp P o E R nx K r := fun ρ C => by
  unfold boxE at h
  split at h
  case h_2 => cases h
  rename_i d hx
  split at h
  case h_2 => cases h
  rename_i hp
  refine .ofV (.box ho (hs.evs hx ρ) (dplain_pw hs hp)) (by simp) fun a σ' ⟨b, ha, hσ⟩ => ?_
  have hl := ltd_cells (hs.ltd hx)
  refine nxNew hs (ρ' := ρ.putB nx b) h (.ptr _ _ (Nat.lt_succ_self _)) (fun c hc => (hl c hc).mono (Nat.le_succ nx)) (.putB ρ nx b) ?_ ?_
  · rw [ha, sub_ptr]; simp [Gh.putB]
  · rw [hσ, sub_acells, Ltd.subL hl (.putB ρ nx b)]; simp [IR.res, Gh.putB]

/-! ### stores -/

def dat1 : AV → Bool
  | .lit v => v.oneCell'
  | .sl _ _ => true
  | _ => false
def datB : AV → Bool
  | .agg cs => cs.all dat1
  | d => dat1 d
theorem dat1_sub {d : AV} (h : dat1 d = true) (ρ : Gh) : d.sub ρ = d := by
  cases d <;> first | (cases h; done) | simp only [AVq.sub]
theorem datL_sub {cs : List AV} (h : cs.all dat1 = true) (ρ : Gh) : cs.map (AVq.sub ρ) = cs := by
  have : cs.map (AVq.sub ρ) = cs.map id := List.map_congr_left fun c hc => dat1_sub (List.all_eq_true.1 h c hc) ρ
  rw [this, List.map_id]
theorem datB_sub {d : AV} (h : datB d = true) (ρ : Gh) : d.sub ρ = d := by
  by_cases ha : ∃ cs, d = .agg cs
  · obtain ⟨cs, rfl⟩ := ha
    rw [sub_agg, datL_sub h]
  · exact dat1_sub (by cases d <;> first | exact h | (exact absurd ⟨_, rfl⟩ ha)) ρ
theorem dat1_one {d : AV} (h : dat1 d = true) : acell1 d = true := by
  cases d <;> first | (cases h; done) | exact h | rfl
theorem datB_plain {d : AV} (h : datB d = true) : aplain d = true := by
  by_cases ha : ∃ cs, d = .agg cs
  · obtain ⟨cs, rfl⟩ := ha
    exact List.all_eq_true.2 fun c hc => dat1_one (List.all_eq_true.1 h c hc)
  · have := dat1_one (d := d) (by cases d <;> first | exact h | (exact absurd ⟨_, rfl⟩ ha))
    cases d <;> first | exact this | (exact absurd ⟨_, rfl⟩ ha)

def stoE (P : Program) (rd : Nat → Option IR) (T : TypeId) (x y : Option AV) (K : Eff → Option α) : Option α := match y with
  | some d => match (P.info? T).map (·.size) with
    | some n => match Nat.beq (acells d).length n && dplain rd d with
      | true => match x with
        | some (.ptr id off) => match rd id with
          | some (.box T' cs) => match Nat.ble (off + n) cs.length with
            | true => K (.set id (.box T' (cs.take off ++ acells d ++ cs.drop (off + n))))
            | false => none
          | _ => none
        | some (.ra id t m off) => match rd id with
          | some (.row t' l) => match Nat.ble (off + n) (U.sz t') && datB d with
            | true => if t = t' ∧ m < l.length then (L.parse t' ((U.cells t' l[m]!).take off ++ acells d ++ (U.cells t' l[m]!).drop (off + n))).bind fun q => K (.set id (.row t' (l.set m q))) else none
            | false => none
          | _ => none
        | _ => none
      | false => none
    | none => none
  | none => none

theorem stoE_ok {T : TypeId} (hs : See ev rd nx E R) (ho : o.op = .store T x y) (h : stoE P rd T (ev x) (ev y) K = some r) : Stp P o E R nx K r := fun ρ C => by
  unfold stoE at h
  split at h
  case h_2 => cases h
  rename_i d hy
  split at h
  case h_2 => cases h
  rename_i n hn
  split at h
  case h_2 => cases h
  rename_i hdn
  simp only [Bool.and_eq_true] at hdn
  obtain ⟨hlen, hp⟩ := hdn
  have hlen := beqT hlen
  split at h
  · rename_i id off hx
    split at h
    case h_2 => cases h
    rename_i T' cs hr
    split at h
    case h_2 => cases h
    rename_i hle
    have hle := Nat.le_of_ble_eq_true hle
    have ex := hs.evs hx ρ
    rw [sub_ptr] at ex
    obtain ⟨i, hi1, hi2, _⟩ := rget_idx (hs.r _ _ hr)
    have hres := res_get (ρ := ρ) hi1
    have hl : ∀ c ∈ cs.take off ++ acells d ++ cs.drop (off + n), Ltd nx c := ltd_app (ltd_app (ltd_take (hs.boxL hr) _) (ltd_cells (hs.ltd hy))) (ltd_drop (hs.boxL hr) _)
    refine .ofU (.storeB (cs := cs.map (AVq.sub ρ)) i ho ex (hs.evs hy ρ) hres hn (dplain_pw hs hp) (by rw [sub_acells, List.length_map, hlen]) (by rw [List.length_map]; exact hle)) (fun b hb => ?_) ⟨_, h, Nat.le_refl _, rset_ltd (hs.r _ _ hr) hs.lr hl, fun d' hd => (by cases hd), ρ, .refl _ _, rfl, ?_⟩
    · rw [List.mem_singleton] at hb
      exact mem_blks.2 ⟨_, List.mem_of_getElem? hres, by rw [hb]; rfl⟩
    · show List.Perm _ (IRs.res ρ (rset id _ R))
      rw [hi2, res_set]
      simp only [IR.res, List.map_append, List.map_take, List.map_drop, sub_acells]
      exact .refl _
  · rename_i id t m off hx
    split at h
    case h_2 => cases h
    rename_i t' l hr
    split at h
    case h_2 => cases h
    rename_i hle
    simp only [Bool.and_eq_true] at hle
    obtain ⟨hle, hap⟩ := hle
    have hle := Nat.le_of_ble_eq_true hle
    split at h
    case isFalse => cases h
    rename_i hm
    obtain ⟨rfl, hm⟩ := hm
    obtain ⟨q, hq, h⟩ := Option.bind_eq_some_iff.1 h
    have ex := hs.evs hx ρ
    rw [sub_ra] at ex
    obtain ⟨i, hi1, hi2, _⟩ := rget_idx (hs.r _ _ hr)
    have hres := res_get (ρ := ρ) hi1
    have hds := datB_sub hap ρ
    have hpl : aplain (d.sub ρ) = true := by rw [hds]; exact datB_plain hap
    refine .ofU (.storeR (of := off) i q ho ex (hs.evs hy ρ) hres hn hpl (by rw [sub_acells, List.length_map, hlen]) rfl hm hle (L.len _ _) (fun A w us hr => ?_)) (fun b hb => ?_) ⟨_, h, Nat.le_refl _, rset_ltd (hs.r _ _ hr) hs.lr trivial, fun d' hd => (by cases hd), ρ, .refl _ _, rfl, ?_⟩
    · refine L.parse_ok _ _ _ hq A w us ?_
      rw [hds] at hr
      exact hr
    · obtain ⟨g, hg⟩ : ∃ g, rblk (ρ.v id) = some g := by
        cases hb' : rblk (ρ.v id) with
        | none => rw [hb'] at hb; simp at hb
        | some g => exact ⟨g, rfl⟩
      rw [hg] at hb
      simp only [Option.toList_some, List.mem_singleton] at hb
      exact mem_blks.2 ⟨_, List.mem_of_getElem? hres, by rw [hb]; exact hg⟩
    · show List.Perm _ (IRs.res ρ (rset id _ R))
      rw [hi2, res_set]
      exact .refl _
  · cases h

/-! ### rows -/

/-- n elements, as cells -/
def prs (t : Nat) : Nat → List AV → Option (List (U.Dat t))
  | 0, [] => some []
  | 0, _ => none
  | n + 1, cs => (L.parse t (cs.take (U.sz t))).bind fun x => (prs t n (cs.drop (U.sz t))).map fun l => x :: l
theorem prs_ok {t : Nat} : ∀ {n : Nat} {cs : List AV} {l : List (U.Dat t)}, prs t n cs = some l → cs.length = n * U.sz t → l.length = n ∧ ∀ A w us, RelL A w cs us → RelL A w (l.flatMap (U.cells t)) us
  | 0, [], l, h, _ => by
    cases h
    exact ⟨rfl, fun A w us h => h⟩
  | 0, _ :: _, l, h, _ => by cases h
  | n + 1, cs, l, h, hl => by
    unfold prs at h
    obtain ⟨x, h1, h⟩ := Option.bind_eq_some_iff.1 h
    obtain ⟨l', h2, rfl⟩ := Option.map_eq_some_iff.1 h
    rw [Nat.succ_mul] at hl
    obtain ⟨h3, h4⟩ := prs_ok h2 (by rw [List.length_drop]; omega)
    refine ⟨by simp [h3], fun A w us hr => ?_⟩
    rw [List.flatMap_cons, ← List.take_append_drop (U.sz t) us]
    exact (L.parse_ok _ _ _ h1 A w _ (hr.take _)).app (h4 A w _ (hr.drop _))

def litE (P : Program) (ev : Operand → Option AV) (rd : Nat → Option IR) (nx : Nat) (T : TypeId) (n : Nat) (ps : List (Nat × Operand)) (K : Eff → Option α) : Option α := match P.underlying T with
  | some (.slice e) => match szIs P e (U.sz e) with
    | true => match n with
      | 0 => match ps with
        | [] => K (.new (.own nx) (.row e []))
        | _ => none
      | n + 1 => match evp ev ps, zerosOf P e with
        | some as, some zs => match Nat.beq zs.length (U.sz e) && Nat.blt 0 (U.sz e) && Nat.ble ((n + 1) * U.sz e) 16777216 with
          | true => (dfill rd (fun i => some (i * U.sz e, U.sz e)) ((List.replicate (n + 1) zs).flatten.map .lit) as).bind fun cs => match cs.all dat1 && Nat.beq cs.length ((n + 1) * U.sz e) with
            | true => (prs e (n + 1) cs).bind fun l => K (.new (.own nx) (.row e l))
            | false => none
          | false => none
        | _, _ => none
    | false => none
  | _ => none

theorem nxRow (hs : See ev rd nx E R) {t : Nat} {l : List (U.Dat t)} {ρ : Gh} {σ' : List Res} {a : AV} (hK : K (.new (.own nx) (.row t l)) = some r) (h : ∃ v, a = .lit v ∧ σ' = .row v t l :: IRs.res ρ R) : Nx R nx K r ρ (some a) σ' := by
  obtain ⟨v, ha, hσ⟩ := h
  refine nxNew hs (ρ' := ρ.putV nx v) hK (.own _ (Nat.lt_succ_self _)) trivial (.putV ρ nx v) ?_ ?_
  · rw [ha, sub_own]; simp [Gh.putV]
  · rw [hσ]; simp [IR.res, Gh.putV]

theorem litE_ok {T : TypeId} {n : Nat} {ps : Array (Nat × Operand)} (hs : See ev rd nx E R) (ho : o.op = .buildSlice T n ps) (h : litE P ev rd nx T n ps.toList K = some r) : Stp P o E R nx K r := fun ρ C => by
  unfold litE at h
  split at h
  case h_2 => cases h
  rename_i e hT
  split at h
  case h_2 => cases h
  rename_i hsz
  have hsz := szIs_ok hsz
  split at h
  · split at h
    case h_2 => cases h
    rename_i h0
    have h0 : ps = #[] := by rw [← Array.toList_eq_nil_iff]; exact h0
    subst h0
    exact .ofV (.lit0 ho hT hsz) (by simp) fun a σ' hN => nxRow hs h hN
  · rename_i n
    split at h
    case h_2 => cases h
    rename_i as zs he hz
    split at h
    case h_2 => cases h
    rename_i hc
    simp only [Bool.and_eq_true] at hc
    obtain ⟨⟨hc1, hc2⟩, hc3⟩ := hc
    have hc1 := beqT hc1
    have hc2 : 0 < U.sz e := by simpa [Nat.blt_eq] using hc2
    have hc3 := Nat.le_of_ble_eq_true hc3
    obtain ⟨cs, hf, h⟩ := Option.bind_eq_some_iff.1 h
    split at h
    case h_2 => cases h
    rename_i hd
    simp only [Bool.and_eq_true] at hd
    obtain ⟨hd1, hd2⟩ := hd
    have hd2 := beqT hd2
    obtain ⟨l, hl, h⟩ := Option.bind_eq_some_iff.1 h
    obtain ⟨hl1, hl2⟩ := prs_ok hl hd2
    refine .ofV (.lit l ho hT hsz hz hc1 (fun A w ϱ hd hρ => ?_) hl1 (fun i hi => L.len _ _) (Nat.mul_pos (Nat.succ_pos _) hc2) hc3) (by simp) fun a σ' hN => nxRow hs h hN
    obtain ⟨us, h1, h2⟩ := dfill_rel (init := (List.replicate (n + 1) zs).flatten.toArray) hs hd (by rw [lits_sub]; exact RelL.lits _) (evp_rel hs hρ he) hf
    rw [datL_sub hd1] at h2
    exact ⟨us, h1, hl2 _ _ _ h2⟩

def mkE (P : Program) (nx : Nat) (T : TypeId) (x y : Option AV) (K : Eff → Option α) : Option α := match P.underlying T, x, y with
  | some (.slice e), some (.lit (.int .i64 m)), some (.lit (.int .i64 n)) => match (P.info? e).map (fun i => (i.size, i.bytes)), zerosOf P e with
    | some (sz, by'), some zs => match Nat.beq sz (U.sz e) && Nat.ble by' 4096 && Nat.beq zs.length (U.sz e) && Nat.blt 0 (U.sz e) with
      | true => (L.parse e (zs.map .lit)).bind fun d => if 0 ≤ m ∧ m ≤ n ∧ n ≤ 1073741824 then K (.new (.own nx) (.row e (List.replicate m.toNat d))) else none
      | false => none
    | _, _ => none
  | _, _, _ => none
theorem mkE_ok {T : TypeId} (hs : See ev rd nx E R) (ho : o.op = .makeSlice T x y) (h : mkE P nx T (ev x) (ev y) K = some r) : Stp P o E R nx K r := fun ρ C => by
  unfold mkE at h
  split at h
  case h_2 => cases h
  rename_i e m n hT hx hy
  split at h
  case h_2 => cases h
  rename_i sz by' zs hb hz
  split at h
  case h_2 => cases h
  rename_i hc
  simp only [Bool.and_eq_true] at hc
  obtain ⟨⟨⟨hc1, hc2⟩, hc3⟩, hc4⟩ := hc
  have hc1 := beqT hc1
  have hc3 := beqT hc3
  have hc4 : 0 < U.sz e := by simpa [Nat.blt_eq] using hc4
  subst hc1
  obtain ⟨d, hd, h⟩ := Option.bind_eq_some_iff.1 h
  split at h
  case isFalse => cases h
  rename_i hm
  have ex := hs.evs hx ρ
  have ey := hs.evs hy ρ
  rw [sub_lit] at ex ey
  exact .ofV (.make d ho ex ey hT hb hz hc2 hc3 (fun A w => L.parse_ok _ _ _ hd A w _ (RelL.lits _)) hc4 hm) (by simp) fun a σ' hN => nxRow hs h hN

/-- x[:0:0] -/
def emE (P : Program) (nx : Nat) (T : TypeId) (x : Option AV) (K : Eff → Option α) : Option α := match P.underlying T with
  | some (.slice e) => match P.info? e with
    | some _ => match x with
      | some (.sl _ _) => K (.new (.own nx) (.row e []))
      | some (.lit (.slice none 0 0)) => K (.new (.own nx) (.row e []))
      | _ => none
    | none => none
  | _ => none
theorem emE_ok {T : TypeId} {k k' : IntKind} (hs : See ev rd nx E R) (ho : o.op = .slice T x none (some (.const (.int k 0))) (some (.const (.int k' 0)))) (h : emE P nx T (ev x) K = some r) : Stp P o E R nx K r := fun ρ C => by
  unfold emE at h
  split at h
  case h_2 => cases h
  rename_i e hT
  split at h
  case h_2 => cases h
  rename_i i hi
  split at h
  · rename_i t l hx
    have ex := hs.evs hx ρ
    rw [sub_sl] at ex
    exact .ofV (.slice00 ho (.inl ex) hT (by rw [hi]; rfl)) (by simp) fun a σ' hN => nxRow hs h hN
  · rename_i hx
    have ex := hs.evs hx ρ
    rw [sub_lit] at ex
    exact .ofV (.slice00 (q := 0) (l := []) ho (.inr ex) hT (by rw [hi]; rfl)) (by simp) fun a σ' hN => nxRow hs h hN
  · cases h

/-! ### append -/

/-- the elements of an operand -/
def srcD (rd : Nat → Option IR) (e : Nat) (x : Option AV) : Option (List (U.Dat e)) := match x with
  | some (.lit (.slice _ 0 _)) => some []
  | some (.sl t l) => castL t e l
  | some (.own id) => match rd id with
    | some (.row t l) => castL t e l
    | _ => none
  | _ => none
theorem srcD_ok {e : Nat} {l : List (U.Dat e)} (hs : See ev rd nx E R) (h : srcD rd e (ev x) = some l) (ρ : Gh) : Src (IRs.res ρ R) (E.sub ρ) x e l := by
  unfold srcD at h
  split at h
  · rename_i hx
    cases h
    have ex := hs.evs hx ρ
    rw [sub_lit] at ex
    exact .inl ⟨_, _, ex, rfl⟩
  · rename_i t l' hx
    obtain ⟨rfl, rfl⟩ := castL_ok h
    have ex := hs.evs hx ρ
    rw [sub_sl] at ex
    exact .inr (.inl ex)
  · rename_i id hx
    split at h
    case h_2 => cases h
    rename_i t l' hr
    obtain ⟨rfl, rfl⟩ := castL_ok h
    have ex := hs.evs hx ρ
    rw [sub_own] at ex
    obtain ⟨i, hi⟩ := hs.row hr ρ
    exact .inr (.inr ⟨i, _, ex, hi⟩)
  · cases h

theorem Src.cons {P : Program} {σ : List Res} {E : Env} {rr : Res} {q : Nat} {l : List (U.Dat q)} (h : Src σ E x q l) : Src (rr :: σ) E x q l := by
  rcases h with h | h | ⟨i, v, h1, h2⟩
  · exact .inl h
  · exact .inr (.inl h)
  · exact .inr (.inr ⟨i + 1, v, h1, h2⟩)

/-- what is known of the elements' type -/
def appT (P : Program) (T : TypeId) (K : Nat → List Value → Option α) : Option α := match P.underlying T with
  | some (.slice e) => match (P.info? e).map (fun i => (i.size, i.bytes)), zerosOf P e with
    | some (sz, by'), some zs => match Nat.beq sz (U.sz e) && Nat.ble by' 4096 && Nat.beq zs.length (U.sz e) with
      | true => K e zs
      | false => none
    | _, _ => none
  | _ => none
theorem appT_ok {T : TypeId} {K : Nat → List Value → Option α} (h : appT P T K = some r) : ∃ e zs by', K e zs = some r ∧ P.underlying T = some (.slice e) ∧ (P.info? e).map (fun i => (i.size, i.bytes)) = some (U.sz e, by') ∧ zerosOf P e = some zs ∧ Nat.ble by' 4096 = true ∧ zs.length = U.sz e := by
  unfold appT at h
  split at h
  case h_2 => cases h
  rename_i e hT
  split at h
  case h_2 => cases h
  rename_i sz by' zs hb hz
  split at h
  case h_2 => cases h
  rename_i hc
  simp only [Bool.and_eq_true] at hc
  obtain ⟨⟨hc1, hc2⟩, hc3⟩ := hc
  have hc1 := beqT hc1
  subst hc1
  exact ⟨e, zs, by', h, hT, hb, hz, hc2, beqT hc3⟩

/-- what is added: elements, or so many zeros -/
def addD (P : Program) (rd : Nat → Option IR) (e : Nat) (zs : List Value) (T' : TypeId) (T : TypeId) (y : Option AV) (K : List (U.Dat e) → Option α) : Option α := match Nat.beq T T' with
  | true => (srcD rd e y).bind K
  | false => match P.underlying T', y with
    | some (.int _), some (.lit (.int .i64 m)) => match Nat.blt 0 (U.sz e) && zs.all Value.oneCell' with
      | true => (L.parse e (zs.map .lit)).bind fun d => if 0 ≤ m then K (List.replicate m.toNat d) else none
      | false => none
    | _, _ => none

def appE (P : Program) (rd : Nat → Option IR) (nx : Nat) (T T' : TypeId) (x y : Option AV) (K : Eff → Option α) : Option α := appT P T fun e zs => match x with
  | some (.lit (.slice none 0 0)) => addD P rd e zs T' T y fun l2 => if l2.length ≤ 1073741824 then K (.new (.own nx) (.row e l2)) else none
  | some (.own id) => match rd id with
    | some (.row t l) => (castL t e l).bind fun l => addD P rd e zs T' T y fun l2 => if (l ++ l2).length ≤ 1073741824 then K (.grow id (.row e (l ++ l2))) else none
    | _ => none
  | _ => none

theorem set_perm {β : Type} {l : List β} {i : Nat} {a b : β} (h : l[i]? = some b) : List.Perm (l.set i a) (a :: l.eraseIdx i) := by
  have hi := (List.getElem?_eq_some_iff.1 h).1
  rw [List.eraseIdx_eq_take_drop_succ, List.set_eq_take_append_cons_drop, if_pos hi]
  exact List.perm_middle

/-- append's own law, whatever is added -/
theorem addD_ok {T T' : TypeId} {e by' : Nat} {zs : List Value} {K' : List (U.Dat e) → Option α} {rs : List Res} {ρ : Gh} {C : Cx} (hs : See ev rd nx E R) (ho : o.op = .call { callee := .builtin .append, args := #[x, y], argTypes := #[T, T'] }) (h : addD P rd e zs T' T (ev y) K' = some r)
    (hT : P.underlying T = some (.slice e)) (hb : (P.info? e).map (fun i => (i.size, i.bytes)) = some (U.sz e, by')) (hz : zerosOf P e = some zs) (hb4 : Nat.ble by' 4096 = true) (hzl : zs.length = U.sz e) :
    ∃ l2, K' l2 = some r ∧ ∀ (σ : List Res) (v : Value) (i : Nat) (l : List (U.Dat e)), (σ = IRs.res ρ R ∨ ∃ rr, σ = rr :: IRs.res ρ R) → (E.sub ρ).ev x = some (.lit v) → σ[i]? = some (.row v e l) → (l ++ l2).length ≤ 1073741824 →
      Yv P (E.sub ρ) σ o C (Option.toList (rblk v)) (fun a σ' => ∃ v', a = .lit v' ∧ σ' = σ.set i (.row v' e (l ++ l2))) := by
  unfold addD at h
  split at h
  · rename_i hTT
    have := beqT hTT
    subst this
    obtain ⟨l2, h1, h⟩ := Option.bind_eq_some_iff.1 h
    refine ⟨l2, h, fun σ v i l hσ hx hi hlen => ?_⟩
    have hsrc : Src σ (E.sub ρ) y e l2 := by
      rcases hσ with rfl | ⟨rr, rfl⟩
      · exact srcD_ok hs h1 ρ
      · exact Src.cons (P := P) (srcD_ok hs h1 ρ)
    exact .app i ho hx hi hsrc hT hb hz hzl hb4 (L.one e) hlen
  · split at h
    case h_2 => cases h
    rename_i kn m hT' hy
    split at h
    case h_2 => cases h
    rename_i hc
    simp only [Bool.and_eq_true] at hc
    obtain ⟨hc1, hc2⟩ := hc
    obtain ⟨d, hd, h⟩ := Option.bind_eq_some_iff.1 h
    split at h
    case isFalse => cases h
    rename_i hm
    refine ⟨_, h, fun σ v i l hσ hx hi hlen => ?_⟩
    have ey := hs.evs hy ρ
    rw [sub_lit] at ey
    exact .appz i d ho hx hi ey hT hT' hb hz hzl (by simpa [Nat.blt_eq] using hc1) hb4 (fun A w => L.parse_ok _ _ _ hd A w _ (RelL.lits _)) hc2 ⟨hm, hlen⟩

theorem appE_ok {T T' : TypeId} (hs : See ev rd nx E R) (ho : o.op = .call { callee := .builtin .append, args := #[x, y], argTypes := #[T, T'] }) (h : appE P rd nx T T' (ev x) (ev y) K = some r) : Stp P o E R nx K r := fun ρ C => by
  obtain ⟨e, zs, by', h, hT, hb, hz, hb4, hzl⟩ := appT_ok h
  split at h
  · rename_i hx
    obtain ⟨l2, h, hY⟩ := addD_ok (rs := []) (ρ := ρ) (C := C) hs ho h hT hb hz hb4 hzl
    split at h
    case isFalse => cases h
    rename_i hlen
    have ex := hs.evs hx ρ
    rw [sub_lit] at ex
    intro w ϱ hg hρ
    have ht : Tr C [] (IRs.res ρ R) w (.row (.slice none 0 0) e [] :: IRs.res ρ R) w := tr_own none e hg
    have hal : ∀ b, al C (IRs.res ρ R) b → al C (.row (.slice none 0 0) e [] :: IRs.res ρ R) b := fun b hA => ⟨hA.1, fun hx => hA.2 (by
      rw [blks_cons] at hx
      simpa [Res.blk, rblk] using hx)⟩
    obtain ⟨v, w', av, σ', ⟨v', ha, hσ⟩, h2, h3, h4⟩ := hY _ (.slice none 0 0) 0 [] (.inr ⟨_, rfl⟩) ex rfl (by simpa using hlen) w ϱ ht.good (fun u d hu => (hρ u d hu).mono fun b _ hA => ⟨hal b hA, rfl⟩)
    refine .inl ⟨v, w', av, σ', nxRow hs h ⟨v', ha, by rw [hσ]; rfl⟩, ⟨h2.good, ⟨h2.kp.os, h2.kp.tape, h2.kp.output, h2.kp.size, fun k hk _ => h2.kp.block k hk (by simp [rblk])⟩, fun b hb hA => ⟨(h2.al b hb (hal b hA)).1, hA.2⟩⟩, h3, h4⟩
  · rename_i id hx
    split at h
    case h_2 => cases h
    rename_i t l0 hr
    obtain ⟨l, hl, h⟩ := Option.bind_eq_some_iff.1 h
    obtain ⟨rfl, rfl⟩ := castL_ok hl
    obtain ⟨l2, h, hY⟩ := addD_ok (rs := []) (ρ := ρ) (C := C) hs ho h hT hb hz hb4 hzl
    split at h
    case isFalse => cases h
    rename_i hlen
    have ex := hs.evs hx ρ
    rw [sub_own] at ex
    obtain ⟨i, hi1, _, hi3⟩ := rget_idx (hs.r _ _ hr)
    have hres := res_get (ρ := ρ) hi1
    refine .ofV (hY _ _ i _ (.inl rfl) ex hres hlen) (fun b hb => ?_) fun a σ' ⟨v', ha, hσ⟩ => ?_
    · obtain ⟨g, hg⟩ : ∃ g, rblk (ρ.v id) = some g := by
        cases hb' : rblk (ρ.v id) with
        | none => rw [hb'] at hb; simp at hb
        | some g => exact ⟨g, rfl⟩
      rw [hg] at hb
      simp only [Option.toList_some, List.mem_singleton] at hb
      exact mem_blks.2 ⟨_, List.mem_of_getElem? hres, by rw [hb]; exact hg⟩
    · have hdl := rdel_ltd (id := id) hs.lr
      refine ⟨_, h, Nat.le_succ nx, fun p hp => ?_, fun d' hd => by cases hd; exact .own _ (Nat.lt_succ_self _), ρ.putV nx v', .putV ρ nx v', ?_, ?_⟩
      · rcases List.mem_cons.1 hp with rfl | hp
        · exact ⟨Nat.lt_succ_self _, trivial⟩
        · exact (hdl.mono (Nat.le_succ nx)) p hp
      · rw [ha]; simp [Eff.vl, sub_own, Gh.putV]
      · rw [hσ]
        show List.Perm _ (IRs.res _ ((nx, _) :: rdel id R))
        have e1 : IRs.res (ρ.putV nx v') ((nx, IR.row t (l0 ++ l2)) :: rdel id R) = Res.row v' t (l0 ++ l2) :: (IRs.res ρ R).eraseIdx i := by
          show _ :: IRs.res _ (rdel id R) = _
          rw [← hdl.res (.putV ρ nx v'), hi3, res_erase]
          simp [IR.res, Gh.putV]
        rw [e1]
        exact set_perm hres
  · cases h

def mnV (mx : Bool) (xs : List (Option AV)) (K : AV → Option α) : Option α := match xs with
  | [some (.lit (.int k m)), some (.lit (.int k' n))] => if k = k' then (match mx with
    | true => K (.n k (if m < n then n else m))
    | false => K (.n k (if n < m then n else m))) else none
  | _ => none

/-! ### calls -/

abbrev Orc := (α : Type) → FuncId → List AV → IRs → Nat → (AV → IRs → Nat → Option α) → Option α
/-- What oracle F says of calls is so. -/
def OrcOk (P : Program) (F : Orc) : Prop := ∀ (α : Type) f args R nx (k : AV → IRs → Nat → Option α) r, F α f args R nx k = some r → (∀ d ∈ args, Ltd nx d) → IRs.Ltd nx R → fnOk P f ∧
  ∀ ρ, Fn P f (args.map (AVq.sub ρ)) (IRs.res ρ R) fun a s => ∃ d R' nx', k d R' nx' = some r ∧ nx ≤ nx' ∧ Ltd nx' d ∧ IRs.Ltd nx' R' ∧ ∃ ρ', Agr nx ρ ρ' ∧ a = d.sub ρ' ∧ List.Perm s (IRs.res ρ' R')

def calE (F : Orc) (ev : Operand → Option AV) (R : IRs) (nx : Nat) (x : Option AV) (xs : List Operand) (K : Eff → Option α) : Option α := match x with
  | some (.fn (.func f) caps) => (evl ev xs).bind fun as => F α f (as ++ caps) R nx fun d R' nx' => K (.all d R' nx')
  | _ => none
theorem calE_ok {F : Orc} {xs : Array Operand} {ts : Array TypeId} (hF : OrcOk P F) (hs : See ev rd nx E R) (ho : o.op = .call { callee := .value x, args := xs, argTypes := ts }) (h : calE F ev R nx (ev x) xs.toList K = some r) : Stp P o E R nx K r := fun ρ C => by
  unfold calE at h
  split at h
  case h_2 => cases h
  rename_i f caps hx
  obtain ⟨as, ha, h⟩ := Option.bind_eq_some_iff.1 h
  have ex := hs.evs hx ρ
  rw [sub_fn] at ex
  obtain ⟨hf, hfn⟩ := hF _ _ _ _ _ _ _ h (ltd_app (evl_ltd hs ha) (hs.ltd hx).fnL) hs.lr
  refine .ofC (.fn (σr := []) ho ex hf (evl_sub hs ρ ha) (by rw [List.map_append]) (List.append_nil _).symm (hfn ρ)) (fun b hb => hb) fun a σ' ⟨σo, hN, hσ⟩ => ?_
  obtain ⟨d, R', nx', h1, h2, h3, h4, ρ', h5, h6, h7⟩ := hN
  rw [List.append_nil] at hσ
  exact ⟨.all d R' nx', h1, h2, h4, fun d' hd => by cases hd; exact h3, ρ', h5, by rw [h6]; rfl, by rw [hσ]; exact h7⟩
end
end Go.Iv
