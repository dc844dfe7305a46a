/- Merged: Imp, Iw5, Iwn, Iv8, Iw6, Iw7, Iw8, Iw9, Iw10, Iw11, Iw12, Iw13, Iw14, Iw15, Ixa, Ix1. -/
import Derived.Test.YtghilkcphindjaaGreatM1SymbolicDecodes
import Derived.MapKept
import Derived.ChangeKeysEq
import Derived.RangeFuncNested
import Derived.RangeFuncBound
import Derived.Shelf.Abstract
import Derived.TacticsIn
import Derived.OwnWalkIn
set_option linter.unusedSectionVars false
set_option linter.unusedVariables false
set_option linter.unusedSimpArgs false
set_option linter.defProp false
noncomputable section
namespace Go.Iv
variable [U : Uni] [L : UniL]
open Go Go.RowKit
def eqAs (P : Program) (e : TypeId) (xs ys : List AV) : Nat → Nat → Option Bool
 | 0, _ => some true
 | n + 1, i => match xs[i]?, ys[i]? with
  | some a, some b => (eqCell P e a b).bind fun r => (eqAs P e xs ys n (i + 1)).map fun q => r && q
  | _, _ => none
def keyEq (P : Program) (K : TypeId) (a b : AV) : Option Bool := match P.underlying K with
 | some (.int _) => eqCell P K a b
 | some (.struct fs) => match a, b with
  | .agg cs, .agg ds => match P.stoodInHeld K with
   | false => eqFs P cs ds fs.toList
   | true => none
  | _, _ => none
 | some (.array n e) => match a, b with
  | .agg cs, .agg ds => match oneB P e && szIs P e 1 with
   | true => eqAs P e cs ds n 0
   | false => none
  | _, _ => none
 | _ => none
section
variable {P : Program} {K : TypeId} {A A' : Nat → Prop} {w w' w'' : World} {a b : AV} {u v : Value} {q : Bool} {xs ys : List AV} {us vs : List Value}
theorem eqCell_lit {t : TypeId} (h : eqCell P t a b = some q) : ∃ x y, a = .lit x ∧ b = .lit y := by
 unfold eqCell at h
 split at h <;> try split at h
 all_goals first | (cases h; done) | exact ⟨_, _, rfl, rfl⟩
theorem eqCell_run' {t : TypeId} (h : eqCell P t a b = some q) (ha : Rel A w a u) (hb : Rel A' w' b v) (d : Nat) : (Op.equalIn (d + 1) t u v).run P w'' = .ok q w'' := by
 obtain ⟨x, y, rfl, rfl⟩ := eqCell_lit h
 exact eqCell_run (ρ := ⟨fun _ => undef, fun _ => 0⟩) (ρ' := ⟨fun _ => undef, fun _ => 0⟩) h (by rw [sub_lit]; exact ha) (by rw [sub_lit]; exact hb) d
theorem eqFs_run' (ha : RelL A w xs us) (hb : RelL A' w' ys vs) (d : Nat) : ∀ {fs : List Field} {q : Bool}, eqFs P xs ys fs = some q → (Op.eqFields (d + 1) us.toArray vs.toArray fs).run P w'' = .ok q w''
 | [], q, h => by cases h; simp [Op.eqFields]
 | f :: fs, q, h => by
  unfold eqFs at h
  split at h
  case h_2 => cases h
  rename_i hf
  simp only [Bool.and_eq_true, bne_iff_ne, ne_eq] at hf
  split at h
  case h_2 => cases h
  rename_i a b hx hy
  obtain ⟨r1, h1, h⟩ := Option.bind_eq_some_iff.1 h
  obtain ⟨q1, h2, rfl⟩ := Option.map_eq_some_iff.1 h
  obtain ⟨u, hu, hu'⟩ := ha.get hx
  obtain ⟨v, hv, hv'⟩ := hb.get hy
  have ih := eqFs_run' ha hb d h2
  have hone := oneB_ok hf.2
  unfold Op.eqFields
  rw [if_pos hf.1]
  simp only [Sem.run_bind, run_part_one hone hu, run_part_one hone hv, Result.andThen_ok, eqCell_run' (w'' := w'') h1 hu' hv' d]
  cases r1 with
  | true => simpa using ih
  | false => simp
theorem eqAs_run {e : TypeId} (h1 : oneB P e = true) (ha : RelL A w xs us) (hb : RelL A' w' ys vs) (d : Nat) : ∀ {n i : Nat} {q : Bool}, eqAs P e xs ys n i = some q → (Op.eqItems (d + 1) e 1 us.toArray vs.toArray (List.range' i n)).run P w'' = .ok q w''
 | 0, i, q, h => by cases h; simp [Op.eqItems]
 | n + 1, i, q, h => by
  unfold eqAs at h
  split at h
  case h_2 => cases h
  rename_i a b hx hy
  obtain ⟨r1, h2, h⟩ := Option.bind_eq_some_iff.1 h
  obtain ⟨q1, h3, rfl⟩ := Option.map_eq_some_iff.1 h
  obtain ⟨u, hu, hu'⟩ := ha.get hx
  obtain ⟨v, hv, hv'⟩ := hb.get hy
  have ih := eqAs_run h1 ha hb d h3
  have hone := oneB_ok h1
  rw [List.range'_succ]
  unfold Op.eqItems
  simp only [Sem.run_bind, Nat.mul_one, run_part_one hone hu, run_part_one hone hv, Result.andThen_ok, eqCell_run' (w'' := w'') h2 hu' hv' d]
  cases r1 with
  | true => simpa using ih
  | false => simp
theorem szIs_cells {e : TypeId} {n : Nat} (h : szIs P e n = true) : P.cellsOf e = n ∧ ∃ i, P.info? e = some i := by
 have h := szIs_ok h
 obtain ⟨i, h1, h2⟩ := Option.map_eq_some_iff.1 h
 exact ⟨by simp [Program.cellsOf, h1, h2], i, h1⟩
theorem keyEq_run (h : keyEq P K a b = some q) (ha : Rel A w a u) (hb : Rel A' w' b v) : (Op.equal K u v).run P w'' = .ok q w'' := by
  show (Op.equalIn (9999 + 1) K u v).run P w'' = _
  unfold keyEq at h
  split at h
  · exact eqCell_run' h ha hb 9999
  · rename_i fs hK
    split at h
    case h_2 => cases h
    rename_i cs ds
    split at h
    case h_2 => cases h
    rename_i hs
    obtain ⟨us, rfl, h1⟩ := ha.aggInv
    obtain ⟨vs, rfl, h2⟩ := hb.aggInv
    have hfs : P.fieldsOf K = fs := by unfold Program.fieldsOf; rw [hK]
    rw [run_equalIn_struct (P := P) w'' 9999 K us.toArray vs.toArray (by rw [hfs]; exact hK) hs, hfs]
    exact eqFs_run' h1 h2 9998 h
  · rename_i n e hK
    split at h
    case h_2 => cases h
    rename_i cs ds
    split at h
    case h_2 => cases h
    rename_i hs
    rw [Bool.and_eq_true] at hs
    obtain ⟨hc, i, hi⟩ := szIs_cells hs.2
    obtain ⟨us, rfl, h1⟩ := ha.aggInv
    obtain ⟨vs, rfl, h2⟩ := hb.aggInv
    rw [run_equalIn_array w'' 9999 us.toArray vs.toArray hK hi, hc, List.range_eq_range']
    exact eqAs_run hs.1 h1 h2 9998 h
  · cases h
def EnR (A : Nat → Prop) (w : World) (es : List (AV × AV)) (ar : List MapEntry) : Prop := ar.length = es.length ∧ ∀ (i : Nat) e m, es[i]? = some e → ar[i]? = some m → Rel A w e.1 m.key ∧ Rel A w e.2 m.val
theorem EnR.tail {e : AV × AV} {m : MapEntry} {es : List (AV × AV)} {ar : List MapEntry} (h : EnR A w (e :: es) (m :: ar)) : EnR A w es ar := ⟨by simpa using h.1, fun i e m h1 h2 => h.2 (i + 1) e m (by simpa using h1) (by simpa using h2)⟩
def noE (P : Program) (K : TypeId) (k : AV) (es : List (AV × AV)) : Bool := List.rec true (fun e _ ih => match keyEq P K k e.1 with
 | some false => ih
 | _ => false) es
theorem noE_ok {k : AV} : ∀ {es : List (AV × AV)}, noE P K k es = true → ∀ e ∈ es, keyEq P K k e.1 = some false
  | [], _, _, h => by cases h
  | e :: es, h, x, hx => by
    change (match keyEq P K k e.1 with
      | some false => noE P K k es
      | _ => false) = true at h
    split at h
    · rename_i h1
      rcases List.mem_cons.1 hx with rfl | hx
      · exact h1
      · exact noE_ok h x hx
    · cases h
def lkE {α : Type} (P : Program) (K : TypeId) (k : AV) (hit : Nat → AV × AV → Option α) (miss : Option α) (es : List (AV × AV)) : Nat → Option α :=
 List.rec (fun _ => miss) (fun e es ih i => (keyEq P K k e.1).bind fun q => match q with
  | true => match noE P K k es with
   | true => hit i e
   | false => none
  | false => ih (i + 1)) es
theorem eqCell_int {k0 : IntKind} (hK : P.underlying K = some (.int k0)) (h : eqCell P K a b = some q) : ∃ k m n, a = .lit (.int k m) ∧ b = .lit (.int k n) ∧ q = (m == n) := by
  unfold eqCell at h
  rw [hK] at h
  dsimp only at h
  split at h
  · split at h
    · rename_i hk
      subst hk
      cases h
      exact ⟨_, _, _, rfl, rfl, rfl⟩
    · cases h
  · cases h
theorem now_int {k0 : IntKind} (hK : P.underlying K = some (.int k0)) (h : keyEq P K a b = some q) (ha : Rel A w a u) (hb : Rel A' w' b v) : Instr.sameNow (.int k0) u v = some q := by
 have h0 : eqCell P K a b = some q := by
  unfold keyEq at h
  rw [hK] at h
  exact h
 obtain ⟨kk, x, y, rfl, rfl, rfl⟩ := eqCell_int hK h0
 rw [ha.litEq, hb.litEq]
 simp [Instr.sameNow]
def Fd (P : Program) (K : TypeId) (u : Value) (ar : List MapEntry) (i : Nat) (o : Option (Nat × Value)) : Prop := (∀ w, (Instr.findAsking K u ar i).run P w = .ok o w) ∧ ∀ k0, P.underlying K = some (.int k0) → Instr.findNow (.int k0) u ar i = some o
theorem lkE_cases {α : Type} {r : α} {k : AV} {hit : Nat → AV × AV → Option α} {miss : Option α} : ∀ {es : List (AV × AV)} {i : Nat}, lkE P K k hit miss es i = some r →
    (∃ (e : AV × AV) (es1 es2 : List (AV × AV)), es = es1 ++ e :: es2 ∧ hit (i + es1.length) e = some r ∧ keyEq P K k e.1 = some true ∧ ∀ e' ∈ es1 ++ es2, keyEq P K k e'.1 = some false) ∨ (miss = some r ∧ ∀ e ∈ es, keyEq P K k e.1 = some false)
  | [], i, h => .inr ⟨h, fun _ h => by cases h⟩
  | e :: es, i, h => by
    obtain ⟨q, h1, h2⟩ := Option.bind_eq_some_iff.1 (show (keyEq P K k e.1).bind (fun q => match q with
      | true => match noE P K k es with
        | true => hit i e
        | false => none
      | false => lkE P K k hit miss es (i + 1)) = some r from h)
    cases q with
    | true =>
      cases h3 : noE P K k es with
      | true =>
        rw [h3] at h2
        exact .inl ⟨e, [], es, rfl, h2, h1, noE_ok h3⟩
      | false =>
        rw [h3] at h2
        cases h2
    | false =>
      rcases lkE_cases h2 with ⟨e', es1, es2, p1, p2, p3, p4⟩ | ⟨p1, p2⟩
      · exact .inl ⟨e', e :: es1, es2, by rw [p1]; rfl, by rw [← p2]; congr 1; simp only [List.length_cons]; omega, p3, fun e'' he => by
          rcases List.mem_cons.1 he with rfl | he
          · exact h1
          · exact p4 e'' he⟩
      · exact .inr ⟨p1, fun x hx => by
          rcases List.mem_cons.1 hx with rfl | hx
          · exact h1
          · exact p2 x hx⟩
theorem Fd.step {m : MapEntry} {ar : List MapEntry} {i : Nat} {o : Option (Nat × Value)} (h : keyEq P K a b = some false) (ha : Rel A w a u) (hb : Rel A' w' b m.key) (hn : Fd P K u ar (i + 1) o) : Fd P K u (m :: ar) i o :=
 ⟨fun w'' => by simp [Instr.findAsking, keyEq_run h ha hb, hn.1], fun k0 hK => by simp [Instr.findNow, now_int hK h ha hb, hn.2 k0 hK]⟩
theorem Fd.hit {k : AV} (hu : Rel A' w' k u) : ∀ {es : List (AV × AV)} {ar : List MapEntry} {i j : Nat} {e : AV × AV}, EnR A w es ar → es[j]? = some e → keyEq P K k e.1 = some true → (∀ (j' : Nat) e', j' < j → es[j']? = some e' → keyEq P K k e'.1 = some false) →
  ∃ m, ar[j]? = some m ∧ Fd P K u ar i (some (i + j, m.val))
 | [], ar, i, j, e, hr, hj, ht, hf => by cases hj
 | e0 :: es, [], i, j, e, hr, hj, ht, hf => absurd hr.1 (by simp)
 | e0 :: es, m :: ar, i, 0, e, hr, hj, ht, hf => by
  cases hj
  have hk := (hr.2 0 e0 m rfl rfl).1
  exact ⟨m, rfl, fun w'' => by simp [Instr.findAsking, keyEq_run ht hu hk], fun k0 hK => by simp [Instr.findNow, now_int hK ht hu hk]⟩
 | e0 :: es, m :: ar, i, j + 1, e, hr, hj, ht, hf => by
  obtain ⟨m', h1, h2⟩ := Fd.hit hu (i := i + 1) hr.tail (by simpa using hj) ht (fun j' e' hj he => hf (j' + 1) e' (by omega) (by simpa using he))
  refine ⟨m', by simpa using h1, ?_⟩
  have e1 : i + (j + 1) = i + 1 + j := by omega
  rw [e1]
  exact h2.step (hf 0 e0 (by omega) rfl) hu (hr.2 0 e0 m rfl rfl).1
theorem perm_mid {e : AV × AV} {fs es1 es2 : List (AV × AV)} (h : List.Perm fs (es1 ++ e :: es2)) : ∃ fs1 fs2, fs = fs1 ++ e :: fs2 ∧ List.Perm (fs1 ++ fs2) (es1 ++ es2) := by
 obtain ⟨fs1, fs2, rfl⟩ := List.append_of_mem (h.mem_iff.2 (List.mem_append_right es1 List.mem_cons_self))
 exact ⟨fs1, fs2, rfl, (List.perm_middle.symm.trans (h.trans List.perm_middle)).cons_inv⟩
theorem Fd.hitP {k : AV} (hu : Rel A' w' k u) {e : AV × AV} {fs es1 es2 : List (AV × AV)} {ar : List MapEntry} (hp : List.Perm fs (es1 ++ e :: es2)) (hE : EnR A w fs ar) (ht : keyEq P K k e.1 = some true) (hf : ∀ e' ∈ es1 ++ es2, keyEq P K k e'.1 = some false) :
  ∃ fs1 fs2 m, fs = fs1 ++ e :: fs2 ∧ List.Perm (fs1 ++ fs2) (es1 ++ es2) ∧ ar[fs1.length]? = some m ∧ Fd P K u ar 0 (some (fs1.length, m.val)) := by
 obtain ⟨fs1, fs2, rfl, h2⟩ := perm_mid hp
 obtain ⟨m, q1, q2⟩ := Fd.hit (i := 0) (j := fs1.length) hu hE (by simp) ht fun j' e' hj he => hf e' (h2.mem_iff.1 (List.mem_append_left _ (by
  rw [List.getElem?_append_left hj] at he
  exact List.mem_of_getElem? he)))
 rw [Nat.zero_add] at q2
 exact ⟨fs1, fs2, m, rfl, h2, q1, q2⟩
theorem Fd.miss {k : AV} (hu : Rel A' w' k u) : ∀ {es : List (AV × AV)} {ar : List MapEntry} {i : Nat}, EnR A w es ar → (∀ e ∈ es, keyEq P K k e.1 = some false) → Fd P K u ar i none
 | [], ar, i, hr, hf => by
  have : ar = [] := List.length_eq_zero_iff.1 hr.1
  subst this
  exact ⟨fun _ => rfl, fun _ _ => rfl⟩
 | e0 :: es, [], i, hr, hf => absurd hr.1 (by simp)
 | e0 :: es, m :: ar, i, hr, hf => (Fd.miss hu hr.tail fun e he => hf e (List.mem_cons_of_mem _ he)).step (hf e0 List.mem_cons_self) hu (hr.2 0 e0 m rfl rfl).1
def intB (P : Program) (t : TypeId) : Bool := match P.underlying t with
 | some (.int _) => true
 | _ => false
def keyC (P : Program) (K : TypeId) (k : AV) : Bool := match P.underlying K with
 | some (.int _) => true
 | some (.struct fs) => match k with
  | .agg cs => fs.toList.all fun f => intB P f.type && Nat.blt f.offset cs.length
  | _ => false
 | some (.array n e) => match k with
  | .agg cs => intB P e && szIs P e 1 && Nat.ble n cs.length
  | _ => false
 | _ => false
theorem intB_one {t : TypeId} (h : intB P t = true) : isOne P t ∧ ∀ (em : Bool) (d : Nat) (v : Value) (w : World), (Instr.checkKey em (d + 1) t v).run P w = .ok () w := by
  unfold intB at h
  split at h
  · rename_i k hk
    exact ⟨⟨_, hk, trivial⟩, fun em d v w => by
      unfold Instr.checkKey
      simp only [Sem.run_bind, run_underlying hk, Result.andThen]
      cases v <;> rfl⟩
  · cases h
theorem keyC_run {k : AV} (h : keyC P K k = true) (hu : Rel A w k u) (em : Bool) : (Instr.checkKey em 10000 K u).run P w'' = .ok () w'' := by
  show (Instr.checkKey em (9999 + 1) K u).run P w'' = _
  unfold keyC at h
  split at h
  · rename_i k0 hK
    exact (intB_one (by unfold intB; rw [hK])).2 em 9999 u w''
  · rename_i fs hK
    split at h
    case h_2 => cases h
    rename_i cs
    obtain ⟨us, rfl, h1⟩ := hu.aggInv
    unfold Instr.checkKey
    simp only [Sem.run_bind, run_underlying hK, Result.andThen_ok]
    rw [← Array.forIn_toList]
    generalize fs.toList = l at h
    clear hK
    induction l with
    | nil => rfl
    | cons f l ih =>
      rw [List.all_cons, Bool.and_eq_true, Bool.and_eq_true] at h
      obtain ⟨⟨h2, h3⟩, h4⟩ := h
      have h3 : f.offset < us.length := by rw [h1.1]; simpa [Nat.blt_eq] using h3
      obtain ⟨h5, h6⟩ := intB_one h2
      simp only [List.forIn_cons, Sem.run_bind, Sem.run_ite, run_part_one h5 (List.getElem?_eq_getElem h3), h6 em 9998, Result.andThen_ok, Sem.run_pure, ite_self]
      exact ih h4
  · rename_i n e hK
    split at h
    case h_2 => cases h
    rename_i cs
    rw [Bool.and_eq_true, Bool.and_eq_true] at h
    obtain ⟨⟨h2, h3⟩, h4⟩ := h
    obtain ⟨hc, i, hi⟩ := szIs_cells h3
    obtain ⟨us, rfl, h1⟩ := hu.aggInv
    have h4 : n ≤ us.length := by rw [h1.1]; exact Nat.le_of_ble_eq_true h4
    obtain ⟨h5, h6⟩ := intB_one h2
    unfold Instr.checkKey
    simp only [Sem.run_bind, run_underlying hK, Result.andThen_ok, run_sizeOf w'' hi, hc, Nat.mul_one]
    simp only [Std.Legacy.Range.forIn_eq_forIn_range', Std.Legacy.Range.size, Nat.sub_zero, Nat.add_one_sub_one, Nat.div_one]
    have key : ∀ (l : List Nat), (∀ j ∈ l, j < us.length) → (forIn (m := Sem) l PUnit.unit fun i r => do
        let s ← sizeOf e
        let v ← part e us.toArray (i * s)
        Instr.checkKey em 9999 e v
        pure (ForInStep.yield PUnit.unit)).run P w'' = .ok PUnit.unit w'' := fun l => by
      induction l with
      | nil => intro _; rfl
      | cons j l ih =>
        intro hl
        simp only [List.forIn_cons, Sem.run_bind, run_sizeOf w'' hi, hc, Nat.mul_one, run_part_one h5 (List.getElem?_eq_getElem (hl j List.mem_cons_self)), h6 em 9998, Result.andThen_ok, Sem.run_pure]
        exact ih fun x hx => hl x (List.mem_cons_of_mem _ hx)
    have := key (List.range' 0 n) fun j hj => by
      rw [List.mem_range'_1] at hj
      omega
    rw [this]
    rfl
  · cases h
theorem find_ask {d : TypeDesc} {ar : List MapEntry} {o : Option (Nat × Value)} (hd : P.underlying K = some d) (hn : ∀ x y, Instr.sameNow d x y = none) (h : ∀ w, (Instr.findAsking K u ar 0).run P w = .ok o w) : (Instr.findKey K u ar).run P w'' = .ok o w'' := by
 cases ar with
 | nil =>
  have := h w''
  simp only [Instr.findAsking, Sem.run_pure, Result.ok.injEq, and_true] at this
  subst this
  simp [Instr.findKey, run_underlying hd, Instr.findNow]
 | cons m ar =>
  have := h w''
  simp only [Instr.findKey, Sem.run_bind, run_underlying hd, Result.andThen_ok, Instr.findNow, hn]
  exact this
theorem Fd.key {ar : List MapEntry} {o : Option (Nat × Value)} {k : AV} (h : Fd P K u ar 0 o) (hk : keyC P K k = true) : (Instr.findKey K u ar).run P w'' = .ok o w'' := by
  unfold keyC at hk
  split at hk
  · rename_i k0 hK
    exact MapKept.run_findKey hK (h.2 k0 hK)
  · rename_i fs hK
    exact find_ask hK (fun _ _ => rfl) h.1
  · rename_i n e hK
    exact find_ask hK (fun _ _ => rfl) h.1
  · cases hk
end
theorem datB_ltd {d : AV} (h : datB d = true) (n : Nat) : Ltd n d := by
  have one : ∀ c : AV, dat1 c = true → Ltd n c := fun c hc => by
    cases c with
    | fn f cs =>
      cases cs with
      | nil => exact .fn _ _ fun c hc => by cases hc
      | cons a l => cases hc
    | _ => first | (cases hc; done) | exact .lit _ | exact .sl _ _
  by_cases ha : ∃ cs, d = .agg cs
  · obtain ⟨cs, rfl⟩ := ha
    exact .agg cs fun c hc => one c (List.all_eq_true.1 h c hc)
  · exact one d (by cases d <;> first | exact h | (exact absurd ⟨_, rfl⟩ ha))
section
variable {α : Type} {r : α} {P : Program} {o : Oper} {E : Env} {R : IRs} {nx : Nat} {ev : Operand → Option AV} {rd : Nat → Option IR} {x y z : Operand} {d : AV}
theorem See.map (h : See ev rd nx E R) {id : Nat} {es : List (AV × AV)} (hr : rd id = some (.mp es)) (ρ : Gh) : ∃ i : Nat, (IRs.res ρ R)[i]? = some (.mp (ρ.v id) es) := by
 obtain ⟨i, h1, _⟩ := rget_idx (h.r _ _ hr)
 exact ⟨i, res_get h1⟩
theorem enR_of {A : Nat → Prop} {w : World} {v : Value} {es : List (AV × AV)} (h : Res.ok A w (.mp v es)) : ∃ b ar cl fs, v = .map (some b) ∧ w.heap[b]? = some (.map ar cl) ∧ List.Perm fs es ∧ EnR A w fs ar.toList := by
 obtain ⟨b, ar, cl, h1, h2, fs, hp, h3, h4⟩ := h
 exact ⟨b, ar, cl, fs, h1, h2, hp, by simpa using h3, fun i e m q1 q2 => h4 i e m q1 (by simpa using q2)⟩
theorem ok_enR {A : Nat → Prop} {w : World} {b cl : Nat} {ar : Array MapEntry} {fs es : List (AV × AV)} (h1 : w.heap[b]? = some (.map ar cl)) (hp : List.Perm fs es) (h2 : EnR A w fs ar.toList) : Res.ok A w (.mp (.map (some b)) es) :=
 ⟨b, ar, cl, rfl, h1, fs, hp, by simpa using h2.1, fun i e m q1 q2 => h2.2 i e m q1 (by simpa using q2)⟩
def lkR (ok : Bool) (d : AV) (b : Bool) : AV := match ok with
 | true => .tup [d, .b b]
 | false => d
def lkpE (P : Program) (rd : Nat → Option IR) (T : TypeId) (x y : Option AV) (ok : Bool) (K : AV → Option α) : Option α := match P.underlying T, x, y with
  | some (.map kt et), some (.own id), some k => match rd id, (P.info? et).bind (·.zero), keyC P kt k && datB k with
    | some (.mp es), some z, true => lkE P kt k (fun _ e => match datB e.2 with
      | true => K (lkR ok e.2 true)
      | false => none) (K (lkR ok (.lit z) false)) es 0
    | _, _, _ => none
  | _, _, _ => none
theorem lkR_pu {ok : Bool} {d : AV} {b : Bool} (hd : ∀ ρ, d.sub ρ = d) (hl : Ltd nx d) (h : ∀ ρ, Yp P (E.sub ρ) (IRs.res ρ R) o (lkR ok d b)) : Pu P o E R nx (lkR ok d b) := by
  cases ok with
  | false => exact ⟨hl, fun ρ => by rw [show lkR false d b = d from rfl, hd]; exact h ρ⟩
  | true =>
    refine ⟨.tup _ fun c hc => ?_, fun ρ => ?_⟩
    · rcases List.mem_cons.1 hc with rfl | hc
      · exact hl
      · rw [List.mem_singleton.1 hc]; exact .lit _
    · rw [show lkR true d b = .tup [d, .b b] from rfl, sub_tup]
      simp only [List.map_cons, List.map_nil, hd, sub_lit]
      exact h ρ
theorem lkR_rel {A : Nat → Prop} {w : World} {ok : Bool} {d : AV} {v : Value} {b : Bool} (h : Rel A w d v) : Rel A w (lkR ok d b) (if ok then .tuple #[v, .bool b] else v) := by
 cases ok with
 | false => exact h
 | true => exact Rel.tupL (RelL.cons h (RelL.cons (.lit _) RelL.nil))
theorem lkpE_ok {T : TypeId} {ok : Bool} {K : AV → Option α} (hs : See ev rd nx E R) (ho : o.op = .lookup T x y ok) (h : lkpE P rd T (ev x) (ev y) ok K = some r) : ∃ d, K d = some r ∧ Pu P o E R nx d := by
  unfold lkpE at h
  split at h
  case h_2 => cases h
  rename_i kt et id k hT hx hy
  split at h
  case h_2 => cases h
  rename_i es zv hr hz hk
  rw [Bool.and_eq_true] at hk
  obtain ⟨ti, hz1, hz2⟩ := Option.bind_eq_some_iff.1 hz
  have run : ∀ (ρ : Gh) (d : AV) (b : Bool), (∀ (A : Nat → Prop) (w : World) (u : Value) (fs : List (AV × AV)) (ar : List MapEntry), Rel A w k u → List.Perm fs es → EnR A w fs ar → ∃ v o, Rel A w d v ∧ Fd P kt u ar 0 o ∧ (match o with | some (_, v') => b = true ∧ v' = v | none => b = false ∧ zv = v)) → Yp P (E.sub ρ) (IRs.res ρ R) o (lkR ok d b) := fun ρ d b hf A w ϱ hd hρ => by
    have ex := hs.evs hx ρ
    have ey := hs.evs hy ρ
    rw [sub_own] at ex
    rw [datB_sub hk.2] at ey
    obtain ⟨i, hi⟩ := hs.map hr ρ
    obtain ⟨bk, ar, cl, fs, q1, q2, qp, q3⟩ := enR_of (hd.1 _ (List.mem_of_getElem? hi))
    have hx' := (hρ _ _ ex).litEq
    have hu := hρ _ _ ey
    obtain ⟨v, o', h1, h2, h3⟩ := hf A w _ _ _ hu qp q3
    refine ⟨_, lkR_rel h1, fun w' hw => ?_⟩
    have hb : w'.heap[bk]? = some (.map ar cl) := by
      rw [hw bk (Array.getElem?_eq_some_iff.1 q2).1 (.inr (mem_blks.2 ⟨_, List.mem_of_getElem? hi, by rw [q1]; rfl⟩))]
      exact q2
    have hck := keyC_run (w'' := w') hk.1 hu ar.isEmpty
    have hfk := h2.key (w'' := w') hk.1
    simp only [execOp, ho]
    cases o' with
    | none =>
      obtain ⟨rfl, rfl⟩ := h3
      simp [Instr.lookup, run_underlying hT, hx', q1, MapKept.run_getObj_map hb, hck, hfk, zeroValue, typeInfo, hz1, hz2]
    | some p =>
      obtain ⟨j, v'⟩ := p
      obtain ⟨rfl, rfl⟩ := h3
      simp [Instr.lookup, run_underlying hT, hx', q1, MapKept.run_getObj_map hb, hck, hfk]
  rcases lkE_cases h with ⟨e, es1, es2, rfl, h2, h3, h4⟩ | ⟨h1, h2⟩
  · split at h2
    · rename_i hdat
      refine ⟨_, h2, lkR_pu (datB_sub hdat) (datB_ltd hdat _) fun ρ => run ρ _ _ fun A w u fs ar hu hp hr => ?_⟩
      obtain ⟨fs1, fs2, m, rfl, p0, p1, p2⟩ := Fd.hitP hu hp hr h3 h4
      exact ⟨m.val, _, (hr.2 fs1.length e m (by simp) p1).2, p2, rfl, rfl⟩
    · cases h2
  · refine ⟨_, h1, lkR_pu (fun ρ => sub_lit ρ zv) (.lit _) fun ρ => run ρ _ _ fun A w u fs ar hu hp hr => ⟨zv, none, .lit _, Fd.miss hu hr (fun e he => h2 e (hp.mem_iff.1 he)), rfl, rfl⟩⟩
theorem Yv.mkmap {C : Cx} {σ : List Res} {T : TypeId} (ho : o.op = .makeMap T none) : Yv P E σ o C [] (fun a σ' => ∃ v, a = .lit v ∧ σ' = .mp v [] :: σ) := fun w ρ hg _ => by
 refine ⟨_, w.alloc (.map #[] 0), _, _, ⟨.map (some w.heap.size), rfl, rfl⟩, tr_new hg (kp_alloc w _) (.inr rfl) (ok_enR (heap_alloc_new w _) (.refl _) ⟨rfl, fun i e m h => by cases h⟩), ?_, .lit _⟩
 simp [execOp, ho, Instr.makeMap]
theorem Yv.mkmapN {C : Cx} {σ : List Res} {T kt et : TypeId} {k : IntKind} {n : Int} (ho : o.op = .makeMap T (some x)) (hT : P.underlying T = some (.map kt et)) (hx : E.ev x = some (.n k n)) : Yv P E σ o C [] (fun a σ' => ∃ v, a = .lit v ∧ σ' = .mp v [] :: σ) := fun w ρ hg hρ => by
 have hx' := (hρ _ _ hx).litEq
 refine ⟨_, w.alloc (.map #[] 0), _, _, ⟨.map (some w.heap.size), rfl, rfl⟩, tr_new hg (kp_alloc w _) (.inr rfl) (ok_enR (heap_alloc_new w _) (.refl _) ⟨rfl, fun i e m h => by cases h⟩), ?_, .lit _⟩
 simp [execOp, ho, Instr.makeMap, run_underlying hT, hx', asInt, asIntOf]
def mkmE (P : Program) (nx : Nat) (T : TypeId) (x : Option (Option AV)) (K : Eff → Option α) : Option α := match x with
 | none => K (.new (.own nx) (.mp []))
 | some (some (.lit (.int _ _))) => match P.underlying T with
  | some (.map _ _) => K (.new (.own nx) (.mp []))
  | _ => none
 | _ => none
variable {K : Eff → Option α}
theorem nxMap (hs : See ev rd nx E R) {es : List (AV × AV)} {ρ : Gh} {σ' : List Res} {a : AV} (hK : K (.new (.own nx) (.mp es)) = some r) (h : ∃ v, a = .lit v ∧ σ' = .mp v es :: IRs.res ρ R) : Nx R nx K r ρ (some a) σ' := by
  obtain ⟨v, ha, hσ⟩ := h
  refine nxNew hs (ρ' := ρ.putV nx v) hK (.own _ (Nat.lt_succ_self _)) trivial (.putV ρ nx v) ?_ ?_
  · rw [ha, sub_own]; simp [Gh.putV]
  · rw [hσ]; simp [IR.res, Gh.putV]
theorem mkmE_ok {T : TypeId} {rv : Option Operand} (hs : See ev rd nx E R) (ho : o.op = .makeMap T rv) (h : mkmE P nx T (rv.map ev) K = some r) : Stp P o E R nx K r := fun ρ C => by
  unfold mkmE at h
  cases rv with
  | none => exact .ofV (.mkmap ho) (by simp) fun a σ' hN => nxMap hs h hN
  | some x =>
    simp only [Option.map_some] at h
    split at h
    · rename_i h0; cases h0
    · rename_i k n h0
      split at h
      · rename_i kt et hT
        simp only [Option.some.injEq] at h0
        have ex := hs.evs h0 ρ
        rw [sub_lit] at ex
        exact .ofV (.mkmapN ho hT ex) (by simp) fun a σ' hN => nxMap hs h hN
      · cases h
    · cases h
def mupE (P : Program) (rd : Nat → Option IR) (T : TypeId) (m k v : Option AV) (K : Eff → Option α) : Option α := match P.underlying T, m, k, v with
 | some (.map kt _), some (.own id), some kd, some vd => match rd id, keyC P kt kd && datB kd && datB vd with
  | some (.mp es), true => lkE P kt kd (fun j _ => match intB P kt with
   | true => K (.set id (.mp (es.set j (kd, vd))))
   | false => none) (K (.set id (.mp (es ++ [(kd, vd)])))) es 0
  | _, _ => none
 | _, _, _, _ => none
theorem kp_setMap {w : World} {b : Nat} (ob : Obj) : Kp [b] w { w with heap := w.heap.setIfInBounds b ob } := ⟨rfl, rfl, rfl, by simp, fun k _ hk => by
 have : b ≠ k := fun e => hk (by simp [e])
 simp [this]⟩
theorem mup_ye {T kt et id : Nat} {kd vd : AV} {es : List (AV × AV)} (hs : See ev rd nx E R) (ho : o.op = .mapUpdate T x y z ∨ o.op = .insert T x y z) (hT : P.underlying T = some (.map kt et)) (hx : ev x = some (.own id)) (hy : ev y = some kd) (hz : ev z = some vd) (hr : rd id = some (.mp es)) (hc2 : datB kd = true) (hc3 : datB vd = true) (ρ : Gh) (C : Cx)
    (es' : List (AV × AV)) (hK : K (.set id (.mp es')) = some r) (hf : ∀ (w : World) (ϱ : Operand → Value) (b cl : Nat) (ar : Array MapEntry) (fs : List (AV × AV)), List.Perm fs es → w.heap[b]? = some (.map ar cl) → (∃ A w1, Rel A w1 kd (ϱ y)) → (∃ A, EnR A w fs ar.toList) → ∃ ar' cl' fs', List.Perm fs' es' ∧ (Instr.mapUpdate T (.map (some b)) (ϱ y) (ϱ z)).run P w = .ok () { w with heap := w.heap.setIfInBounds b (.map ar' cl') } ∧
      ∀ (A : Nat → Prop) (w' : World), EnR A w' fs ar.toList → Rel A w' kd (ϱ y) → Rel A w' vd (ϱ z) → EnR A w' fs' ar'.toList) : Ye P (E.sub ρ) (IRs.res ρ R) o C (Nx R nx K r ρ) := by
  have ex := hs.evs hx ρ
  have ey := hs.evs hy ρ
  have ez := hs.evs hz ρ
  rw [sub_own] at ex
  rw [datB_sub hc2] at ey
  rw [datB_sub hc3] at ez
  obtain ⟨i, hi1, hi2, _⟩ := rget_idx (hs.r _ _ hr)
  have hres : (IRs.res ρ R)[i]? = some (.mp (ρ.v id) es) := res_get (ρ := ρ) hi1
  refine .ofU (X := (Res.blk (.mp (ρ.v id) es)).toList) (σ' := (IRs.res ρ R).set i (.mp (ρ.v id) es')) (fun w ϱ hg hρ => ?_) (fun b hb => ?_) ⟨_, hK, Nat.le_refl _, rset_ltd (hs.r _ _ hr) hs.lr trivial, fun d' hd => (by cases hd), ρ, .refl _ _, rfl, ?_⟩
  · obtain ⟨b, ar, cl, fs, q1, q2, qp, q3⟩ := enR_of (hg.res _ (List.mem_of_getElem? hres))
    have hx' := (hρ _ _ ex).litEq
    obtain ⟨ar', cl', fs', hp', h1, h2⟩ := hf w ϱ b cl ar fs qp q2 ⟨_, _, hρ _ _ ey⟩ ⟨_, q3⟩
    have hb' := (MapKept.heap_set (o' := .map ar' cl') q2).1
    rw [q1] at hres ⊢
    have hbk := blks_set (r' := Res.mp (.map (some b)) es') hres rfl
    have hal : ∀ k, k < w.heap.size → al C (IRs.res ρ R) k → al C ((IRs.res ρ R).set i (.mp (.map (some b)) es')) k ∧ ({ w with heap := w.heap.setIfInBounds b (.map ar' cl') } : World).heap[k]? = w.heap[k]? := fun k _ hA =>
      ⟨⟨hA.1, by rw [hbk]; exact hA.2⟩, (MapKept.heap_set q2).2 k fun e => hA.2 (mem_blks.2 ⟨_, List.mem_of_getElem? hres, by rw [e]; rfl⟩)⟩
    refine ⟨_, tr_upd hg hres (kp_setMap (.map ar' cl')) (.inl rfl) (ok_enR hb' hp' (h2 _ _ ⟨q3.1, fun i e m p1 p2 => ⟨(q3.2 i e m p1 p2).1.mono hal, (q3.2 i e m p1 p2).2.mono hal⟩⟩ ((hρ _ _ ey).mono hal) ((hρ _ _ ez).mono hal))), ?_⟩
    rcases ho with ho | ho <;> simp [execOp, ho, hx', q1, h1]
  · obtain ⟨g, hg⟩ : ∃ g, mblk (ρ.v id) = some g := by
      cases hb' : mblk (ρ.v id) with
      | none => rw [show Res.blk (.mp (ρ.v id) es) = mblk (ρ.v id) from rfl, hb'] at hb; simp at hb
      | some g => exact ⟨g, rfl⟩
    rw [show Res.blk (.mp (ρ.v id) es) = mblk (ρ.v id) from rfl, hg] at hb
    simp only [Option.toList_some, List.mem_singleton] at hb
    exact mem_blks.2 ⟨_, List.mem_of_getElem? hres, by rw [hb]; exact hg⟩
  · show List.Perm _ (IRs.res ρ (rset id _ R))
    rw [hi2, res_set]
    exact .refl _
theorem ins_ye {T kt et id : Nat} {kd vd : AV} {es es' : List (AV × AV)} (hs : See ev rd nx E R) (ho : o.op = .mapUpdate T x y z ∨ o.op = .insert T x y z) (hT : P.underlying T = some (.map kt et)) (hx : ev x = some (.own id)) (hy : ev y = some kd) (hz : ev z = some vd) (hr : rd id = some (.mp es)) (hc1 : keyC P kt kd = true) (hc2 : datB kd = true) (hc3 : datB vd = true)
    (h2 : ∀ e ∈ es, keyEq P kt kd e.1 = some false) (hpe : List.Perm (es ++ [(kd, vd)]) es') (h1 : K (.set id (.mp es')) = some r) (ρ : Gh) (C : Cx) : Ye P (E.sub ρ) (IRs.res ρ R) o C (Nx R nx K r ρ) :=
  mup_ye hs ho hT hx hy hz hr hc2 hc3 ρ C _ h1 fun w ϱ b cl ar fs hp hb ⟨A, w1, hu⟩ ⟨A2, hE⟩ => by
    have p2 := Fd.miss (i := 0) hu hE fun e he => h2 e (hp.mem_iff.1 he)
    refine ⟨ar.push { key := ϱ y, val := ϱ z, born := cl }, cl + 1, fs ++ [(kd, vd)], (hp.append_right _).trans hpe, ?_, fun A w' q1 q2 q3 => ⟨by simp [← q1.1], fun i' e' m' g1 g2 => ?_⟩⟩
    · simp [Instr.mapUpdate, run_underlying hT, MapKept.run_getObj_map hb, keyC_run hc1 hu false, p2.key hc1, MapKept.run_setObj_map _ hb]
    · rw [Array.toList_push] at g2
      rw [List.getElem?_append] at g1 g2
      rw [q1.1] at g2
      split at g1
      · rename_i hlt
        rw [if_pos hlt] at g2
        exact q1.2 i' e' m' g1 g2
      · rename_i hlt
        rw [if_neg hlt] at g2
        generalize i' - fs.length = n at g1 g2
        cases n with
        | zero => cases g1; cases g2; exact ⟨q2, q3⟩
        | succ n => cases g1
theorem mupE_ok {T : TypeId} (hs : See ev rd nx E R) (ho : o.op = .mapUpdate T x y z ∨ o.op = .insert T x y z) (h : mupE P rd T (ev x) (ev y) (ev z) K = some r) : Stp P o E R nx K r := fun ρ C => by
  unfold mupE at h
  split at h
  case h_2 => cases h
  rename_i kt et id kd vd hT hx hy hz
  split at h
  case h_2 => cases h
  rename_i es hr hc
  simp only [Bool.and_eq_true] at hc
  obtain ⟨⟨hc1, hc2⟩, hc3⟩ := hc
  rcases lkE_cases h with ⟨e, es1, es2, rfl, h2, h3, h4⟩ | ⟨h1, h2⟩
  · split at h2
    case h_2 => cases h2
    rename_i hib
    rw [Nat.zero_add, List.set_append_right _ _ (Nat.le_refl _), Nat.sub_self, List.set_cons_zero] at h2
    refine mup_ye hs ho hT hx hy hz hr hc2 hc3 ρ C _ h2 fun w ϱ b cl ar fs hp hb ⟨A, w1, hu⟩ ⟨A2, hE⟩ => ?_
    obtain ⟨fs1, fs2, m, rfl, p0, p1, p2⟩ := Fd.hitP hu hp hE h3 h4
    have hm : m.key = ϱ y := by
      have hk := (hE.2 fs1.length e m (by simp) p1).1
      unfold intB at hib
      split at hib
      · rename_i k0 hK
        have h0 : eqCell P kt kd e.1 = some true := by
          unfold keyEq at h3
          rw [hK] at h3
          exact h3
        obtain ⟨kk, a, c, e1, e2, e3⟩ := eqCell_int hK h0
        rw [e1] at hu
        rw [e2] at hk
        rw [hu.litEq, hk.litEq]
        have := eq_of_beq e3.symm
        rw [this]
      · cases hib
    have hj : ar[fs1.length]? = some m := by simpa using p1
    refine ⟨ar.modify fs1.length fun e => { e with key := ϱ y, val := ϱ z }, cl, fs1 ++ (kd, vd) :: fs2, List.perm_middle.trans ((p0.cons _).trans List.perm_middle.symm), ?_, fun A w' q1 q2 q3 => ⟨by simpa using q1.1, fun i' e' m' g1 g2 => ?_⟩⟩
    · have hkt : (Instr.keyThatStays (ϱ y) (ϱ y)).run P w = .ok (ϱ y) w := by
        unfold intB at hib
        split at hib
        · rename_i k0 hK
          have h0 : eqCell P kt kd e.1 = some true := by
            unfold keyEq at h3
            rw [hK] at h3
            exact h3
          obtain ⟨kk, a, c, e1, e2, e3⟩ := eqCell_int hK h0
          rw [e1] at hu
          rw [hu.litEq]
          simp [Instr.keyThatStays, Instr.sameBits]
        · cases hib
      simp [Instr.mapUpdate, run_underlying hT, MapKept.run_getObj_map hb, keyC_run hc1 hu false, p2.key hc1, hj, hm, hkt, MapKept.run_setObj_map _ hb]
    · rw [Array.getElem?_toList, Array.getElem?_modify] at g2
      by_cases hji : fs1.length = i'
      · subst hji
        rw [if_pos rfl, hj] at g2
        rw [List.getElem?_append_right (Nat.le_refl _), Nat.sub_self] at g1
        cases g1
        cases g2
        exact ⟨q2, q3⟩
      · rw [if_neg hji] at g2
        refine q1.2 i' e' m' ?_ (by simpa using g2)
        rw [List.getElem?_append] at g1 ⊢
        split
        · rename_i hlt; rwa [if_pos hlt] at g1
        · rename_i hlt
          rw [if_neg hlt] at g1
          obtain ⟨n, hn⟩ : ∃ n, i' - fs1.length = n + 1 := ⟨i' - fs1.length - 1, by omega⟩
          rw [hn] at g1 ⊢
          exact g1
  · exact ins_ye hs ho hT hx hy hz hr hc1 hc2 hc3 h2 (.refl _) h1 ρ C
end
def pureK {α : Type} (K : Eff → Option α) (d : AV) : Option α := K (.val d)
def stepOp {α : Type} (P : Program) (F : Orc) (ev : Operand → Option AV) (rd : Nat → Option IR) (R : IRs) (nx : Nat) (o : Op) (K : Eff → Option α) : Option α := match o with
  | .move x => (ev x).bind (pureK K)
  | .assign x => (ev x).bind (pureK K)
  | .pick c a b => match ev c with
    | some (.lit (.bool true)) => (ev a).bind (pureK K)
    | some (.lit (.bool false)) => (ev b).bind (pureK K)
    | _ => none
  | .binOp b T x y _ => binV P rd b T (ev x) (ev y) (pureK K)
  | .unOp b _ x => unV b (ev x) (pureK K)
  | .convert T T' x => cnvV P rd T T' (ev x) (pureK K)
  | .nilCheck x => nilV (ev x) (pureK K)
  | .fieldAddr T x i => fldV P T i (ev x) (pureK K)
  | .indexAddr T x y => idxV P rd T (ev x) (ev y) (pureK K)
  | .index T x y => ixaV P T (ev x) (ev y) (pureK K)
  | .load T x => ldV P rd T (ev x) (pureK K)
  | .store T x y => stoE P rd T (ev x) (ev y) K
  | .makeFunc f fs cs => mkfV ev f fs.toList cs.toList (pureK K)
  | .extract x i => extV i (ev x) (pureK K)
  | .build T ps => bldV P ev rd T ps.toList (pureK K)
  | .buildSlice T n ps => litE P ev rd nx T n ps.toList K
  | .makeSlice T x y => mkE P nx T (ev x) (ev y) K
  | .alloc T => aloE P nx T K
  | .box T x => boxE rd nx T (ev x) K
  | .slice T x lo hi mx => match mx with
    | none => cutV P T (ev x) (lo.map ev) (hi.map ev) (pureK K)
    | some (.const (.int _ 0)) => match lo, hi with
      | none, some (.const (.int _ 0)) => emE P nx T (ev x) K
      | _, _ => none
    | _ => none
  | .call { callee := .builtin .len, args := as0, argTypes := ts } => match as0.toList, ts.toList with
    | [x], [T] => lenV P rd T (ev x) (pureK K)
    | _, _ => none
  | .call { callee := .builtin .max, args := as0, argTypes := ts } => match as0.toList, ts.toList with
    | [x, y], [_, _] => mnV true [ev x, ev y] (pureK K)
    | _, _ => none
  | .call { callee := .builtin .min, args := as0, argTypes := ts } => match as0.toList, ts.toList with
    | [x, y], [_, _] => mnV false [ev x, ev y] (pureK K)
    | _, _ => none
  | .call { callee := .builtin .append, args := as0, argTypes := ts } => match as0.toList, ts.toList with
    | [x, y], [T, T'] => appE P rd nx T T' (ev x) (ev y) K
    | _, _ => none
  | .call { callee := .builtin .copy, args := as0, argTypes := ts } => match as0.toList, ts.toList with
    | [x, y], [T, _] => cpyE P rd R nx T (ev x) (ev y) K
    | _, _ => none
  | .call { callee := .value x, args := as0, argTypes := _ } => calE F ev R nx (ev x) as0.toList K
  | .lookup T x y ok => lkpE P rd T (ev x) (ev y) ok (pureK K)
  | .makeMap T x => mkmE P nx T (x.map ev) K
  | .mapUpdate T x y z => mupE P rd T (ev x) (ev y) (ev z) K
  | .insert T x y z => mupE P rd T (ev x) (ev y) (ev z) K
  | _ => none
section
variable {α : Type}
def stMov (x : Operand) (_ : Program) (_ : Orc) (ev : Operand → Option AV) (_ : Nat → Option IR) (_ : IRs) (_ : Nat) (K : Eff → Option α) : Option α := (ev x).bind (pureK K)
def stPic (c a b : Operand) (_ : Program) (_ : Orc) (ev : Operand → Option AV) (_ : Nat → Option IR) (_ : IRs) (_ : Nat) (K : Eff → Option α) : Option α := match ev c with
 | some (.lit (.bool true)) => (ev a).bind (pureK K)
 | some (.lit (.bool false)) => (ev b).bind (pureK K)
 | _ => none
def stBin (b : BinOp) (T : TypeId) (x y : Operand) (P : Program) (_ : Orc) (ev : Operand → Option AV) (rd : Nat → Option IR) (_ : IRs) (_ : Nat) (K : Eff → Option α) : Option α := binV P rd b T (ev x) (ev y) (pureK K)
def stUn (b : UnOp) (x : Operand) (_ : Program) (_ : Orc) (ev : Operand → Option AV) (_ : Nat → Option IR) (_ : IRs) (_ : Nat) (K : Eff → Option α) : Option α := unV b (ev x) (pureK K)
def stCnv (T T' : TypeId) (x : Operand) (P : Program) (_ : Orc) (ev : Operand → Option AV) (rd : Nat → Option IR) (_ : IRs) (_ : Nat) (K : Eff → Option α) : Option α := cnvV P rd T T' (ev x) (pureK K)
def stNil (x : Operand) (_ : Program) (_ : Orc) (ev : Operand → Option AV) (_ : Nat → Option IR) (_ : IRs) (_ : Nat) (K : Eff → Option α) : Option α := nilV (ev x) (pureK K)
def stFld (T : TypeId) (x : Operand) (i : Nat) (P : Program) (_ : Orc) (ev : Operand → Option AV) (_ : Nat → Option IR) (_ : IRs) (_ : Nat) (K : Eff → Option α) : Option α := fldV P T i (ev x) (pureK K)
def stIdx (T : TypeId) (x y : Operand) (P : Program) (_ : Orc) (ev : Operand → Option AV) (rd : Nat → Option IR) (_ : IRs) (_ : Nat) (K : Eff → Option α) : Option α := idxV P rd T (ev x) (ev y) (pureK K)
def stIxa (T : TypeId) (x y : Operand) (P : Program) (_ : Orc) (ev : Operand → Option AV) (_ : Nat → Option IR) (_ : IRs) (_ : Nat) (K : Eff → Option α) : Option α := ixaV P T (ev x) (ev y) (pureK K)
def stLd (T : TypeId) (x : Operand) (P : Program) (_ : Orc) (ev : Operand → Option AV) (rd : Nat → Option IR) (_ : IRs) (_ : Nat) (K : Eff → Option α) : Option α := ldV P rd T (ev x) (pureK K)
def stSto (T : TypeId) (x y : Operand) (P : Program) (_ : Orc) (ev : Operand → Option AV) (rd : Nat → Option IR) (_ : IRs) (_ : Nat) (K : Eff → Option α) : Option α := stoE P rd T (ev x) (ev y) K
def stMkf (f : Go.Fn) (fs cs : Array Operand) (_ : Program) (_ : Orc) (ev : Operand → Option AV) (_ : Nat → Option IR) (_ : IRs) (_ : Nat) (K : Eff → Option α) : Option α := mkfV ev f fs.toList cs.toList (pureK K)
def stExt (x : Operand) (i : Nat) (_ : Program) (_ : Orc) (ev : Operand → Option AV) (_ : Nat → Option IR) (_ : IRs) (_ : Nat) (K : Eff → Option α) : Option α := extV i (ev x) (pureK K)
def stBld (T : TypeId) (ps : Array (Nat × Operand)) (P : Program) (_ : Orc) (ev : Operand → Option AV) (rd : Nat → Option IR) (_ : IRs) (_ : Nat) (K : Eff → Option α) : Option α := bldV P ev rd T ps.toList (pureK K)
def stLit (T : TypeId) (n : Nat) (ps : Array (Nat × Operand)) (P : Program) (_ : Orc) (ev : Operand → Option AV) (rd : Nat → Option IR) (_ : IRs) (nx : Nat) (K : Eff → Option α) : Option α := litE P ev rd nx T n ps.toList K
def stMk (T : TypeId) (x y : Operand) (P : Program) (_ : Orc) (ev : Operand → Option AV) (_ : Nat → Option IR) (_ : IRs) (nx : Nat) (K : Eff → Option α) : Option α := mkE P nx T (ev x) (ev y) K
def stAlo (T : TypeId) (P : Program) (_ : Orc) (_ : Operand → Option AV) (_ : Nat → Option IR) (_ : IRs) (nx : Nat) (K : Eff → Option α) : Option α := aloE P nx T K
def stBox (T : TypeId) (x : Operand) (_ : Program) (_ : Orc) (ev : Operand → Option AV) (rd : Nat → Option IR) (_ : IRs) (nx : Nat) (K : Eff → Option α) : Option α := boxE rd nx T (ev x) K
def stSli (T : TypeId) (x : Operand) (lo hi mx : Option Operand) (P : Program) (_ : Orc) (ev : Operand → Option AV) (_ : Nat → Option IR) (_ : IRs) (nx : Nat) (K : Eff → Option α) : Option α := match mx with
 | none => cutV P T (ev x) (lo.map ev) (hi.map ev) (pureK K)
 | some (.const (.int _ 0)) => match lo, hi with
  | none, some (.const (.int _ 0)) => emE P nx T (ev x) K
  | _, _ => none
 | _ => none
def stBui (b : Builtin) (as0 : Array Operand) (ts : Array TypeId) (P : Program) (ev : Operand → Option AV) (rd : Nat → Option IR) (R : IRs) (nx : Nat) (K : Eff → Option α) : Option α := match b with
 | .len => match as0.toList, ts.toList with
  | [x], [T] => lenV P rd T (ev x) (pureK K)
  | _, _ => none
 | .max => match as0.toList, ts.toList with
  | [x, y], [_, _] => mnV true [ev x, ev y] (pureK K)
  | _, _ => none
 | .min => match as0.toList, ts.toList with
  | [x, y], [_, _] => mnV false [ev x, ev y] (pureK K)
  | _, _ => none
 | .append => match as0.toList, ts.toList with
  | [x, y], [T, T'] => appE P rd nx T T' (ev x) (ev y) K
  | _, _ => none
 | .copy => match as0.toList, ts.toList with
  | [x, y], [T, _] => cpyE P rd R nx T (ev x) (ev y) K
  | _, _ => none
 | _ => none
def stCal (c : Call) (P : Program) (F : Orc) (ev : Operand → Option AV) (rd : Nat → Option IR) (R : IRs) (nx : Nat) (K : Eff → Option α) : Option α := match c.callee with
 | .value x => calE F ev R nx (ev x) c.args.toList K
 | .builtin b => stBui b c.args c.argTypes P ev rd R nx K
 | _ => none
def stLkp (T : TypeId) (x y : Operand) (ok : Bool) (P : Program) (_ : Orc) (ev : Operand → Option AV) (rd : Nat → Option IR) (_ : IRs) (_ : Nat) (K : Eff → Option α) : Option α := lkpE P rd T (ev x) (ev y) ok (pureK K)
def stMkm (T : TypeId) (x : Option Operand) (P : Program) (_ : Orc) (ev : Operand → Option AV) (_ : Nat → Option IR) (_ : IRs) (nx : Nat) (K : Eff → Option α) : Option α := mkmE P nx T (x.map ev) K
def stMup (T : TypeId) (x y z : Operand) (P : Program) (_ : Orc) (ev : Operand → Option AV) (rd : Nat → Option IR) (_ : IRs) (_ : Nat) (K : Eff → Option α) : Option α := mupE P rd T (ev x) (ev y) (ev z) K
def stNo (_ : Program) (_ : Orc) (_ : Operand → Option AV) (_ : Nat → Option IR) (_ : IRs) (_ : Nat) (_ : Eff → Option α) : Option α := none
def stepF (o : Op) : Program → Orc → (Operand → Option AV) → (Nat → Option IR) → IRs → Nat → (Eff → Option α) → Option α := match o with
 | .move x => stMov x
 | .assign x => stMov x
 | .pick c a b => stPic c a b
 | .binOp b T x y _ => stBin b T x y
 | .unOp b _ x => stUn b x
 | .convert T T' x => stCnv T T' x
 | .nilCheck x => stNil x
 | .fieldAddr T x i => stFld T x i
 | .indexAddr T x y => stIdx T x y
 | .index T x y => stIxa T x y
 | .load T x => stLd T x
 | .store T x y => stSto T x y
 | .makeFunc f fs cs => stMkf f fs cs
 | .extract x i => stExt x i
 | .build T ps => stBld T ps
 | .buildSlice T n ps => stLit T n ps
 | .makeSlice T x y => stMk T x y
 | .alloc T => stAlo T
 | .box T x => stBox T x
 | .slice T x lo hi mx => stSli T x lo hi mx
 | .call c => stCal c
 | .lookup T x y ok => stLkp T x y ok
 | .makeMap T x => stMkm T x
 | .mapUpdate T x y z => stMup T x y z
 | .insert T x y z => stMup T x y z
 | _ => stNo
theorem stepF_eq (P : Program) (F : Orc) (ev : Operand → Option AV) (rd : Nat → Option IR) (R : IRs) (nx : Nat) (o : Op) (K : Eff → Option α) : stepF o P F ev rd R nx K = stepOp P F ev rd R nx o K := by
 cases o <;> first | rfl | skip
 case call c =>
  obtain ⟨cal, as0, ts⟩ := c
  cases cal with
  | builtin b => cases b <;> rfl
  | _ => rfl
end
section
variable {α : Type} {r : α} {P : Program} {F : Orc} {o : Oper} {E : Env} {R : IRs} {nx : Nat} {ev : Operand → Option AV} {rd : Nat → Option IR} {K : Eff → Option α} {C : Cx} {n : Nat}
theorem arr1 {β : Type} {a : Array β} {x : β} (h : a.toList = [x]) : a = #[x] := by rw [← Array.toArray_toList (xs := a), h]
theorem arr2 {β : Type} {a : Array β} {x y : β} (h : a.toList = [x, y]) : a = #[x, y] := by rw [← Array.toArray_toList (xs := a), h]
theorem stepOp_ok (hF : OrcOk P F) (hs : See ev rd nx E R) {op : Op} (ho : o.op = op) (h : stepOp P F ev rd R nx op K = some r) : Stp P o E R nx K r := by
  unfold stepOp at h
  split at h
  · obtain ⟨d, hd, h⟩ := Option.bind_eq_some_iff.1 h
    exact .pu hs ⟨d, h, hs.ltd hd, fun ρ => .move ho (hs.evs hd ρ)⟩
  · obtain ⟨d, hd, h⟩ := Option.bind_eq_some_iff.1 h
    exact .pu hs ⟨d, h, hs.ltd hd, fun ρ => .assign ho (hs.evs hd ρ)⟩
  · split at h
    · rename_i hc
      obtain ⟨d, hd, h⟩ := Option.bind_eq_some_iff.1 h
      exact .pu hs ⟨d, h, hs.ltd hd, fun ρ => .pickT ho (by have := hs.evs hc ρ; rw [sub_lit] at this; exact this) (hs.evs hd ρ)⟩
    · rename_i hc
      obtain ⟨d, hd, h⟩ := Option.bind_eq_some_iff.1 h
      exact .pu hs ⟨d, h, hs.ltd hd, fun ρ => .pickF ho (by have := hs.evs hc ρ; rw [sub_lit] at this; exact this) (hs.evs hd ρ)⟩
    · cases h
  · exact .pu hs (binV_ok hs ho h)
  · exact .pu hs (unV_ok hs ho h)
  · exact .pu hs (cnvV_ok hs ho h)
  · exact .pu hs (nilV_ok hs ho h)
  · exact .pu hs (fldV_ok hs ho h)
  · exact .pu hs (idxV_ok hs ho h)
  · exact .pu hs (ixaV_ok hs ho h)
  · exact .pu hs (ldV_ok hs ho h)
  · exact stoE_ok hs ho h
  · exact .pu hs (mkfV_ok hs ho h)
  · exact .pu hs (extV_ok hs ho h)
  · exact .pu hs (bldV_ok hs ho h)
  · exact litE_ok hs ho h
  · exact mkE_ok hs ho h
  · exact aloE_ok hs ho h
  · exact boxE_ok hs ho h
  · split at h
    · exact .pu hs (cutV_ok hs ho h)
    · split at h
      · exact emE_ok hs ho h
      · cases h
    · cases h
  · split at h
    · rename_i h1 h2
      rw [arr1 h1, arr1 h2] at ho
      exact .pu hs (lenV_ok hs ho h)
    · cases h
  · split at h
    · rename_i h1 h2
      rw [arr2 h1, arr2 h2] at ho
      unfold mnV at h
      split at h
      · rename_i q1
        split at h
        · rename_i hk
          subst hk
          simp only [List.cons.injEq, and_true] at q1
          obtain ⟨q1, q2⟩ := q1
          exact .pu hs ⟨_, h, .lit fun ρ => .max ho (by have := hs.evs q1 ρ; rw [sub_lit] at this; exact this) (by have := hs.evs q2 ρ; rw [sub_lit] at this; exact this)⟩
        · cases h
      · cases h
    · cases h
  · split at h
    · rename_i h1 h2
      rw [arr2 h1, arr2 h2] at ho
      unfold mnV at h
      split at h
      · rename_i q1
        split at h
        · rename_i hk
          subst hk
          simp only [List.cons.injEq, and_true] at q1
          obtain ⟨q1, q2⟩ := q1
          exact .pu hs ⟨_, h, .lit fun ρ => .min ho (by have := hs.evs q1 ρ; rw [sub_lit] at this; exact this) (by have := hs.evs q2 ρ; rw [sub_lit] at this; exact this)⟩
        · cases h
      · cases h
    · cases h
  · split at h
    · rename_i h1 h2
      rw [arr2 h1, arr2 h2] at ho
      exact appE_ok hs ho h
    · cases h
  · split at h
    · rename_i h1 h2
      rw [arr2 h1, arr2 h2] at ho
      exact cpyE_ok hs ho h
    · cases h
  · exact calE_ok hF hs ho h
  · exact .pu hs (lkpE_ok hs ho h)
  · exact mkmE_ok hs ho h
  · exact mupE_ok hs (.inl ho) h
  · exact mupE_ok hs (.inr ho) h
  · cases h
def St.app (s : St) (dst : Option Nat) (e : Eff) : St :=
  { E := match dst with
      | none => s.E
      | some t => match e.vl s.nx with
        | some d => eput t d s.E
        | none => eput t (.lit undef) s.E
    R := e.R s.R s.nx
    nx := e.nx s.nx }
def dstOk (n : Nat) : Option Nat → Bool
 | none => true
 | some t => Nat.blt t n
theorem See.of {s : St} (hh : Hold s.E E) (hE : E.Ltd s.nx) (hR : IRs.Ltd s.nx s.R) : See (evF s.E) (rget s.R) s.nx E s.R := ⟨fun x d h => hh.ev x d h, fun _ _ h => h, hE, hR⟩
theorem stp_wp {C : Cg} {s : St} {a : Act} {w : World} {Q : Exit → Act → World → Prop} (hm : Mt C n s a w) (hd : dstOk n o.dst = true) (h : ∀ E, See (evF s.E) (rget s.R) s.nx E s.R → Stp P o E s.R s.nx K r) {K' : Act → World → Prop}
    (hK : ∀ a' w' e, a'.defers = a.defers → K e = some r → s.nx ≤ e.nx s.nx → Mt C n (s.app o.dst e) a' w' → K' a' w') : o.wp P a w K' Q := by
  obtain ⟨E, hh, hE, hR, ρ, hag, hsim⟩ := hm
  have h := h E (See.of hh hE hR)
  unfold Oper.wp
  have fin : ∀ (e : Eff) (ρ' : Gh) (σ' : List Res) (w' : World) (v : Value), s.nx ≤ e.nx s.nx → IRs.Ltd (e.nx s.nx) (e.R s.R s.nx) → (∀ d, e.vl s.nx = some d → Ltd (e.nx s.nx) d) → Agr s.nx ρ ρ' → List.Perm σ' (IRs.res ρ' (e.R s.R s.nx)) →
      Tr C.C (blks (IRs.res ρ s.R)) (IRs.res ρ s.R) w σ' w' → (∀ d, e.vl s.nx = some d → Rel (al C.C σ') w' (d.sub ρ') v) → (e.vl s.nx = none → v = undef) → Mt C n (s.app o.dst e) (a.put o.dst v) w' := fun e ρ' σ' w' v h1 h2 h3 h4 h5 h6 h7 h8 => by
    have hs1 := (hsim.tr h6).perm h5
    rw [hE.sub h4] at hs1
    have hE' : E.Ltd (e.nx s.nx) := hE.mono h1
    have hag' : Agr C.n C.ρ ρ' ∧ C.n ≤ e.nx s.nx := ⟨hag.1.trans h4 hag.2, Nat.le_trans hag.2 h1⟩
    have hput : ∀ (t : Nat) (d : AV), o.dst = some t → Ltd (e.nx s.nx) d → Rel (al C.C (IRs.res ρ' (e.R s.R s.nx))) w' (d.sub ρ') v → Mt C n { E := eput t d s.E, R := e.R s.R s.nx, nx := e.nx s.nx } (a.put (some t) v) w' := fun t d ht hd' hr =>
      ⟨(t, d) :: E, hh.put t d, Env.cons_ltd hE' hd', h2, ρ', hag', hs1.put (by rw [ht] at hd; exact hd) hr⟩
    have hsub : ∀ d, e.vl s.nx = some d → Rel (al C.C (IRs.res ρ' (e.R s.R s.nx))) w' (d.sub ρ') v := fun d hd' => (h7 d hd').mono fun b _ hA => ⟨al_perm h5 b hA, rfl⟩
    unfold St.app
    cases hdst : o.dst with
    | none => exact ⟨E, hh, hE', h2, ρ', hag', hs1⟩
    | some t =>
      cases hv : e.vl s.nx with
      | some d => exact hput t d hdst (h3 d hv) (hsub d hv)
      | none =>
        refine hput t (.lit undef) hdst (.lit _) ?_
        rw [h8 hv, sub_lit]
        exact .lit _
  rcases h ρ C.C w a.eval hsim.good hsim.slots.ops with ⟨v, w', av, σ', ⟨e, q1, q2, q3, q4, ρ', q5, q6, q7⟩, h2, h3, h4⟩ | ⟨w', σ', ⟨e, q1, q2, q3, q4, ρ', q5, q6, q7⟩, h2, h3⟩ | ⟨f, args, h1, h2⟩
  · rw [h3]
    refine hK _ _ e (by cases o.dst <;> rfl) q1 q2 (fin e ρ' σ' w' v q2 q3 q4 q5 q7 h2 (fun d hd' => ?_) (fun hn => ?_))
    · simp_all
    · simp_all
  · rw [h3]
    refine hK _ _ e (by cases o.dst <;> rfl) q1 q2 (fin e ρ' σ' w' undef q2 q3 q4 q5 q7 h2 (fun d hd' => ?_) (fun hn => rfl))
    rw [hd'] at q6; cases q6
  · rw [h1]
    refine Calls.mono h2 fun ee w' ⟨v, av, σ', q0, ⟨e, q1, q2, q3, q4, ρ', q5, q6, q7⟩, h2, h4⟩ => ?_
    subst q0
    refine hK _ _ e (by cases o.dst <;> rfl) q1 q2 (fin e ρ' σ' w' v q2 q3 q4 q5 q7 h2 (fun d hd' => ?_) (fun hn => ?_))
    · simp_all
    · rw [hn] at q6; cases q6
end
def frz1 (id t : Nat) (l : List (U.Dat t)) : AV → AV
 | .own i => match Nat.beq i id with
  | true => .sl t l
  | false => .own i
 | d => d
def frzN (id t : Nat) (l : List (U.Dat t)) : Nat → AV → AV
 | 0, d => d
 | n + 1, .agg cs => .agg (cs.map (frzN id t l n))
 | n + 1, .tup cs => .tup (cs.map (frzN id t l n))
 | n + 1, .fn f cs => .fn f (cs.map (frzN id t l n))
 | _ + 1, d => frz1 id t l d
def frzR (id t : Nat) (l : List (U.Dat t)) : IR → IR
 | .box T cs => .box T (cs.map (frzN id t l 3))
 | r => r
def St.frz (s : St) (id : Nat) : St := match rget s.R id with
  | some (.row t l) => { E := emap (frzN id t l 3) s.E, R := (rdel id s.R).map fun p => (p.1, frzR id t l p.2), nx := s.nx }
  | _ => s
theorem frz1_rel {A : Nat → Prop} {w : World} {id t : Nat} {l : List (U.Dat t)} {ρ : Gh} (hd : Hd A [.row (ρ.v id) t l] w) {d : AV} {v : Value} (h : Rel A w (d.sub ρ) v) : Rel (fun b => A b ∨ b ∈ blks [.row (ρ.v id) t l]) w ((frz1 id t l d).sub ρ) v := by
  unfold frz1
  split
  · rename_i i
    split
    · rename_i hi
      have := beqT hi
      subst this
      rw [sub_own] at h
      rw [sub_sl]
      exact Vw.row 0 rfl A w v hd h
    · exact h.mono fun b _ hA => ⟨.inl hA, rfl⟩
  · exact h.mono fun b _ hA => ⟨.inl hA, rfl⟩
theorem frzN_rel {A : Nat → Prop} {w : World} {id t : Nat} {l : List (U.Dat t)} {ρ : Gh} (hd : Hd A [.row (ρ.v id) t l] w) : ∀ (n : Nat) {d : AV} {v : Value}, Rel A w (d.sub ρ) v → Rel (fun b => A b ∨ b ∈ blks [.row (ρ.v id) t l]) w ((frzN id t l n d).sub ρ) v
  | 0, d, v, h => h.mono fun b _ hA => ⟨.inl hA, rfl⟩
  | n + 1, d, v, h => by
    have hL : ∀ {cs : List AV} {us : List Value}, RelL A w (cs.map (AVq.sub ρ)) us → RelL (fun b => A b ∨ b ∈ blks [.row (ρ.v id) t l]) w ((cs.map (frzN id t l n)).map (AVq.sub ρ)) us := fun {cs us} h => by
      refine ⟨by simpa using h.1, fun j a v h1 h2 => ?_⟩
      rw [List.map_map, List.getElem?_map] at h1
      obtain ⟨c, hc, rfl⟩ := Option.map_eq_some_iff.1 h1
      exact frzN_rel hd n (h.2 j _ v (by rw [List.getElem?_map, hc]; rfl) h2)
    unfold frzN
    split
    · omega
    · rename_i cs h0
      cases h0
      rw [sub_agg] at h ⊢
      obtain ⟨us, rfl, h2⟩ := h.aggInv
      exact Rel.aggL (hL h2)
    · rename_i cs h0
      cases h0
      rw [sub_tup] at h ⊢
      obtain ⟨us, rfl, h2⟩ := h.tupInv
      exact Rel.tupL (hL h2)
    · rename_i f cs h0
      cases h0
      rw [sub_fn] at h ⊢
      obtain ⟨us, rfl, h2⟩ := h.fnInv
      exact .fn f _ us (hL h2).1 (hL h2).2
    · rename_i h0 _ _ _
      exact frz1_rel hd h
section
variable {α β : Type} (D : α → Option β)
theorem binI_nat {b : BinOp} {k : IntKind} {m n : Int} {K : AV → Option α} : (binI b k m n K).bind D = binI b k m n (fun d => (K d).bind D) := by
 unfold binI
 cases b <;> first | rfl | (dsimp only; split <;> rfl)
theorem eqS_nat {P : Program} {b : BinOp} {T : TypeId} {cs ds : List AV} {K : AV → Option α} : (eqS P b T cs ds K).bind D = eqS P b T cs ds (fun d => (K d).bind D) := by
  unfold eqS
  split
  · split
    · cases b <;> first | rfl | exact Option.bind_assoc ..
    · rfl
  · rfl
theorem binV_nat {P : Program} {rd : Nat → Option IR} {b : BinOp} {T : TypeId} {x y : Option AV} {K : AV → Option α} : (binV P rd b T x y K).bind D = binV P rd b T x y (fun d => (K d).bind D) := by
 unfold binV
 repeat' split
 all_goals first | rfl | exact binI_nat D | exact eqS_nat D | simp_all
theorem unV_nat {b : UnOp} {x : Option AV} {K : AV → Option α} : (unV b x K).bind D = unV b x (fun d => (K d).bind D) := by
 unfold unV
 repeat' split
 all_goals first | rfl | simp_all
theorem nilV_nat {x : Option AV} {K : AV → Option α} : (nilV x K).bind D = nilV x (fun d => (K d).bind D) := by
 unfold nilV
 repeat' split
 all_goals first | rfl | simp_all
theorem fldV_nat {P : Program} {T : TypeId} {i : Nat} {x : Option AV} {K : AV → Option α} : (fldV P T i x K).bind D = fldV P T i x (fun d => (K d).bind D) := by
 unfold fldV
 repeat' split
 all_goals first | rfl | simp_all
theorem idxV_nat {P : Program} {rd : Nat → Option IR} {T : TypeId} {x y : Option AV} {K : AV → Option α} : (idxV P rd T x y K).bind D = idxV P rd T x y (fun d => (K d).bind D) := by
 unfold idxV
 repeat' split
 all_goals first | rfl | simp_all
theorem ldV_nat {P : Program} {rd : Nat → Option IR} {T : TypeId} {x : Option AV} {K : AV → Option α} : (ldV P rd T x K).bind D = ldV P rd T x (fun d => (K d).bind D) := by
 unfold ldV
 repeat' split
 all_goals first | rfl | exact Option.bind_assoc .. | simp_all
theorem bldV_nat {P : Program} {ev : Operand → Option AV} {rd : Nat → Option IR} {T : TypeId} {ps : List (Nat × Operand)} {K : AV → Option α} : (bldV P ev rd T ps K).bind D = bldV P ev rd T ps (fun d => (K d).bind D) := by
 unfold bldV
 repeat' split
 all_goals first | rfl | exact Option.bind_assoc .. | simp_all
theorem cnvV_nat {P : Program} {rd : Nat → Option IR} {T T' : TypeId} {x : Option AV} {K : AV → Option α} : (cnvV P rd T T' x K).bind D = cnvV P rd T T' x (fun d => (K d).bind D) := by
 unfold cnvV
 repeat' split
 all_goals first | rfl | exact Option.bind_assoc .. | simp_all
theorem extV_nat {i : Nat} {x : Option AV} {K : AV → Option α} : (extV i x K).bind D = extV i x (fun d => (K d).bind D) := by
 unfold extV
 repeat' split
 all_goals first | rfl | exact Option.bind_assoc .. | simp_all
theorem mkfV_nat {ev : Operand → Option AV} {f : Go.Fn} {fs cs : List Operand} {K : AV → Option α} : (mkfV ev f fs cs K).bind D = mkfV ev f fs cs (fun d => (K d).bind D) := by
 unfold mkfV
 repeat' split
 all_goals first | rfl | exact Option.bind_assoc .. | simp_all
theorem ixaV_nat {P : Program} {T : TypeId} {x y : Option AV} {K : AV → Option α} : (ixaV P T x y K).bind D = ixaV P T x y (fun d => (K d).bind D) := by
 unfold ixaV
 repeat' split
 all_goals first | rfl | exact Option.bind_assoc .. | simp_all
theorem cutV_nat {P : Program} {T : TypeId} {x : Option AV} {lo hi : Option (Option AV)} {K : AV → Option α} : (cutV P T x lo hi K).bind D = cutV P T x lo hi (fun d => (K d).bind D) := by
 unfold cutV
 repeat' split
 all_goals first | rfl | exact Option.bind_assoc .. | simp_all
theorem lenV_nat {P : Program} {rd : Nat → Option IR} {T : TypeId} {x : Option AV} {K : AV → Option α} : (lenV P rd T x K).bind D = lenV P rd T x (fun d => (K d).bind D) := by
 unfold lenV
 repeat' split
 all_goals first | rfl | exact Option.bind_assoc .. | simp_all
theorem aloE_nat {P : Program} {nx : Nat} {T : TypeId} {K : Eff → Option α} : (aloE P nx T K).bind D = aloE P nx T (fun d => (K d).bind D) := by
 unfold aloE
 exact Option.bind_assoc ..
theorem boxE_nat {rd : Nat → Option IR} {nx : Nat} {T : TypeId} {x : Option AV} {K : Eff → Option α} : (boxE rd nx T x K).bind D = boxE rd nx T x (fun d => (K d).bind D) := by
 unfold boxE
 repeat' split
 all_goals first | rfl | exact Option.bind_assoc .. | simp_all
theorem stoE_nat {P : Program} {rd : Nat → Option IR} {T : TypeId} {x y : Option AV} {K : Eff → Option α} : (stoE P rd T x y K).bind D = stoE P rd T x y (fun d => (K d).bind D) := by
 unfold stoE
 repeat' split
 all_goals first | rfl | exact Option.bind_assoc .. | simp_all
theorem cpyE_nat {P : Program} {rd : Nat → Option IR} {R : IRs} {nx : Nat} {T : TypeId} {x y : Option AV} {K : Eff → Option α} : (cpyE P rd R nx T x y K).bind D = cpyE P rd R nx T x y (fun d => (K d).bind D) := by
  unfold cpyE
  split
  · split
    · split
      · split
        · rw [Option.bind_assoc]
          congr 1
          funext l
          rw [Option.bind_assoc]
          congr 1
          funext l2
          split <;> rfl
        · rfl
      · rfl
    · rfl
  · rfl
theorem litE_nat {P : Program} {ev : Operand → Option AV} {rd : Nat → Option IR} {nx : Nat} {T : TypeId} {n : Nat} {ps : List (Nat × Operand)} {K : Eff → Option α} : (litE P ev rd nx T n ps K).bind D = litE P ev rd nx T n ps (fun d => (K d).bind D) := by
  unfold litE
  split
  · split
    · split
      · split <;> rfl
      · split
        · split
          · rw [Option.bind_assoc]
            congr 1
            funext cs
            split
            · exact Option.bind_assoc ..
            · rfl
          · rfl
        · rfl
    · rfl
  · rfl
theorem mkE_nat {P : Program} {nx : Nat} {T : TypeId} {x y : Option AV} {K : Eff → Option α} : (mkE P nx T x y K).bind D = mkE P nx T x y (fun d => (K d).bind D) := by
  unfold mkE
  split
  · split
    · split
      · rw [Option.bind_assoc]
        congr 1
        funext d
        split <;> rfl
      · rfl
    · rfl
  · rfl
theorem emE_nat {P : Program} {nx : Nat} {T : TypeId} {x : Option AV} {K : Eff → Option α} : (emE P nx T x K).bind D = emE P nx T x (fun d => (K d).bind D) := by
 unfold emE
 repeat' split
 all_goals first | rfl | simp_all
theorem appT_nat {P : Program} {T : TypeId} {K : Nat → List Value → Option α} : (appT P T K).bind D = appT P T (fun e zs => (K e zs).bind D) := by
 unfold appT
 repeat' split
 all_goals first | rfl | simp_all
theorem addD_nat {P : Program} {rd : Nat → Option IR} {e : Nat} {zs : List Value} {T' T : TypeId} {y : Option AV} {K : List (U.Dat e) → Option α} : (addD P rd e zs T' T y K).bind D = addD P rd e zs T' T y (fun d => (K d).bind D) := by
  unfold addD
  split
  · exact Option.bind_assoc ..
  · split
    · split
      · rw [Option.bind_assoc]
        congr 1
        funext d
        split <;> rfl
      · rfl
    · rfl
theorem appE_nat {P : Program} {rd : Nat → Option IR} {nx : Nat} {T T' : TypeId} {x y : Option AV} {K : Eff → Option α} : (appE P rd nx T T' x y K).bind D = appE P rd nx T T' x y (fun d => (K d).bind D) := by
  unfold appE
  rw [appT_nat]
  congr 1
  funext e zs
  split
  · rw [addD_nat]
    congr 1
    funext l2
    split <;> rfl
  · split
    · rw [Option.bind_assoc]
      congr 1
      funext l
      rw [addD_nat]
      congr 1
      funext l2
      split <;> rfl
    · rfl
  · rfl
theorem mnV_nat {mx : Bool} {xs : List (Option AV)} {K : AV → Option α} : (mnV mx xs K).bind D = mnV mx xs (fun d => (K d).bind D) := by
  unfold mnV
  split
  · split
    · cases mx <;> rfl
    · rfl
  · rfl
theorem lkE_nat {P : Program} {K : TypeId} {k : AV} {hit : Nat → AV × AV → Option α} {miss : Option α} : ∀ (es : List (AV × AV)) (i : Nat), (lkE P K k hit miss es i).bind D = lkE P K k (fun j e => (hit j e).bind D) (miss.bind D) es i
 | [], i => rfl
 | e :: es, i => by
  show ((keyEq P K k e.1).bind fun q => match q with
   | true => match noE P K k es with
    | true => hit i e
    | false => none
   | false => lkE P K k hit miss es (i + 1)).bind D = (keyEq P K k e.1).bind fun q => match q with
   | true => match noE P K k es with
    | true => (hit i e).bind D
    | false => none
   | false => lkE P K k (fun j e => (hit j e).bind D) (miss.bind D) es (i + 1)
  rw [Option.bind_assoc]
  congr 1
  funext q
  cases q with
  | true => cases noE P K k es <;> rfl
  | false => exact lkE_nat es (i + 1)
theorem lkpE_nat {P : Program} {rd : Nat → Option IR} {T : TypeId} {x y : Option AV} {ok : Bool} {K : AV → Option α} : (lkpE P rd T x y ok K).bind D = lkpE P rd T x y ok (fun d => (K d).bind D) := by
  unfold lkpE
  split
  · split
    · rw [lkE_nat]
      congr 1
      funext j e
      split <;> rfl
    · rfl
  · rfl
theorem mkmE_nat {P : Program} {nx : Nat} {T : TypeId} {x : Option (Option AV)} {K : Eff → Option α} : (mkmE P nx T x K).bind D = mkmE P nx T x (fun d => (K d).bind D) := by
 unfold mkmE
 repeat' split
 all_goals first | rfl | simp_all
theorem mupE_nat {P : Program} {rd : Nat → Option IR} {T : TypeId} {m k v : Option AV} {K : Eff → Option α} : (mupE P rd T m k v K).bind D = mupE P rd T m k v (fun d => (K d).bind D) := by
  unfold mupE
  split
  · split
    · rw [lkE_nat]
      congr 1
      funext j e
      split <;> rfl
    · rfl
  · rfl
def OrcNat (F : Orc) : Prop := ∀ (α β : Type) f args R nx (k : AV → IRs → Nat → Option α) (D : α → Option β), (F α f args R nx k).bind D = F β f args R nx (fun d R nx => (k d R nx).bind D)
structure OrcG (P : Program) (F : Orc) : Prop where
 ok : OrcOk P F
 nat : OrcNat F
theorem calE_nat {F : Orc} (hF : OrcNat F) {ev : Operand → Option AV} {R : IRs} {nx : Nat} {x : Option AV} {xs : List Operand} {K : Eff → Option α} : (calE F ev R nx x xs K).bind D = calE F ev R nx x xs (fun d => (K d).bind D) := by
  unfold calE
  split
  · rw [Option.bind_assoc]
    congr 1
    funext as0
    exact hF ..
  · rfl
theorem stepF_nat {F : Orc} (hF : OrcNat F) (o : Op) (P : Program) (ev : Operand → Option AV) (rd : Nat → Option IR) (R : IRs) (nx : Nat) (K : Eff → Option α) : (stepF o P F ev rd R nx K).bind D = stepF o P F ev rd R nx (fun e => (K e).bind D) := by
  have hP : (fun d => (pureK K d).bind D) = pureK (fun e => (K e).bind D) := rfl
  cases o <;> first | rfl | exact lkpE_nat D | exact mkmE_nat D | exact mupE_nat D | exact Option.bind_assoc .. | exact unV_nat D | exact cnvV_nat D | exact nilV_nat D | exact fldV_nat D | exact idxV_nat D | exact ixaV_nat D | exact ldV_nat D | exact stoE_nat D | exact mkfV_nat D | exact extV_nat D | exact bldV_nat D | exact litE_nat D | exact mkE_nat D | exact aloE_nat D | exact boxE_nat D | skip
  case pick c a b =>
    show (stPic c a b P F ev rd R nx K).bind D = stPic c a b P F ev rd R nx _
    unfold stPic
    split
    · exact Option.bind_assoc ..
    · exact Option.bind_assoc ..
    · rfl
  case binOp b T x y t => exact binV_nat D
  case slice T x lo hi mx =>
    show (stSli T x lo hi mx P F ev rd R nx K).bind D = stSli T x lo hi mx P F ev rd R nx _
    unfold stSli
    split
    · exact cutV_nat D
    · split
      · exact emE_nat D
      · rfl
    · rfl
  case call c =>
    show (stCal c P F ev rd R nx K).bind D = stCal c P F ev rd R nx _
    unfold stCal
    split
    · exact calE_nat D hF
    · unfold stBui
      split
      · split
        · exact lenV_nat D
        · rfl
      · split
        · exact mnV_nat D
        · rfl
      · split
        · exact mnV_nat D
        · rfl
      · split
        · exact appE_nat D
        · rfl
      · split
        · exact cpyE_nat D
        · rfl
      · rfl
    · rfl
end
end Go.Iv
end
noncomputable section
namespace Go.Iv
variable [U : Uni]
open Go Go.RowKit Go.Shelf Go.Proofs
def plainOp (o : Oper) : Bool := match o.op with
 | .defer _ => false
 | _ => true
theorem plainOp.ne {o : Oper} (h : plainOp o = true) : ∀ c, o.op ≠ .defer c := fun c e => by
 unfold plainOp at h
 rw [e] at h
 cases h
theorem operIn_of {P : Program} {l m : Nat} {o : Oper} {a : Act} {w : World} {K K' : Act → World → Prop} {Q : Exit → Act → World → Prop} (hp : plainOp o = true) (h : o.wp P a w K Q) (hK : ∀ a w, K a w → K' a w) : o.wpIn (Fence.wide.inRound l) m P a w K' Q := by
 refine ⟨fun _ _ => trivial, ?_⟩
 rw [Fence.inRound_round, Oper.semAt_some l _ _ (plainOp.ne hp)]
 unfold Oper.wp at h
 generalize (execOp a.eval o).run P w = r at h
 cases r with
 | ok x w' =>
  cases x with
  | value v => exact hK _ _ h
  | skip => exact hK _ _ h
  | defer d => exact hK _ _ h
  | enter f args =>
   refine ⟨fun h => by simp [Fence.inRound, Fence.wide] at h, CallsIn.inRound l (callsIn_wide.2 (Calls.mono h fun e w'' he => ?_))⟩
   cases e with
   | returned v => exact hK _ _ he
   | panicked ch => exact he
   | outgrown => exact he
  | row row args =>
   refine ⟨fun h => by simp [Fence.inRound, Fence.wide] at h, fun c cs _ => ?_⟩
   obtain ⟨v, w'', q1, q2⟩ := h c cs
   exact ⟨v, w'', hK _ _ q1, stepsIn_wide.2 q2⟩
  | _ => exact h.elim
 | halt x w' =>
  cases x with
  | panic v => exact h
  | _ => exact h.elim
theorem wpListIn_of {P : Program} {l m : Nat} {ops : Array Oper} {Q : Exit → Act → World → Prop} (hQ : ¬ LetsOut Q) : ∀ (rest : List Oper) (a : Act) (w : World), rest.all plainOp = true → wpList P ops Q rest a w → wpListIn (Fence.wide.inRound l) m P ops Q rest a w
  | [], _, _, _, h => h
  | o :: rest, a, w, hp, h => by
    rw [List.all_cons, Bool.and_eq_true] at hp
    unfold wpList at h
    unfold wpListIn
    by_cases hw : Region.wanted o (yielded ops a.tmps) = true
    · rw [if_pos hw] at h ⊢
      rcases h with h | h
      · exact operIn_of hp.1 h fun a' w' h' => wpListIn_of hQ rest a' w' hp.2 h'
      · exact absurd h.2 hQ
    · rw [if_neg hw] at h ⊢
      exact ⟨fun _ _ => trivial, wpListIn_of hQ rest _ _ hp.2 h⟩
def CWR (P : Program) (C : Cx) (n : Nat) (c : Code) (Q : Exit → Env → List Res → Prop) (E : Env) (σ : List Res) : Prop :=
 ∀ lp m a w, Sim C n E σ a w → a.defers = [] → c.wpIn (Fence.wide.inRound lp) m P (fun e a' w' => a'.defers = [] ∧ ∃ E' σ', Sim C n E' σ' a' w' ∧ Q e E' σ') a w
section
variable {P : Program} {C : Cx} {n : Nat} {c x y : Code} {Q Q' : Exit → Env → List Res → Prop} {E E' : Env} {σ σ' : List Res}
theorem CWR.block {id : Nat} (h : CWR P C n c (BlockQ id Q) E σ) : CWR P C n (.block id c) Q E σ := fun lp m a w ha hd => by
  refine wpIn_block (wpIn_mono (h lp m a w ha hd) fun e a' w' ⟨hd', E', σ', h1, h2⟩ => ?_)
  cases e with
  | exit id' =>
    simp only [BlockQ] at h2
    simp only [Exit.inBlock]
    split
    · rename_i he
      subst he
      have hb : Nat.beq id' id' = true := Nat.beq_refl _
      simp only [hb] at h2
      exact ⟨hd', E', σ', h1, h2⟩
    · rename_i he
      have hb : Nat.beq id' id = false := by
        cases hb : Nat.beq id' id with
        | false => rfl
        | true => exact absurd (Nat.eq_of_beq_eq_true hb) he
      simp only [hb] at h2
      exact ⟨hd', E', σ', h1, h2⟩
  | _ => exact ⟨hd', E', σ', h1, h2⟩
theorem CWR.region {id : Nat} {l : List Oper} (hp : l.all plainOp = true) (h : RW P C n l.toArray (fun E' σ' => Q .normal E' σ') l E σ) : CWR P C n (.region id l.toArray false) Q E σ := fun lp m a w ha hd => by
 refine wpIn_mono (wpIn_region_lit (wpListIn_of (fun ⟨_, _, h⟩ => by cases h.1) l a w hp (h a w ha))) fun e a' w' ⟨he, hd', E', σ', h1, h2⟩ => ?_
 subst he
 exact ⟨hd'.trans hd, E', σ', h1, h2⟩
end
theorem Vw.box {σ : List Res} {b : Nat} {T : TypeId} {cs : List AV} (i : Nat) (hσ : σ[i]? = some (.box b T cs)) : Vw σ (.lit (.pointer (some ⟨b, 0, none⟩))) (.fp cs) := fun A w v hd hr => by
 have hv := hr.litEq
 subst hv
 have hm := List.mem_of_getElem? hσ
 obtain ⟨us, h1, h2⟩ := hd.1 _ hm
 exact .fp cs b 0 us h1.lt (.inr (mem_blks.2 ⟨_, hm, rfl⟩)) h2.1 (fun j v hj => by rw [Nat.zero_add]; exact h1.cell (by simpa using hj)) (fun j a v q1 q2 => (h2.2 j a v q1 q2).mono fun b _ hA => ⟨.inl hA, rfl⟩)
def Iter (P : Program) (gf : FuncId) (caps : List AV) (es : List (List AV)) : Prop :=
 ∀ (A : Nat → Prop) (w : World) (lb : List Value), RelL A w caps lb → ∃ us : List (List Value), us.length = es.length ∧ (∀ i, i < es.length → RelL A w es[i]! us[i]!) ∧
  SeqStopsK Fence.wide 1 P gf lb.toArray (fun i : Fin es.length => us[i.1]!.toArray) (fun W W' => ∀ b, b < w.heap.size → A b → W'.heap[b]? = W.heap[b]?) (fun xs => xs = List.finRange es.length) (fun pre => pre <+: List.finRange es.length) es.length w
def penv : List Tmp → List AV → Env → Env
 | p :: ps, e :: es, E => penv ps es ((p, e) :: E)
 | _, _, E => E
theorem Slots.penv {A : Nat → Prop} {w : World} : ∀ (ps : List Tmp) (es : List AV) (us : List Value) (E : Env) (tmps : Array Value), Slots A w E tmps → RelL A w es us → (∀ p ∈ ps, p < tmps.size) → ps.length = es.length →
    Slots A w (penv ps es E) ((ps.zip us).foldl (fun t (p, v) => t.setIfInBounds p v) tmps)
  | [], [], us, E, tmps, h, _, _, _ => by simpa [Iv.penv] using h
  | [], _ :: _, _, _, _, _, _, _, hl => by cases hl
  | _ :: _, [], _, _, _, _, _, _, hl => by cases hl
  | p :: ps, e :: es, [], E, tmps, h, hr, _, _ => by have := hr.1; simp at this
  | p :: ps, e :: es, u :: us, E, tmps, h, hr, hp, hl => by
    have h1 : Slots A w ((p, e) :: E) (tmps.setIfInBounds p u) := Slots.put (a := { tmps := tmps, defers := [] }) h (hp p List.mem_cons_self) (hr.2 0 e u rfl rfl)
    exact Slots.penv ps es us _ _ h1 ⟨by have := hr.1; simpa using this, fun j a v q1 q2 => hr.2 (j + 1) a v (by simpa using q1) (by simpa using q2)⟩ (fun q hq => by simpa using hp q (List.mem_cons_of_mem _ hq)) (by simpa using hl)
def setAll (tmps : Array Value) (zs : List (Tmp × Value)) : Array Value := zs.foldl (fun t (p, v) => t.setIfInBounds p v) tmps
theorem setAll_size : ∀ (zs : List (Tmp × Value)) (tmps : Array Value), (setAll tmps zs).size = tmps.size
 | [], _ => rfl
 | z :: zs, tmps => (setAll_size zs (tmps.setIfInBounds z.1 z.2)).trans (by simp)
theorem setAll_eq (ps : Array Tmp) (us : List Value) (tmps : Array Value) : (ps.zip us.toArray).foldl (fun t (p, v) => t.setIfInBounds p v) tmps = setAll tmps (ps.toList.zip us) := by
 rw [← Array.foldl_toList, Array.toList_zip]
 rfl
theorem tr_out {C : Cx} {σ σ1 : List Res} {W W' : World} (h : Good C σ W) (h' : Good ⟨W, al C σ, blks σ⟩ σ1 W') : Tr C (blks σ) σ W σ1 W' := by
  have hal : ∀ b, al ⟨W, al C σ, blks σ⟩ σ1 b → al C σ1 b := fun b hb => by
    refine ⟨?_, hb.2⟩
    rcases hb.1 with q | q | q
    · exact q.1
    · rcases h.own b q with q | q
      · exact .inr (.inl q)
      · exact .inr (.inr q)
    · exact .inr (.inr (Nat.le_trans h.kept.size q))
  refine ⟨⟨h.kept.trans h'.kept (fun b hb hlt => (h.own b hb).elim id (fun q => by omega)), fun r hr => (h'.res r hr).mono (fun b _ hA => ⟨hal b hA, rfl⟩) (fun _ _ => rfl), h'.dis, fun b hb => ?_⟩, h'.kept, fun b hb hA => ⟨⟨hA.1, fun hx => ?_⟩, hA.2⟩⟩
  · rcases h'.own b hb with q | q
    · exact h.own b q
    · exact .inr (Nat.le_trans h.kept.size q)
  · rcases h'.own b hx with q | q
    · exact hA.2 q
    · have q' : W.heap.size ≤ b := q
      omega
theorem al_out {C : Cx} {σ σ1 : List Res} {W : World} (h : Good C σ W) : ∀ b, al ⟨W, al C σ, blks σ⟩ σ1 b → al C σ1 b := fun b hb => by
  refine ⟨?_, hb.2⟩
  rcases hb.1 with q | q | q
  · exact q.1
  · rcases h.own b q with q | q
    · exact .inr (.inl q)
    · exact .inr (.inr q)
  · exact .inr (.inr (Nat.le_trans h.kept.size q))
theorem Good.fresh {C : Cx} {σ : List Res} {W : World} (h : Good C σ W) : Good ⟨W, al C σ, blks σ⟩ σ W :=
 ⟨Kp.refl _ _, fun r hr => (h.res r hr).mono (fun b _ hA => ⟨⟨.inl hA, hA.2⟩, rfl⟩) (fun _ _ => rfl), h.dis, fun b hb => .inl hb⟩
theorem Good.less {C : Cx} {σ σ' : List Res} {W : World} (h : Good C σ W) (hs : List.Sublist σ' σ) : Good C σ' W := by
 have hm : ∀ r ∈ σ', r ∈ σ := fun r hr => hs.subset hr
 exact ⟨h.kept, fun r hr => (h.res r (hm r hr)).mono (fun b _ hA => ⟨⟨hA.1, fun hx => hA.2 (blks_sub hm b hx)⟩, rfl⟩) (fun _ _ => rfl), h.dis.sublist (hs.filterMap _), fun b hb => h.own b (blks_sub hm b hb)⟩
def Lay (C : Cx) (σ : List Res) (w : World) (σ' : List Res) (W : World) : Prop := ∀ b, b < w.heap.size → al C σ b → al C σ' b ∧ W.heap[b]? = w.heap[b]?
theorem Lay.less {C : Cx} {σ σ' σ'' : List Res} {w W : World} (h : Lay C σ w σ' W) (hs : List.Sublist σ'' σ') : Lay C σ w σ'' W := fun b hb hA =>
 ⟨⟨(h b hb hA).1.1, fun hx => (h b hb hA).1.2 (blks_sub (fun _ hr => hs.subset hr) b hx)⟩, (h b hb hA).2⟩
theorem Lay.tr {C : Cx} {X : List Nat} {σ σ' σ'' : List Res} {w W W' : World} (h : Lay C σ w σ' W) (t : Tr C X σ' W σ'' W') (hs : w.heap.size ≤ W.heap.size) : Lay C σ w σ'' W' := fun b hb hA =>
 have q := t.keep b (Nat.lt_of_lt_of_le hb hs) (h b hb hA).1
 ⟨q.1, q.2.trans (h b hb hA).2⟩
theorem Res.ok.cells {A : Nat → Prop} {w : World} {r : Res} (h : r.ok A w) (hm : ∀ v es, r ≠ .mp v es) {b : Nat} (hb : r.blk = some b) : ∃ cs T m, w.heap[b]? = some (Obj.cells cs T m) := by
  cases r with
  | box b' T cs => obtain ⟨us, h1, _⟩ := h; cases hb; exact ⟨_, _, _, h1⟩
  | row v q l =>
    obtain ⟨us, h1, _⟩ := h
    rcases h1.2 with ⟨p, rfl, _⟩ | ⟨g, cap, cur, rfl, q1, _⟩
    · cases p <;> cases hb
    · cases hb; exact ⟨_, _, _, q1⟩
  | mp v es => exact absurd rfl (hm v es)
theorem tn_grown {C : Cx} {W W' : World} {row : Option Nat} (hg : W.grownBy W' row) (hw : ∀ r, row = some r → C.w0.heap.size ≤ r ∧ ∃ o : Obj, W.heap[r]? = some o ∧ o.isCells = false) (h0 : C.w0.heap.size ≤ W.heap.size) : Tn0 C W W' :=
 ⟨hg.os, hg.tape, hg.output, hg.size, fun k hk => hg.block k (by omega) (fun e => by have := (hw k e.symm).1; omega), fun b cs T m hx => hg.block b (Array.getElem?_eq_some_iff.1 hx).1 (fun e => by
  obtain ⟨_, o, h1, h2⟩ := hw b e.symm
  rw [hx] at h1
  cases h1
  cases h2)⟩
def Mid (C : Cx) (σ : List Res) (w : World) (J : List Res → Prop) (W : World) : Prop :=
 ∃ σ', J σ' ∧ Good C σ' W ∧ Lay C σ w σ' W ∧ w.heap.size ≤ W.heap.size
theorem Mid.own {α : Type} {C : Cx} {σ : List Res} {w : World} (hw : C.w0.heap.size ≤ w.heap.size) (J : α → List Res → Prop) (hn : ∀ a σ, J a σ → NoMp σ) : OwnFrom w.heap.size (fun pre => Mid C σ w (J pre)) := fun pre W W' row ⟨σ', h1, h2, h3, h4⟩ hg hr => by
 refine ⟨σ', h1, h2.turn0 (hn _ _ h1) (tn_grown hg (fun r e => ⟨by have := (hr r e).1; omega, (hr r e).2⟩) h2.kept.size), fun b hb hA => ⟨(h3 b hb hA).1, ?_⟩, Nat.le_trans h4 hg.size⟩
 exact (hg.block b (by omega) (fun e => by have := (hr b e.symm).1; omega)).trans (h3 b hb hA).2
theorem keepsFrom_tr {C : Cx} {σ σ' : List Res} {W W' : World} (B : Nat) (h : Good C σ W) (hm : NoMp σ) (t : Tr C (blks σ) σ W σ' W') : KeepsFrom B W W' :=
 ⟨t.kp.size, fun k o _ hk ho => (t.kp.block k (Array.getElem?_eq_some_iff.1 hk).1 (fun hx => by
  obtain ⟨r, h1, h2⟩ := mem_blks.1 hx
  obtain ⟨cs, T, m, h3⟩ := (h.res r h1).cells (hm r h1) h2
  rw [hk] at h3
  cases h3
  cases ho)).trans hk⟩
end Go.Iv
end
noncomputable section
namespace Go.Iv
variable [U : Uni] [L : UniL]
open Go Go.RowKit
theorem frzN_ltd {id t m : Nat} {l : List (U.Dat t)} : ∀ (n : Nat) {d : AV}, Ltd m d → Ltd m (frzN id t l n d)
  | 0, d, h => h
  | n + 1, d, h => by
    have hL : ∀ {cs : List AV}, (∀ c ∈ cs, Ltd m c) → ∀ c ∈ cs.map (frzN id t l n), Ltd m c := fun h c hc => by
      obtain ⟨c', h1, rfl⟩ := List.mem_map.1 hc
      exact frzN_ltd n (h c' h1)
    unfold frzN
    split
    · omega
    · rename_i h0; cases h0; exact .agg _ (hL h.aggL)
    · rename_i h0; cases h0; exact .tup _ (hL h.tupL)
    · rename_i h0; cases h0; exact .fn _ _ (hL h.fnL)
    · unfold frz1
      split
      · split
        · exact .sl _ _
        · exact h
      · exact h
theorem map_get {f : AV → AV} (t : Nat) : ∀ (E : Env), Env.get (E.map fun p => (p.1, f p.2)) t = (E.get t).map f
 | [] => rfl
 | (k, v) :: E => by
  show Env.get ((k, f v) :: E.map fun p => (p.1, f p.2)) t = _
  unfold Env.get
  cases hb : Nat.beq k t with
  | true => rfl
  | false => exact map_get t E
section
variable {α : Type} {r : α} {P : Program} {F : Orc} {o : Oper} {C : Cg} {n : Nat} {s : St} {a : Act} {w : World}
theorem Mt.frz (h : Mt C n s a w) (id : Nat) : Mt C n (s.frz id) a w := by
  unfold St.frz
  split
  case h_2 => exact h
  rename_i t l hr
  obtain ⟨E, hh, hE, hR, ρ, hag, hsim⟩ := h
  obtain ⟨i, hi1, _, hi3⟩ := rget_idx hr
  have hres := res_get (ρ := ρ) hi1
  have hg := hsim.good
  have hd : Hd (al C.C (IRs.res ρ s.R)) [.row (ρ.v id) t l] w := ⟨fun r hr => by
      rw [List.mem_singleton] at hr
      rw [hr]
      exact hg.res _ (List.mem_of_getElem? hres), fun b hb hA => hA.2 (by
      obtain ⟨r, h1, h2⟩ := mem_blks.1 hb
      rw [List.mem_singleton] at h1
      rw [h1] at h2
      exact mem_blks.2 ⟨_, List.mem_of_getElem? hres, h2⟩)⟩
  have hle := al_erase (C := C.C) hres hg
  have hbk : blks (IRs.res ρ ((rdel id s.R).map fun p => (p.1, frzR id t l p.2))) = blks ((IRs.res ρ s.R).eraseIdx i) := by
    rw [← res_erase, ← hi3]
    unfold blks IRs.res
    rw [List.map_map, List.filterMap_map, List.filterMap_map]
    congr 1
    funext p
    obtain ⟨q, rr⟩ := p
    cases rr <;> rfl
  have hal : ∀ b, (al C.C (IRs.res ρ s.R) b ∨ b ∈ blks [Res.row (ρ.v id) t l]) → al C.C (IRs.res ρ ((rdel id s.R).map fun p => (p.1, frzR id t l p.2))) b := fun b hb => by
    have := hle b hb
    exact ⟨this.1, by rw [hbk]; exact this.2⟩
  have hrel : ∀ {d : AV} {v : Value}, Rel (al C.C (IRs.res ρ s.R)) w (d.sub ρ) v → Rel (al C.C (IRs.res ρ ((rdel id s.R).map fun p => (p.1, frzR id t l p.2)))) w ((frzN id t l 3 d).sub ρ) v := fun h =>
    (frzN_rel hd 3 h).mono fun b _ hA => ⟨hal b hA, rfl⟩
  refine ⟨E.map fun p => (p.1, frzN id t l 3 p.2), fun k d hk => ?_, fun p hp => ?_, fun p hp => ?_, ρ, hag, hsim.defers.step (fun b _ hA => ⟨hal b (.inl hA), rfl⟩), hsim.size, fun k av hk => ?_, ⟨hg.kept, fun rr hrr => ?_, ?_, fun b hb => ?_⟩⟩
  · have hk' : eget (emap (frzN id t l 3) s.E) k = some d := hk
    rw [emap_get] at hk'
    obtain ⟨d', h1, rfl⟩ := Option.map_eq_some_iff.1 hk'
    rw [map_get, hh k d' h1]
    rfl
  · obtain ⟨p', h1, rfl⟩ := List.mem_map.1 hp
    exact frzN_ltd 3 (hE p' h1)
  · obtain ⟨p', h1, rfl⟩ := List.mem_map.1 hp
    have h2 := rdel_ltd (id := id) hR p' h1
    refine ⟨h2.1, ?_⟩
    obtain ⟨q, rr⟩ := p'
    cases rr with
    | row t' l' => trivial
    | mp es => trivial
    | box T cs =>
      intro c hc
      obtain ⟨c', h3, rfl⟩ := List.mem_map.1 hc
      exact frzN_ltd 3 (h2.2 c' h3)
  · rw [Env.sub_get, map_get] at hk
    obtain ⟨d', h1, rfl⟩ := Option.map_eq_some_iff.1 hk
    obtain ⟨d, h2, rfl⟩ := Option.map_eq_some_iff.1 h1
    obtain ⟨v, h3, h4⟩ := hsim.slots k (d.sub ρ) (by rw [Env.sub_get, h2]; rfl)
    exact ⟨v, h3, hrel h4⟩
  · obtain ⟨p, h1, rfl⟩ := List.mem_map.1 hrr
    obtain ⟨p', h2, rfl⟩ := List.mem_map.1 h1
    have hm : p'.2.res ρ p'.1 ∈ IRs.res ρ s.R := by
      rw [hi3] at h2
      exact List.mem_map.2 ⟨p', List.mem_of_mem_eraseIdx h2, rfl⟩
    have h3 := hg.res _ hm
    obtain ⟨q, rr⟩ := p'
    cases rr with
    | row t' l' => exact h3.mono (fun b _ hA => ⟨hal b (.inl hA), rfl⟩) (fun _ _ => rfl)
    | mp es => exact h3.mono (fun b _ hA => ⟨hal b (.inl hA), rfl⟩) (fun _ _ => rfl)
    | box T cs =>
      obtain ⟨us, h4, h5⟩ := h3
      refine ⟨us, h4, by simpa using h5.1, fun j av v q1 q2 => ?_⟩
      rw [List.map_map, List.getElem?_map] at q1
      obtain ⟨c, hc, rfl⟩ := Option.map_eq_some_iff.1 q1
      exact hrel (h5.2 j (c.sub ρ) v (by rw [List.getElem?_map, hc]; rfl) q2)
  · rw [hbk]
    exact hg.dis.sublist ((List.eraseIdx_sublist _ _).filterMap _)
  · rw [hbk] at hb
    exact hg.own b (blks_sub (fun r hr => (List.eraseIdx_sublist _ _).subset hr) b hb)
def St.frzL (s : St) (ids : List Nat) : St := match ids with
 | [] => s
 | i :: is => (s.frz i).frzL is
theorem Mt.frzL : ∀ (ids : List Nat) {s : St}, Mt C n s a w → Mt C n (s.frzL ids) a w
 | [], _, h => h
 | i :: is, _, h => Mt.frzL is (h.frz i)
def ownIds : AV → List Nat
 | .own id => [id]
 | .agg cs => cs.filterMap fun c => match c with
  | .own id => some id
  | _ => none
 | _ => []
def ownO (E : ET) (x : Operand) : List Nat := match evF E x with
 | some d => ownIds d
 | none => []
def frzOf (E : ET) : Op → List Nat
 | .buildSlice _ _ ps => ps.toList.flatMap fun p => ownO E p.2
 | .store T x v => match L.fz (Nat.add 1000000 T) with
  | true => ownO E v
  | false => match evF E x with
   | some (.ra _ _ _ _) => ownO E v
   | _ => []
 | .slice _ x _ _ none => ownO E x
 | .call c => match c.callee with
  | .value (.func f) => match L.fz f with
   | true => c.args.toList.flatMap (ownO E)
   | false => []
  | _ => []
 | _ => []
def St.putB (s : St) (t : Nat) (b : Bool) : St := { s with E := eput t (.b b) s.E }
theorem Mt.putB {t : Nat} {b : Bool} (h : Mt C n s a w) (ht : eget s.E t = some (.lit (.bool b))) : Mt C n (s.putB t b) a w := by
  obtain ⟨E, hh, hE, hR, ρ, hag, hsim⟩ := h
  refine ⟨E, fun k d hk => ?_, hE, hR, ρ, hag, hsim⟩
  have hk' : eget (eput t (.b b) s.E) k = some d := hk
  rcases eput_get hk' with ⟨rfl, rfl⟩ | ⟨_, h2⟩
  · exact hh _ _ ht
  · exact hh k d h2
def gate (ops : Array Oper) (o : Oper) (s : St) (yes no : St → Option α) : Option α := match o.guard with
  | none => yes s
  | some (j, want) => match (ops[j]?).bind (·.dst) with
    | none => none
    | some t => match eget s.E t with
      | some (.lit (.bool b)) => match b with
        | true => match want with
          | true => yes (s.putB t true)
          | false => no (s.putB t true)
        | false => match want with
          | true => no (s.putB t false)
          | false => yes (s.putB t false)
      | some (.lit (.tuple _)) => no s
      | _ => none
theorem wants_sub {ops : Array Oper} {j t : Nat} {want : Bool} {ρ : Gh} (hg : o.guard = some (j, want)) (hj : (ops[j]?).bind (·.dst) = some t) {E : Env} :
    (∀ b, E.get t = some (.lit (.bool b)) → Wants (E.sub ρ) o ops = some (b == want)) ∧ (∀ vs, E.get t = some (.lit (.tuple vs)) → Wants (E.sub ρ) o ops = some false) := by
  constructor
  · intro b hb
    unfold Wants
    rw [hg]
    simp only [hj, Env.sub_get, hb, Option.map_some, sub_lit]
  · intro vs hb
    unfold Wants
    rw [hg]
    simp only [hj, Env.sub_get, hb, Option.map_some, sub_lit]
theorem gate_ok {ops : Array Oper} {yes no : St → Option α} (h : gate ops o s yes no = some r) (hm : Mt C n s a w) : ∃ s', Mt C n s' a w ∧
    ((Region.wanted o (yielded ops a.tmps) = true ∧ yes s' = some r) ∨ (Region.wanted o (yielded ops a.tmps) = false ∧ no s' = some r)) := by
  unfold gate at h
  split at h
  · rename_i hg
    exact ⟨s, hm, .inl ⟨by simp [Region.wanted, hg], h⟩⟩
  · rename_i j want hg
    split at h
    · cases h
    · rename_i t hj
      have hspec : ∀ {s' : St}, Mt C n s' a w → (∀ b, eget s'.E t = some (.lit (.bool b)) → Region.wanted o (yielded ops a.tmps) = (b == want)) ∧ (∀ vs, eget s'.E t = some (.lit (.tuple vs)) → Region.wanted o (yielded ops a.tmps) = false) := fun {s'} hm' => by
        obtain ⟨E, hh, _, _, ρ, _, hsim⟩ := hm'
        obtain ⟨h1, h2⟩ := wants_sub (ρ := ρ) hg hj (E := E)
        exact ⟨fun b hb => Wants.spec hsim.slots (h1 b (hh _ _ hb)), fun vs hv => Wants.spec hsim.slots (h2 vs (hh _ _ hv))⟩
      split at h
      · rename_i b hb
        have hw := (hspec hm).1 b hb
        split at h
        · split at h
          · exact ⟨_, hm.putB hb, .inl ⟨hw, h⟩⟩
          · exact ⟨_, hm.putB hb, .inr ⟨hw, h⟩⟩
        · split at h
          · exact ⟨_, hm.putB hb, .inr ⟨hw, h⟩⟩
          · exact ⟨_, hm.putB hb, .inl ⟨hw, h⟩⟩
      · rename_i vs hb
        exact ⟨s, hm, .inr ⟨(hspec hm).2 vs hb, h⟩⟩
      · cases h
def pickS (o : Op) (s : St) (f : St → Option α) : Option α := match o with
 | .pick (.tmp t) _ _ => match eget s.E t with
  | some (.lit (.bool b)) => match b with
   | true => f (s.putB t true)
   | false => f (s.putB t false)
  | _ => none
 | _ => f s
theorem pickS_ok {op : Op} {f : St → Option α} (h : pickS op s f = some r) (hm : Mt C n s a w) : ∃ s', Mt C n s' a w ∧ f s' = some r := by
  unfold pickS at h
  split at h
  · split at h
    · rename_i b hb
      split at h
      · exact ⟨_, hm.putB hb, h⟩
      · exact ⟨_, hm.putB hb, h⟩
    · cases h
  · exact ⟨s, hm, h⟩
def putO (dst : Option Nat) (d : AV) (E : ET) : ET := match dst with
 | none => E
 | some t => eput t d E
def appK (dst : Option Nat) (E : ET) (R : IRs) (nx : Nat) (ih : St → (St → Option α) → Option α) (k : St → Option α) (e : Eff) : Option α := match e with
 | .val d => ih ⟨putO dst d E, R, nx⟩ k
 | .new d r => ih ⟨putO dst d E, (nx, r) :: R, nx + 1⟩ k
 | .set id r => ih ⟨putO dst (.lit undef) E, rset id r R, nx⟩ k
 | .grow id r => ih ⟨putO dst (.own nx) E, (nx, r) :: rdel id R, nx + 1⟩ k
 | .all d R' m => ih ⟨putO dst d E, R', m⟩ k
theorem appK_eq (dst : Option Nat) (s : St) (ih : St → (St → Option α) → Option α) (k : St → Option α) : appK dst s.E s.R s.nx ih k = fun e => ih (s.app dst e) k := by
 funext e
 cases e <;> cases dst <;> rfl
def rDo2 (P : Program) (F : Orc) (o : Oper) (ih : St → (St → Option α) → Option α) (k : St → Option α) (s : St) : Option α := St.rec (fun E R nx => stepF o.op P F (evF E) (rget R) R nx (appK o.dst E R nx ih k)) s
def rDo (P : Program) (F : Orc) (o : Oper) (ih : St → (St → Option α) → Option α) (k : St → Option α) (s : St) : Option α := rDo2 P F o ih k (s.frzL (frzOf s.E o.op))
abbrev OpK (α : Type) := Program → Orc → Option Nat → ET → IRs → Nat → (St → (St → Option α) → Option α) → (St → Option α) → Option α
abbrev StT (α : Type) := Program → Orc → (Operand → Option AV) → (Nat → Option IR) → IRs → Nat → (Eff → Option α) → Option α
def stD (f : StT α) : OpK α := fun P F dst E R nx ih k => f P F (evF E) (rget R) R nx (appK dst E R nx ih k)
def stZ (ids : ET → List Nat) (f : StT α) : OpK α := fun P F dst E R nx ih k => St.rec (fun E R nx => f P F (evF E) (rget R) R nx (appK dst E R nx ih k)) (St.frzL ⟨E, R, nx⟩ (ids E))
def stPk (c a b : Operand) : OpK α := match c with
 | .tmp t => fun P F dst E R nx ih k => match eget E t with
  | some (.lit (.bool v)) => match v with
   | true => stD (stPic (.tmp t) a b) P F dst (eput t (.b true) E) R nx ih k
   | false => stD (stPic (.tmp t) a b) P F dst (eput t (.b false) E) R nx ih k
  | _ => none
 | c => stD (stPic c a b)
def opF (o : Op) : OpK α := match o with
 | .move x => stD (stMov x)
 | .assign x => stD (stMov x)
 | .pick c a b => stPk c a b
 | .binOp b T x y _ => stD (stBin b T x y)
 | .unOp b _ x => stD (stUn b x)
 | .convert T T' x => stD (stCnv T T' x)
 | .nilCheck x => stD (stNil x)
 | .fieldAddr T x i => stD (stFld T x i)
 | .indexAddr T x y => stD (stIdx T x y)
 | .index T x y => stD (stIxa T x y)
 | .load T x => stD (stLd T x)
 | .store T x y => stZ (fun E => frzOf E (.store T x y)) (stSto T x y)
 | .makeFunc f fs cs => stD (stMkf f fs cs)
 | .extract x i => stD (stExt x i)
 | .build T ps => stD (stBld T ps)
 | .buildSlice T n ps => stZ (fun E => frzOf E (.buildSlice T n ps)) (stLit T n ps)
 | .makeSlice T x y => stD (stMk T x y)
 | .alloc T => stD (stAlo T)
 | .box T x => stD (stBox T x)
 | .slice T x lo hi mx => stZ (fun E => frzOf E (.slice T x lo hi mx)) (stSli T x lo hi mx)
 | .call c => stZ (fun E => frzOf E (.call c)) (stCal c)
 | .lookup T x y ok => stD (stLkp T x y ok)
 | .makeMap T x => stD (stMkm T x)
 | .mapUpdate T x y z => stD (stMup T x y z)
 | .insert T x y z => stD (stMup T x y z)
 | _ => stD stNo
theorem opF_eq (P : Program) (F : Orc) (o : Oper) (s : St) (ih : St → (St → Option α) → Option α) (k : St → Option α) : opF o.op P F o.dst s.E s.R s.nx ih k = pickS o.op s (rDo P F o ih k) := by
 unfold rDo rDo2 pickS
 cases h : o.op <;> first | rfl | skip
 case pick c a b =>
  cases c <;> rfl
def rYes (P : Program) (F : Orc) (o : Oper) (ih : St → (St → Option α) → Option α) (k : St → Option α) (s : St) : Option α := St.rec (fun E R nx => opF o.op P F o.dst E R nx ih k) s
def rNo (dst : Option Nat) (ih : St → (St → Option α) → Option α) (k : St → Option α) (s : St) : Option α := match dst with
 | some t => ih { s with E := eput t (.lit undef) s.E } k
 | none => ih s k
def rOne (P : Program) (F : Orc) (n : Nat) (ops : Array Oper) (o : Oper) (ih : St → (St → Option α) → Option α) (s : St) (k : St → Option α) : Option α := match dstOk n o.dst with
 | true => gate ops o s (rYes P F o ih k) (rNo o.dst ih k)
 | false => none
def rexec (P : Program) (F : Orc) (n : Nat) (ops : Array Oper) (l : List Oper) : St → (St → Option α) → Option α := List.rec (fun s k => k s) (fun o _ ih => rOne P F n ops o ih) l
theorem rexec_ok (hF : OrcOk P F) {ops : Array Oper} {k : St → Option α} : ∀ (rest : List Oper) {s : St} {a : Act} {w : World}, rexec P F n ops rest s k = some r → Mt C n s a w →
    wpList P ops (fun e a' w' => e = .normal ∧ a'.defers = a.defers ∧ ∃ s', k s' = some r ∧ Mt C n s' a' w') rest a w
  | [], s, a, w, h, hm => ⟨rfl, rfl, s, h, hm⟩
  | o :: rest, s, a, w, h, hm => by
    change rOne P F n ops o (rexec P F n ops rest) s k = some r at h
    unfold rOne at h
    split at h
    case h_2 => cases h
    rename_i hd
    refine wpList_step fun K' hK => ?_
    have cont : ∀ {s' : St} {a' : Act} {w' : World}, a'.defers = a.defers → rexec P F n ops rest s' k = some r → Mt C n s' a' w' → K' a' w' := fun {s' a' w'} hda h1 h2 => hK _ _ (by
      have := rexec_ok hF rest h1 h2
      rw [hda] at this
      exact this)
    obtain ⟨s1, hm1, ⟨hw, h1⟩ | ⟨hw, h1⟩⟩ := gate_ok h hm
    · rw [if_pos hw]
      have h1' : opF o.op P F o.dst s1.E s1.R s1.nx (rexec P F n ops rest) k = some r := h1
      rw [opF_eq] at h1'
      obtain ⟨s2, hm2, h2⟩ := pickS_ok h1' hm1
      unfold rDo at h2
      have e2 : ∀ s : St, rDo2 P F o (rexec P F n ops rest) k s = stepOp P F (evF s.E) (rget s.R) s.R s.nx o.op (fun e => rexec P F n ops rest (s.app o.dst e) k) := fun s => by
        show stepF o.op P F (evF s.E) (rget s.R) s.R s.nx (appK o.dst s.E s.R s.nx (rexec P F n ops rest) k) = _
        rw [stepF_eq, appK_eq]
      rw [e2] at h2
      have hm3 := Mt.frzL (frzOf s2.E o.op) hm2
      exact stp_wp (K := fun e => rexec P F n ops rest ((s2.frzL (frzOf s2.E o.op)).app o.dst e) k) (r := r) hm3 hd (fun E hs => stepOp_ok hF hs rfl h2) fun a' w' e q1 q2 _ q4 => cont q1 q2 q4
    · rw [if_neg (by rw [hw]; exact Bool.false_ne_true)]
      cases hdst : o.dst with
      | none =>
        rw [hdst] at h1
        exact cont rfl h1 hm1
      | some t =>
        rw [hdst] at h1 hd
        obtain ⟨E, hh, hE, hR, ρ, hag, hsim⟩ := hm1
        exact cont rfl h1 ⟨(t, .lit undef) :: E, hh.put t _, Env.cons_ltd hE (.lit _), hR, ρ, hag, by
          have := hsim.put (av := .lit undef) (v := undef) hd (.lit _)
          show Sim C.C n ((t, AVq.sub ρ (.lit undef)) :: E.sub ρ) _ _ _
          rw [sub_lit]
          exact this⟩
end
def InL (P : Program) (c : Code) (Q : Exit → Act → World → Prop) (a : Act) (w : World) : Prop :=
 ∀ (b : Frame) (k : List Item) (cs : List Frame), ∃ e a' w', Q e a' w' ∧ Arrives P (lone (b.at a (.inLoop c :: k)) cs w) b k cs e a' w'
theorem inL_round {P : Program} {c : Code} {Q : Exit → Act → World → Prop} {a : Act} {w : World} (h : c.wp P (Exit.then (InL P c Q) Q) a w) (b : Frame) (k : List Item) (cs : List Frame) :
  ∃ e a' w', Q e a' w' ∧ Arrives P (lone (b.at a (.code c :: .inLoop c :: k)) cs w) b k cs e a' w' := by
 obtain ⟨e, a₁, w₁, hq, harr⟩ := h b (.inLoop c :: k) cs
 cases e with
 | normal =>
  obtain ⟨e₂, a₂, w₂, hq₂, harr₂⟩ := hq b k cs
  exact ⟨e₂, a₂, w₂, hq₂, .of_steps harr harr₂⟩
 | exit id => exact ⟨_, a₁, w₁, hq, .pass (x := .inLoop c) rfl (fun _ _ => .inl (by simp)) harr⟩
 | goto l => exact ⟨_, a₁, w₁, hq, .pass (x := .inLoop c) rfl (fun _ _ => .inl (by simp)) harr⟩
 | ret => exact ⟨_, a₁, w₁, hq, .pass (x := .inLoop c) rfl (fun _ _ => .inl (by simp)) harr⟩
 | panic ch => exact ⟨_, a₁, w₁, hq, .pass (x := .inLoop c) rfl (fun _ _ => .inl (by simp)) harr⟩
 | outgrown => exact ⟨_, a₁, w₁, hq, .pass (x := .inLoop c) rfl (fun _ _ => .inl (by simp)) harr⟩
theorem wp_unroll {P : Program} {c : Code} {Q : Exit → Act → World → Prop} {a : Act} {w : World} (h : c.wp P (Exit.then (InL P c Q) Q) a w) : (Code.loop c).wp P Q a w := fun b k cs =>
 let ⟨e, a', w', hq, harr⟩ := inL_round h b k cs
 ⟨e, a', w', hq, .of_steps (.one step_loop) harr⟩
theorem inL_step {P : Program} {c : Code} {Q : Exit → Act → World → Prop} {a : Act} {w : World} (h : c.wp P (Exit.then (InL P c Q) Q) a w) : InL P c Q a w := fun b k cs =>
 let ⟨e, a', w', hq, harr⟩ := inL_round h b k cs
 ⟨e, a', w', hq, .of_steps (.one step_inLoop) harr⟩
section
variable {α : Type} {r : α} {P : Program} {F : Orc} {C : Cx} {n : Nat}
abbrev Kont (α : Type) := Exit → St → Option α
def loopK (k : Kont α) (ih : St → Option α) : Kont α := fun e s => match e with
 | .normal => ih s
 | e => k e s
def loopN (b : St → Kont α → Option α) (k : Kont α) (m : Nat) : St → Option α := Nat.rec (fun _ => none) (fun _ ih s => b s (loopK k ih)) m
def condB (b : Bool) (t : Nat) (s : St) (x y : St → Option α) : Option α := match b with
 | true => x (s.putB t true)
 | false => y (s.putB t false)
def condO (c : Operand) (s : St) (x y : St → Option α) : Option α := match c with
 | .tmp t => match eget s.E t with
  | some (.lit (.bool b)) => condB b t s x y
  | _ => none
 | .const (.bool true) => x s
 | .const (.bool false) => y s
 | _ => none
def seqK (y : St → Kont α → Option α) (k : Kont α) : Kont α := fun e s => match e with
 | .normal => y s k
 | e => k e s
def blockK (id : Nat) (k : Kont α) : Kont α := fun e s => match e with
 | .exit i => match Nat.beq i id with
  | true => k .normal s
  | false => k (.exit i) s
 | e => k e s
def exSkip (s : St) (k : Kont α) : Option α := k .normal s
def exSeq (x y : St → Kont α → Option α) (s : St) (k : Kont α) : Option α := x s (seqK y k)
def exCond (c : Operand) (x y : St → Kont α → Option α) (s : St) (k : Kont α) : Option α := condO c s (fun s => x s k) (fun s => y s k)
def exBlock (id : Nat) (x : St → Kont α → Option α) (s : St) (k : Kont α) : Option α := x s (blockK id k)
def exLoop (fuel : Nat) (x : St → Kont α → Option α) (s : St) (k : Kont α) : Option α := loopN x k fuel s
def exExit (i : Nat) (s : St) (k : Kont α) : Option α := k (.exit i) s
def exRet (s : St) (k : Kont α) : Option α := k .ret s
def exNo (_ : St) (_ : Kont α) : Option α := none
def resV (P : Program) (s : St) : ResultVar → Option AV
 | .tmp t => eget s.E t
 | .cell t ty => match eget s.E t with
  | some (.ptr id 0) => match rget s.R id with
   | some (.box _ cs) => match oneB P ty with
    | true => cs[0]?
    | false => match manyB P ty with
     | some m => match Nat.beq cs.length m with
      | true => some (.agg cs)
      | false => none
     | none => none
   | _ => none
  | _ => none
def resL (P : Program) (s : St) : List ResultVar → Option (List AV)
 | [] => some []
 | x :: xs => match resV P s x with
  | some d => (resL P s xs).map fun ds => d :: ds
  | none => none
def resA : List AV → AV
 | [d] => d
 | ds => .tup ds
def idsN : Nat → AV → List Nat
 | _, .own id => [id]
 | _, .ptr id _ => [id]
 | _, .ra id _ _ _ => [id]
 | n + 1, .agg cs => cs.flatMap (idsN n)
 | n + 1, .tup cs => cs.flatMap (idsN n)
 | n + 1, .fn _ cs => cs.flatMap (idsN n)
 | _, _ => []
def memB (i : Nat) : List Nat → Bool
 | [] => false
 | j :: js => match Nat.beq i j with
  | true => true
  | false => memB i js
def idsR (R : IRs) (ids : List Nat) : List Nat := ids.flatMap fun i => match rget R i with
 | some (.box _ cs) => cs.flatMap (idsN 3)
 | _ => []
def reach (R : IRs) : Nat → List Nat → List Nat
 | 0, ids => ids
 | m + 1, ids => ids ++ reach R m (idsR R ids)
def keepL (nx : Nat) (ids : List Nat) (R : IRs) : IRs := List.rec [] (fun p R ih => Bool.rec (Bool.rec ih (p :: ih) (memB p.1 ids)) (p :: R) (Nat.blt p.1 nx)) R
def keepR (R : IRs) (nx : Nat) (d : AV) : IRs := keepL nx (reach R 3 (idsN 3 d ++ List.range nx)) R
def keepA (R : IRs) (nx : Nat) (d : AV) (xs : List AV) : IRs := keepL nx (reach R 3 (idsN 3 d ++ xs.flatMap (idsN 3))) R
def argsT (i : Nat) (l : List AV) : ET → ET := List.rec (fun _ T => T) (fun d _ ih i T => ih (i + 1) (eput i d T)) l i
end
end Go.Iv
end
noncomputable section
namespace Go.Iv
variable [U : Uni]
open Go Go.RowKit
abbrev Fr : Type := Nat → Option AV
structure Ins where
 id : Nat
 n : Int
 v : AV
def insE (n : Int) (v : AV) : List (AV × AV) → List (AV × AV)
 | [] => [(.lit (.int .i64 n), v)]
 | e :: es => match e.1 with
  | .lit (.int _ m) => if n < m then (.lit (.int .i64 n), v) :: e :: es else e :: insE n v es
  | _ => e :: insE n v es
theorem insE_perm (n : Int) (v : AV) : ∀ es : List (AV × AV), List.Perm (insE n v es) (es ++ [(.lit (.int .i64 n), v)])
  | [] => .refl _
  | e :: es => by
    have ih := insE_perm n v es
    unfold insE
    split
    · split
      · rw [List.cons_append]
        exact (List.perm_append_comm (l₁ := [(AVq.lit (.int .i64 n), v)]) (l₂ := e :: es))
      · exact ih.cons _
    · exact ih.cons _
theorem insE_comm (n : Int) (v : AV) (n' : Int) (v' : AV) (hn : n ≠ n') : ∀ es : List (AV × AV), insE n v (insE n' v' es) = insE n' v' (insE n v es)
  | [] => by
    simp only [insE]
    by_cases h : n < n'
    · rw [if_pos h, if_neg (by omega)]
    · rw [if_neg h, if_pos (by omega)]
  | (a, x) :: es => by
    have ih := insE_comm n v n' v' hn es
    by_cases ha : ∃ k0 m, a = .lit (.int k0 m)
    · obtain ⟨k0, m, rfl⟩ := ha
      simp only [insE]
      by_cases h1 : n < m <;> by_cases h2 : n' < m <;> by_cases h3 : n < n' <;> (try have h4 : n' < n := by omega) <;> (try have h4 : ¬ n' < n := by omega) <;> first | omega | (simp [insE, h1, h2, h3, h4, ih]; done) | (simp [insE, h1, h2, h3, h4, ih]; omega)
    · have e : ∀ n v es, insE n v ((a, x) :: es) = (a, x) :: insE n v es := fun n v es => by
        cases a with
        | lit u => cases u <;> first | rfl | exact absurd ⟨_, _, rfl⟩ ha
        | _ => rfl
      rw [e, e, e, e, ih]
def addQ (s : Ins) (q : Nat × IR) : Nat × IR := match Nat.beq q.1 s.id with
 | true => match q.2 with
  | .mp es => (q.1, .mp (insE s.n s.v es))
  | _ => q
 | false => q
def addE (s : Ins) (R : IRs) : IRs := R.map (addQ s)
theorem addQ_1 (s : Ins) (q : Nat × IR) : (addQ s q).1 = q.1 := by
  unfold addQ
  split
  · split <;> rfl
  · rfl
theorem addQ_ne {s : Ins} {q : Nat × IR} (h : q.1 ≠ s.id) : addQ s q = q := by
  unfold addQ
  split
  · rename_i hb; exact absurd (beqT hb) h
  · rfl
theorem addQ_eq {s : Ins} {i : Nat} {es : List (AV × AV)} (h : i = s.id) : addQ s (i, .mp es) = (i, .mp (insE s.n s.v es)) := by
 subst h
 unfold addQ
 rw [Nat.beq_refl]
theorem addQ_comm {s s' : Ins} (h : s.id = s'.id → s.n ≠ s'.n) (q : Nat × IR) : addQ s (addQ s' q) = addQ s' (addQ s q) := by
  by_cases h1 : q.1 = s.id
  · by_cases h2 : q.1 = s'.id
    · obtain ⟨i, r⟩ := q
      simp only at h1 h2
      have hn := h (h1.symm.trans h2)
      cases r with
      | mp es => rw [addQ_eq h2, addQ_eq h1, addQ_eq h1, addQ_eq h2, insE_comm _ _ _ _ hn]
      | box T cs =>
        have e : ∀ s : Ins, addQ s (i, .box T cs) = (i, .box T cs) := fun s => by unfold addQ; split <;> rfl
        rw [e, e, e]
      | row t l =>
        have e : ∀ s : Ins, addQ s (i, .row t l) = (i, .row t l) := fun s => by unfold addQ; split <;> rfl
        rw [e, e, e]
    · rw [addQ_ne (s := s') h2, addQ_ne (s := s') (by rw [addQ_1]; exact h2)]
  · rw [addQ_ne (s := s) (q := q) h1, addQ_ne (s := s) (by rw [addQ_1]; exact h1)]
structure Rc where
 dst : Option Nat
 v : AV
 sl : List Nat
 rd : List Nat
 wr : List Nat
 ef : Bool
 Lo : IRs
 ins : Option Ins
def outR (rd : List Nat) (R : IRs) : IRs := R.filter fun p => !memB p.1 rd
def inR (rd : List Nat) (R : IRs) : IRs := R.filter fun p => memB p.1 rd
def Rc.F (c : Rc) (f : Fr) : Fr := fun t => if c.dst = some t then some c.v else f t
def Rc.R (c : Rc) (R : IRs) : IRs := match c.ins with
 | some s => addE s R
 | none => match c.ef with
  | true => c.Lo ++ outR c.wr R
  | false => R
theorem addE_filter (s : Ins) (p : Nat → Bool) (R : IRs) : (addE s R).filter (fun q => p q.1) = addE s (R.filter fun q => p q.1) := by
 unfold addE
 rw [List.filter_map]
 congr 1
 refine List.filter_congr fun q _ => ?_
 show p (addQ s q).1 = p q.1
 rw [addQ_1]
theorem addE_self {s : Ins} {R : IRs} (h : ∀ q ∈ R, q.1 ≠ s.id) : addE s R = R := by
 unfold addE
 conv => rhs; rw [← List.map_id R]
 exact List.map_congr_left fun q hq => addQ_ne (h q hq)
def runF : List Rc → List Bool → Fr → Fr
 | c :: cs, b :: bs, f => runF cs bs (match b with | true => c.F f | false => f)
 | _, _, f => f
def runR : List Rc → List Bool → IRs → IRs
 | c :: cs, b :: bs, R => runR cs bs (match b with | true => c.R R | false => R)
 | _, _, R => R
theorem memB_iff {i : Nat} : ∀ {l : List Nat}, memB i l = true ↔ i ∈ l
 | [] => by simp [memB]
 | j :: js => by
  unfold memB
  cases h : Nat.beq i j with
  | true => have := beqT h; subst this; simp
  | false =>
   have hne : i ≠ j := fun e => by rw [e, Nat.beq_refl] at h; cases h
   simp only [List.mem_cons, hne, false_or]
   exact memB_iff
theorem memB_not {i : Nat} {l : List Nat} : memB i l = false ↔ i ∉ l := by
 cases h : memB i l with
 | true => simp [memB_iff.1 h]
 | false => simp only [true_iff]; exact fun hm => by rw [memB_iff.2 hm] at h; cases h
structure CF (c d : Rc) : Prop where
 ds : ∀ t, c.dst = some t → t ∉ d.sl ∧ d.dst ≠ some t
 sd : ∀ t, d.dst = some t → t ∉ c.sl
 rc : c.ef = true → (∀ i ∈ c.wr, i ∉ d.rd) ∧ (∀ p ∈ c.Lo, p.1 ∉ d.rd) ∧ ∀ p ∈ c.Lo, p.1 ∉ d.wr
 rd : d.ef = true → (∀ i ∈ d.wr, i ∉ c.rd) ∧ (∀ p ∈ d.Lo, p.1 ∉ c.rd) ∧ ∀ p ∈ d.Lo, p.1 ∉ c.wr
 ic : ∀ s, c.ins = some s → s.id ∉ d.rd ∧ s.id ∉ d.wr ∧ (∀ p ∈ d.Lo, p.1 ≠ s.id) ∧ ∀ s', d.ins = some s' → s.id = s'.id → s.n ≠ s'.n
 id : ∀ s, d.ins = some s → s.id ∉ c.rd ∧ s.id ∉ c.wr ∧ (∀ p ∈ c.Lo, p.1 ≠ s.id) ∧ ∀ s', c.ins = some s' → s.id = s'.id → s.n ≠ s'.n
theorem CF.symm {c d : Rc} (h : CF c d) : CF d c := ⟨fun t ht => ⟨h.sd t ht, fun e => (h.ds t e).2 ht⟩, fun t ht => (h.ds t ht).1, h.rd, h.rc, h.id, h.ic⟩
theorem in_R {c i : Rc} (h : CF c i) (R : IRs) : inR i.rd (c.R R) = inR i.rd R := by
  unfold Rc.R
  cases hi : c.ins with
  | some s =>
    show (addE s R).filter _ = _
    rw [addE_filter s (fun j => memB j i.rd), addE_self]
    · rfl
    · intro q hq e
      have := (List.mem_filter.1 hq).2
      rw [e] at this
      exact (h.ic s hi).1 (memB_iff.1 this)
  | none =>
  cases he : c.ef with
  | false => rfl
  | true =>
    obtain ⟨h1, h2, _⟩ := h.rc he
    dsimp only
    simp only [inR, outR, List.filter_append, List.filter_filter]
    have e1 : c.Lo.filter (fun p => memB p.1 i.rd) = [] := List.filter_eq_nil_iff.2 fun p hp => by simp [memB_not.2 (h2 p hp)]
    rw [e1, List.nil_append]
    refine List.filter_congr fun p _ => ?_
    cases hm : memB p.1 i.rd with
    | false => rfl
    | true =>
      have : memB p.1 c.wr = false := memB_not.2 fun hc => h1 _ hc (memB_iff.1 hm)
      rw [this]; rfl
theorem F_at {c i : Rc} (h : CF c i) (f : Fr) {t : Nat} (ht : t ∈ i.sl) : c.F f t = f t := by
  unfold Rc.F
  split
  · rename_i hd; exact absurd ht (h.ds t hd).1
  · rfl
theorem in_both {c : Rc} {rd : List Nat} {R R' : IRs} (h : inR rd R = inR rd R') : inR rd (c.R R) = inR rd (c.R R') := by
 unfold Rc.R
 cases c.ins with
 | some s =>
  show (addE s R).filter _ = (addE s R').filter _
  rw [addE_filter s (fun j => memB j rd), addE_filter s (fun j => memB j rd)]
  exact congrArg (addE s) h
 | none =>
 cases c.ef with
 | false => exact h
 | true =>
  dsimp only
  simp only [inR, outR, List.filter_append, List.filter_filter] at h ⊢
  congr 1
  have e : ∀ R : IRs, R.filter (fun p => memB p.1 rd && !memB p.1 c.wr) = (R.filter fun p => memB p.1 rd).filter fun p => !memB p.1 c.wr := fun R => by
   rw [List.filter_filter]
   exact List.filter_congr fun p _ => Bool.and_comm ..
  rw [e, e, h]
def Seen (s : Ins) (R : IRs) : Prop := ∃ es, inR [s.id] R = [(s.id, .mp es)] ∧ ∀ e ∈ es, ∃ m, e.1 = .lit (.int .i64 m) ∧ m ≠ s.n
def SR (s : Ins) (R R' : IRs) : Prop := (inR [s.id] R' = [] → inR [s.id] R = []) ∧ (Seen s R' → Seen s R)
theorem insE_mem {n : Int} {v : AV} {es : List (AV × AV)} {e : AV × AV} : e ∈ insE n v es ↔ e ∈ es ∨ e = (.lit (.int .i64 n), v) := by
 rw [(insE_perm n v es).mem_iff]
 simp
theorem in_addE (s : Ins) (i : Nat) (R : IRs) : inR [i] (addE s R) = addE s (inR [i] R) := addE_filter s (fun j => memB j [i]) R
theorem in_one {i : Nat} {R : IRs} {q : Nat × IR} (h : q ∈ inR [i] R) : q.1 = i := by
 have := memB_iff.1 (List.mem_filter.1 h).2
 simpa using this
theorem addE_nil {s : Ins} {R : IRs} : addE s R = [] ↔ R = [] := List.map_eq_nil_iff
theorem Seen.addE {s s' : Ins} {R : IRs} (h : Seen s R) (hn : s'.id = s.id → s'.n ≠ s.n) : Seen s (addE s' R) := by
  obtain ⟨es, h1, h2⟩ := h
  unfold Seen
  rw [in_addE, h1]
  by_cases hi : s'.id = s.id
  · have hn := hn hi
    refine ⟨insE s'.n s'.v es, ?_, fun e he => ?_⟩
    · show [addQ s' (s.id, .mp es)] = _
      rw [addQ_eq hi.symm]
    · rcases insE_mem.1 he with he | rfl
      · exact h2 e he
      · exact ⟨s'.n, rfl, hn⟩
  · refine ⟨es, ?_, h2⟩
    show [addQ s' (s.id, .mp es)] = _
    rw [addQ_ne (fun e => hi e.symm)]
theorem Seen.sub {s s' : Ins} {R : IRs} (h : Seen s (Iv.addE s' R)) : Seen s R ∧ (s'.id = s.id → s'.n ≠ s.n) := by
  obtain ⟨es, h1, h2⟩ := h
  rw [in_addE] at h1
  obtain ⟨q, hq, h3⟩ : ∃ q, inR [s.id] R = [q] ∧ addQ s' q = (s.id, .mp es) := by
    cases hR : inR [s.id] R with
    | nil => rw [hR] at h1; cases h1
    | cons q l =>
      rw [hR] at h1
      simp only [Iv.addE, List.map_cons, List.cons.injEq, List.map_eq_nil_iff] at h1
      exact ⟨q, by rw [h1.2], h1.1⟩
  have hqi : q.1 = s.id := in_one (by rw [hq]; exact List.mem_singleton.2 rfl)
  obtain ⟨i, r⟩ := q
  simp only at hqi
  subst hqi
  by_cases hi : s'.id = s.id
  · cases r with
    | mp fs =>
      rw [addQ_eq hi.symm] at h3
      simp only [Prod.mk.injEq, true_and, IR.mp.injEq] at h3
      subst h3
      refine ⟨⟨fs, hq, fun e he => h2 e (insE_mem.2 (.inl he))⟩, fun _ => ?_⟩
      obtain ⟨m, e1, e2⟩ := h2 _ (insE_mem.2 (.inr rfl))
      simp only [AVq.lit.injEq, Value.int.injEq, true_and] at e1
      rw [e1]; exact e2
    | box T cs => exfalso; unfold addQ at h3; split at h3 <;> simp at h3
    | row t l => exfalso; unfold addQ at h3; split at h3 <;> simp at h3
  · rw [addQ_ne (fun e => hi e.symm)] at h3
    exact ⟨⟨es, by rw [hq, h3], h2⟩, fun e => absurd e hi⟩
theorem in_app (i : Nat) (R R' : IRs) : inR [i] (R ++ R') = inR [i] R ++ inR [i] R' := List.filter_append ..
theorem in_out_mem {i : Nat} {wr : List Nat} (R : IRs) (h : i ∈ wr) : inR [i] (outR wr R) = [] := by
 unfold inR outR
 rw [List.filter_filter]
 refine List.filter_eq_nil_iff.2 fun q _ => ?_
 intro hq
 rw [Bool.and_eq_true] at hq
 have := memB_iff.1 hq.1
 simp only [List.mem_singleton] at this
 rw [this, memB_iff.2 h] at hq
 simp at hq
theorem in_out_not {i : Nat} {wr : List Nat} (R : IRs) (h : i ∉ wr) : inR [i] (outR wr R) = inR [i] R := by
 unfold inR outR
 rw [List.filter_filter]
 refine List.filter_congr fun q _ => ?_
 cases hm : memB q.1 [i] with
 | false => rfl
 | true =>
  have := memB_iff.1 hm
  simp only [List.mem_singleton] at this
  rw [this, memB_not.2 h]; rfl
theorem SR.both {s : Ins} {c : Rc} {R R' : IRs} (h : SR s R R') : SR s (c.R R) (c.R R') := by
  unfold Rc.R
  cases c.ins with
  | some s' =>
    refine ⟨fun h1 => ?_, fun h1 => ?_⟩
    · dsimp only at h1 ⊢
      rw [in_addE, addE_nil] at h1 ⊢
      exact h.1 h1
    · obtain ⟨h2, h3⟩ := Seen.sub h1
      exact (h.2 h2).addE h3
  | none =>
  cases c.ef with
  | false => exact h
  | true =>
    dsimp only
    unfold SR Seen
    rw [in_app, in_app]
    by_cases hi : s.id ∈ c.wr
    · rw [in_out_mem _ hi, in_out_mem _ hi]
      exact ⟨fun h => h, fun h => h⟩
    · rw [in_out_not _ hi, in_out_not _ hi]
      refine ⟨fun h1 => ?_, fun ⟨es, h1, h2⟩ => ?_⟩
      · rw [List.append_eq_nil_iff] at h1 ⊢
        exact ⟨h1.1, h.1 h1.2⟩
      · rcases List.append_eq_singleton_iff.1 h1 with ⟨h3, h4⟩ | ⟨h3, h4⟩
        · obtain ⟨es', q1, q2⟩ := h.2 ⟨es, h4, h2⟩
          exact ⟨es', by rw [h3, q1]; rfl, q2⟩
        · exact ⟨es, by rw [h3, h.1 h4]; rfl, h2⟩
theorem SR.one {s : Ins} {c i : Rc} {R : IRs} (h : CF c i) (hs : i.ins = some s) : (inR [s.id] (c.R R) = [] ↔ inR [s.id] R = []) ∧ (Seen s (c.R R) ↔ Seen s R) := by
 obtain ⟨h1, h2, h3, h4⟩ := h.id s hs
 unfold Rc.R
 cases hc : c.ins with
 | some s' =>
  refine ⟨?_, fun h => (Seen.sub h).1, fun h => h.addE fun e e2 => h4 s' hc e.symm e2.symm⟩
  dsimp only
  rw [in_addE, addE_nil]
 | none =>
 cases c.ef with
 | false => exact ⟨.rfl, .rfl⟩
 | true =>
  dsimp only
  have e1 : inR [s.id] c.Lo = [] := List.filter_eq_nil_iff.2 fun q hq hm => h3 q hq (by simpa using memB_iff.1 hm)
  unfold Seen
  rw [in_app, e1, List.nil_append, in_out_not _ h2]
  exact ⟨.rfl, .rfl⟩
theorem view_eq {i : Rc} : ∀ (cs : List Rc) (bs bs' : List Bool) (f f' : Fr) (R R' : IRs), bs.length = cs.length → bs'.length = cs.length →
    (∀ (j : Nat) c b b', cs[j]? = some c → bs[j]? = some b → bs'[j]? = some b' → b = b' ∨ CF c i) →
    (∀ t ∈ i.sl, f t = f' t) → inR i.rd R = inR i.rd R' → (∀ s, i.ins = some s → SR s R R') → (∀ t ∈ i.sl, runF cs bs f t = runF cs bs' f' t) ∧ inR i.rd (runR cs bs R) = inR i.rd (runR cs bs' R') ∧ ∀ s, i.ins = some s → SR s (runR cs bs R) (runR cs bs' R')
  | [], _, _, f, f', R, R', _, _, _, h1, h2, h3 => ⟨by simpa [runF] using h1, by simpa [runR] using h2, by simpa [runR] using h3⟩
  | c :: cs, [], _, _, _, _, _, hl, _, _, _, _, _ => by cases hl
  | c :: cs, _ :: _, [], _, _, _, _, _, hl, _, _, _, _ => by cases hl
  | c :: cs, b :: bs, b' :: bs', f, f', R, R', hl, hl', hb, h1, h2, h3 => by
    have h0 := hb 0 c b b' rfl rfl rfl
    have hrec := fun f f' R R' => view_eq (i := i) cs bs bs' f f' R R' (by simpa using hl) (by simpa using hl') (fun j c b b' q1 q2 q3 => hb (j + 1) c b b' q1 q2 q3)
    unfold runF runR
    refine hrec _ _ _ _ ?_ ?_ ?_
    · intro t ht
      rcases h0 with rfl | hcf
      · cases b with
        | false => exact h1 t ht
        | true => show c.F f t = c.F f' t; unfold Rc.F; split <;> first | rfl | exact h1 t ht
      · cases b <;> cases b' <;> simp only [F_at hcf _ ht] <;> exact h1 t ht
    · rcases h0 with rfl | hcf
      · cases b with
        | false => exact h2
        | true => exact in_both h2
      · cases b <;> cases b' <;> simp only [in_R hcf] <;> exact h2
    · intro s hs
      have h4 := h3 s hs
      rcases h0 with rfl | hcf
      · cases b with
        | false => exact h4
        | true => exact h4.both
      · have o1 := SR.one (R := R) hcf hs
        have o2 := SR.one (R := R') hcf hs
        cases b <;> cases b'
        · exact h4
        · exact ⟨fun h => h4.1 (o2.1.1 h), fun h => h4.2 (o2.2.1 h)⟩
        · exact ⟨fun h => o1.1.2 (h4.1 h), fun h => o1.2.2 (h4.2 h)⟩
        · exact ⟨fun h => o1.1.2 (h4.1 (o2.1.1 h)), fun h => o1.2.2 (h4.2 (o2.2.1 h))⟩
theorem F_comm {c d : Rc} (h : CF c d) (f : Fr) : c.F (d.F f) = d.F (c.F f) := by
  funext t
  unfold Rc.F
  by_cases h1 : c.dst = some t
  · rw [if_pos h1, if_neg (h.ds t h1).2, if_pos h1]
  · by_cases h2 : d.dst = some t
    · rw [if_neg h1, if_pos h2, if_pos h2]
    · rw [if_neg h1, if_neg h2, if_neg h2, if_neg h1]
theorem R_perm {c : Rc} {R R' : IRs} (h : List.Perm R R') : List.Perm (c.R R) (c.R R') := by
 unfold Rc.R
 cases c.ins with
 | some s => exact h.map _
 | none =>
 cases c.ef with
 | false => exact h
 | true => exact (h.filter _).append_left _
theorem R_comm {c d : Rc} (h : CF c d) (R : IRs) : List.Perm (c.R (d.R R)) (d.R (c.R R)) := by
 have one : ∀ {c d : Rc}, CF c d → ∀ s, c.ins = some s → d.ins = none → List.Perm (c.R (d.R R)) (d.R (c.R R)) := fun {c d} h s hs hd => by
  unfold Rc.R
  rw [hs, hd]
  dsimp only
  cases he : d.ef with
  | false => exact .refl _
  | true =>
   dsimp only
   have e1 : addE s (d.Lo ++ outR d.wr R) = addE s d.Lo ++ addE s (outR d.wr R) := List.map_append ..
   have e2 : outR d.wr (addE s R) = addE s (outR d.wr R) := addE_filter s (fun j => !memB j d.wr) R
   rw [e1, e2, addE_self (h.ic s hs).2.2.1]
 cases hci : c.ins with
 | some s =>
  cases hdi : d.ins with
  | none => exact one h s hci hdi
  | some s' =>
   unfold Rc.R
   rw [hci, hdi]
   show List.Perm ((R.map (addQ s')).map (addQ s)) ((R.map (addQ s)).map (addQ s'))
   rw [List.map_map, List.map_map, List.map_congr_left fun q _ => show (addQ s ∘ addQ s') q = (addQ s' ∘ addQ s) q from addQ_comm ((h.ic s hci).2.2.2 s' hdi) q]
 | none =>
 cases hdi : d.ins with
 | some s => exact (one h.symm s hdi hci).symm
 | none =>
 unfold Rc.R
 rw [hci, hdi]
 dsimp only
 cases hc : c.ef with
 | false => cases d.ef <;> exact .refl _
 | true =>
  cases hd : d.ef with
  | false => exact .refl _
  | true =>
   obtain ⟨h1, _, h2⟩ := h.rc hc
   obtain ⟨h3, _, h4⟩ := h.rd hd
   simp only [outR, List.filter_append, List.filter_filter]
   have e1 : d.Lo.filter (fun p => !memB p.1 c.wr) = d.Lo := List.filter_eq_self.2 fun p hp => by simp [memB_not.2 (h4 p hp)]
   have e2 : c.Lo.filter (fun p => !memB p.1 d.wr) = c.Lo := List.filter_eq_self.2 fun p hp => by simp [memB_not.2 (h2 p hp)]
   rw [e1, e2, ← List.append_assoc, ← List.append_assoc]
   refine (List.perm_append_comm).append ?_
   rw [show (R.filter fun a => !memB a.1 c.wr && !memB a.1 d.wr) = R.filter fun a => !memB a.1 d.wr && !memB a.1 c.wr from List.filter_congr fun p _ => Bool.and_comm ..]
theorem late {i : Rc} : ∀ (cs : List Rc) (bs : List Bool) (f : Fr) (R R' : IRs), (∀ (j : Nat) c, cs[j]? = some c → bs[j]? = some true → CF i c) → List.Perm R' (i.R R) →
  i.F (runF cs bs f) = runF cs bs (i.F f) ∧ List.Perm (i.R (runR cs bs R)) (runR cs bs R')
 | [], _, f, R, R', _, hp => ⟨rfl, hp.symm⟩
 | _ :: _, [], f, R, R', _, hp => ⟨rfl, hp.symm⟩
 | c :: cs, b :: bs, f, R, R', hb, hp => by
  unfold runF runR
  cases b with
  | false => exact late cs bs f R R' (fun j c q1 q2 => hb (j + 1) c q1 q2) hp
  | true =>
   have hcf := hb 0 c rfl rfl
   have h1 := late cs bs (c.F f) (c.R R) (c.R R') (fun j c q1 q2 => hb (j + 1) c q1 q2) ((R_perm hp).trans (R_comm hcf.symm R))
   refine ⟨?_, h1.2⟩
   rw [h1.1, F_comm hcf]
theorem runF_app : ∀ (pre : List Rc) (bp : List Bool) (cs : List Rc) (bs : List Bool) (f : Fr), bp.length = pre.length → runF (pre ++ cs) (bp ++ bs) f = runF cs bs (runF pre bp f)
 | [], [], _, _, _, _ => rfl
 | _ :: _, [], _, _, _, h => by cases h
 | [], _ :: _, _, _, _, h => by cases h
 | c :: pre, b :: bp, cs, bs, f, h => by
  show runF (pre ++ cs) (bp ++ bs) _ = _
  rw [runF_app pre bp cs bs _ (by simpa using h)]
  rfl
theorem runR_app : ∀ (pre : List Rc) (bp : List Bool) (cs : List Rc) (bs : List Bool) (R : IRs), bp.length = pre.length → runR (pre ++ cs) (bp ++ bs) R = runR cs bs (runR pre bp R)
 | [], [], _, _, _, _ => rfl
 | _ :: _, [], _, _, _, h => by cases h
 | [], _ :: _, _, _, _, h => by cases h
 | c :: pre, b :: bp, cs, bs, R, h => by
  show runR (pre ++ cs) (bp ++ bs) _ = _
  rw [runR_app pre bp cs bs _ (by simpa using h)]
  rfl
theorem step_sel {cs : List Rc} {bs : List Bool} {i : Nat} {c : Rc} (f : Fr) (R : IRs) (hl : bs.length = cs.length) (hc : cs[i]? = some c) (hb : bs[i]? = some false)
    (hpre : ∀ (j : Nat) d, j < i → cs[j]? = some d → bs[j]? = some false → CF d c) (hpost : ∀ (j : Nat) d, i < j → cs[j]? = some d → bs[j]? = some true → CF d c) :
    (∀ t ∈ c.sl, runF cs bs f t = runF (cs.take i) (List.replicate i true) f t) ∧ inR c.rd (runR cs bs R) = inR c.rd (runR (cs.take i) (List.replicate i true) R) ∧
    c.F (runF cs bs f) = runF cs (bs.set i true) f ∧ List.Perm (c.R (runR cs bs R)) (runR cs (bs.set i true) R) ∧ ∀ s, c.ins = some s → Seen s (runR (cs.take i) (List.replicate i true) R) → Seen s (runR cs bs R) := by
  have hi : i < cs.length := (List.getElem?_eq_some_iff.1 hc).1
  have hib : i < bs.length := by omega
  have ec : cs = cs.take i ++ c :: cs.drop (i + 1) := by
    rw [← (List.getElem?_eq_some_iff.1 hc).2, ← List.drop_eq_getElem_cons hi, List.take_append_drop]
  have eb : bs = bs.take i ++ false :: bs.drop (i + 1) := by
    rw [← (List.getElem?_eq_some_iff.1 hb).2, ← List.drop_eq_getElem_cons hib, List.take_append_drop]
  have lp : (bs.take i).length = (cs.take i).length := by rw [List.length_take, List.length_take]; omega
  have eb2 : bs.set i true = bs.take i ++ true :: bs.drop (i + 1) := by
    rw [List.set_eq_take_append_cons_drop, if_pos hib]
  have hF : runF cs bs f = runF (cs.drop (i + 1)) (bs.drop (i + 1)) (runF (cs.take i) (bs.take i) f) := by
    conv => lhs; rw [ec, eb]
    rw [runF_app _ _ _ _ _ lp]; rfl
  have hR : runR cs bs R = runR (cs.drop (i + 1)) (bs.drop (i + 1)) (runR (cs.take i) (bs.take i) R) := by
    conv => lhs; rw [ec, eb]
    rw [runR_app _ _ _ _ _ lp]; rfl
  have hF2 : runF cs (bs.set i true) f = runF (cs.drop (i + 1)) (bs.drop (i + 1)) (c.F (runF (cs.take i) (bs.take i) f)) := by
    rw [eb2]
    conv => lhs; rw [ec]
    rw [runF_app _ _ _ _ _ lp]; rfl
  have hR2 : runR cs (bs.set i true) R = runR (cs.drop (i + 1)) (bs.drop (i + 1)) (c.R (runR (cs.take i) (bs.take i) R)) := by
    rw [eb2]
    conv => lhs; rw [ec]
    rw [runR_app _ _ _ _ _ lp]; rfl
  have hpo : ∀ (j : Nat) d, (cs.drop (i + 1))[j]? = some d → (bs.drop (i + 1))[j]? = some true → CF d c := fun j d q1 q2 => by
    rw [List.getElem?_drop] at q1 q2
    exact hpost (i + 1 + j) d (by omega) q1 q2
  have v2 := view_eq (i := c) (cs.drop (i + 1)) (bs.drop (i + 1)) (List.replicate (cs.length - (i + 1)) false) (runF (cs.take i) (bs.take i) f) (runF (cs.take i) (bs.take i) f) (runR (cs.take i) (bs.take i) R) (runR (cs.take i) (bs.take i) R)
    (by rw [List.length_drop, List.length_drop]; omega) (by rw [List.length_replicate, List.length_drop]) (fun j d b b' q1 q2 q3 => by
      cases b with
      | true => exact .inr (hpo j d q1 q2)
      | false =>
        rw [List.getElem?_replicate] at q3
        split at q3
        · cases q3; exact .inl rfl
        · cases q3) (fun t _ => rfl) rfl (fun s _ => ⟨fun h => h, fun h => h⟩)
  have none_F : ∀ (cs : List Rc) (n : Nat) (f : Fr), runF cs (List.replicate n false) f = f := fun cs => by
    induction cs with
    | nil => intro n f; rfl
    | cons d cs ih =>
      intro n f
      cases n with
      | zero => rfl
      | succ n => rw [List.replicate_succ]; exact ih n f
  have none_R : ∀ (cs : List Rc) (n : Nat) (R : IRs), runR cs (List.replicate n false) R = R := fun cs => by
    induction cs with
    | nil => intro n f; rfl
    | cons d cs ih =>
      intro n f
      cases n with
      | zero => rfl
      | succ n => rw [List.replicate_succ]; exact ih n f
  have v1 := view_eq (i := c) (cs.take i) (bs.take i) (List.replicate i true) f f R R lp (by rw [List.length_replicate, List.length_take]; omega) (fun j d b b' q1 q2 q3 => by
      rw [List.getElem?_take] at q1 q2
      rw [List.getElem?_replicate] at q3
      split at q1
      · rename_i hji
        rw [if_pos hji] at q2 q3
        cases q3
        cases b with
        | true => exact .inl rfl
        | false => exact .inr (hpre j d hji q1 q2)
      · cases q1) (fun t _ => rfl) rfl (fun s _ => ⟨fun h => h, fun h => h⟩)
  refine ⟨fun t ht => ?_, ?_, ?_, ?_, fun s hs h => ?_⟩
  · rw [hF, v2.1 t ht, none_F, v1.1 t ht]
  · rw [hR, v2.2.1, none_R, v1.2.1]
  · rw [hF, hF2]
    exact (late (i := c) _ _ _ (runR (cs.take i) (bs.take i) R) _ (fun j d q1 q2 => (hpo j d q1 q2).symm) (.refl _)).1
  · rw [hR, hR2]
    exact (late (i := c) _ _ (runF (cs.take i) (bs.take i) f) _ _ (fun j d q1 q2 => (hpo j d q1 q2).symm) (.refl _)).2
  · have e1 := v2.2.2 s hs
    rw [none_R, ← hR] at e1
    exact e1.2 ((v1.2.2 s hs).2 h)
end Go.Iv
end
noncomputable section
namespace Go.Iv
variable [U : Uni] [L : UniL]
open Go Go.RowKit
def lm (l : List Nat) : Nat := List.rec 0 (fun t _ ih => Nat.lor ih (Nat.pow 2 t)) l
theorem lm_bit : ∀ (l : List Nat) (t : Nat), (lm l).testBit t = true ↔ t ∈ l
 | [], t => by simp [lm]
 | a :: l, t => by
  show ((lm l) ||| 2 ^ a).testBit t = true ↔ _
  rw [Nat.testBit_or, Bool.or_eq_true, lm_bit l t, Nat.testBit_two_pow]
  grind
theorem and_zero {x y t : Nat} (h : Nat.land x y = 0) (hx : x.testBit t = true) (hy : y.testBit t = true) : False := by
 have := Nat.testBit_and x y t
 simp_all
def msk (acc : List Nat) (es : List Edge) : Nat := List.rec 0 (fun e _ ih => match Region.binds .any e with
 | true => Nat.lor ih (Nat.lor (Nat.pow 2 e.on) (acc.getD e.on 0))
 | false => ih) es
theorem msk_bit {acc : List Nat} : ∀ {es : List Edge} {j : Nat}, (msk acc es).testBit j = true → ∃ e ∈ es, Region.binds .any e = true ∧ (j = e.on ∨ (acc.getD e.on 0).testBit j = true)
  | [], j, h => by simp [msk] at h
  | e :: es, j, h => by
    change (match Region.binds .any e with
      | true => Nat.lor (msk acc es) (Nat.lor (Nat.pow 2 e.on) (acc.getD e.on 0))
      | false => msk acc es).testBit j = true at h
    cases hb : Region.binds .any e with
    | false =>
      rw [hb] at h
      obtain ⟨e', h1, h2⟩ := msk_bit h
      exact ⟨e', List.mem_cons_of_mem _ h1, h2⟩
    | true =>
      rw [hb] at h
      change ((msk acc es) ||| ((2 ^ e.on) ||| (acc.getD e.on 0))).testBit j = true at h
      rw [Nat.testBit_or, Nat.testBit_or, Bool.or_eq_true, Bool.or_eq_true, Nat.testBit_two_pow] at h
      rcases h with h | h | h
      · obtain ⟨e', h1, h2⟩ := msk_bit h
        exact ⟨e', List.mem_cons_of_mem _ h1, h2⟩
      · exact ⟨e, List.mem_cons_self, hb, .inl (by simp only [decide_eq_true_eq] at h; exact h.symm)⟩
      · exact ⟨e, List.mem_cons_self, hb, .inr h⟩
def msks (l : List Oper) : List Nat → List Nat := List.rec (fun acc => acc) (fun o _ ih acc => ih (acc ++ [msk acc o.after.toList])) l
def Rdy (bs : List Bool) (o : Oper) : Prop := ∀ e ∈ o.after.toList, Region.binds .any e = true → bs[e.on]? = some true
def Closed (ops : List Oper) (bs : List Bool) : Prop := ∀ (i : Nat) o, ops[i]? = some o → bs[i]? = some true → Rdy bs o
def MskOk (ops : List Oper) (acc : List Nat) : Prop := ∀ (i m : Nat) o, acc[i]? = some m → ops[i]? = some o → ∀ bs, Closed ops bs → Rdy bs o → ∀ j, m.testBit j = true → bs[j]? = some true
theorem msks_ok (ops : List Oper) : ∀ (l : List Oper) (acc : List Nat), (∃ pre, ops = pre ++ l ∧ pre.length = acc.length) → MskOk ops acc → MskOk ops (msks l acc)
  | [], acc, _, h => h
  | o :: l, acc, ⟨pre, hp, hl⟩, h => by
    refine msks_ok ops l _ ⟨pre ++ [o], by rw [hp]; simp, by simp [hl]⟩ fun i m o' hm ho bs hc hr j hj => ?_
    rw [List.getElem?_append] at hm
    split at hm
    · exact h i m o' hm ho bs hc hr j hj
    · rename_i hlt
      have hi : i = acc.length := by
        have := (List.getElem?_eq_some_iff.1 hm).1
        simp at this
        omega
      subst hi
      rw [Nat.sub_self] at hm
      cases hm
      have ho' : o' = o := by
        simp_all
      subst ho'
      obtain ⟨e, h1, h2, h3⟩ := msk_bit hj
      have h4 := hr e h1 h2
      rcases h3 with rfl | h3
      · exact h4
      · cases ha : acc[e.on]? with
        | none => rw [List.getD_eq_getElem?_getD, ha] at h3; simp at h3
        | some m' =>
          rw [List.getD_eq_getElem?_getD, ha] at h3
          have hlt' := (List.getElem?_eq_some_iff.1 ha).1
          cases hoe : ops[e.on]? with
          | none =>
            rw [List.getElem?_eq_none_iff, hp, List.length_append] at hoe
            omega
          | some oe => exact h e.on m' oe ha hoe bs hc (hc e.on oe hoe h4) j h3
def tmpOf : Operand → List Nat
 | .tmp t => [t]
 | _ => []
def gslot (ops : Array Oper) (o : Oper) : List Nat := match o.guard with
  | none => []
  | some (j, _) => match (ops[j]?).bind (·.dst) with
    | some t => [t]
    | none => []
def opSlots (ops : Array Oper) (o : Oper) : List Nat := o.op.operands.toList.flatMap tmpOf ++ gslot ops o
def efk (o : Oper) : Bool := match o.op with
  | .store _ _ _ => true
  | .buildSlice _ _ _ => true
  | .makeSlice _ _ _ => true
  | .alloc _ => true
  | .box _ _ => true
  | .makeMap _ _ => true
  | .mapUpdate _ _ _ _ => true
  | .insert _ _ _ _ => true
  | .slice _ _ _ _ _ => true
  | .call { callee := .builtin .len, .. } => false
  | .call { callee := .builtin .max, .. } => false
  | .call { callee := .builtin .min, .. } => false
  | .call _ => true
  | _ => false
def dmk : Option Nat → Nat
 | none => 0
 | some t => Nat.pow 2 t
theorem dmk_bit {d : Option Nat} {t : Nat} (h : d = some t) : (dmk d).testBit t = true := by
 subst h
 show (2 ^ t).testBit t = true
 simp
structure Sk where
 anc : Nat
 sm : Nat
 dm : Nat
 ef : Bool
def skOk (j : Nat) (a b : Sk) : Bool := b.anc.testBit j || (Nat.beq (Nat.land a.dm b.sm) 0 && Nat.beq (Nat.land a.dm b.dm) 0 && Nat.beq (Nat.land b.dm a.sm) 0)
def skRow (b : Sk) (i : Nat) (l : List Sk) : Nat → Option (List (Nat × Nat)) := List.rec (fun _ => some []) (fun a _ ih j => match skOk j a b with
 | true => match !b.anc.testBit j && (a.ef || b.ef) with
  | true => (ih (j + 1)).map fun ps => (j, i) :: ps
  | false => ih (j + 1)
 | false => none) l
def skAll (l : List Sk) : List Sk → Nat → Option (List (Nat × Nat)) := List.rec (fun _ _ => some []) (fun b _ ih pre i => (skRow b i pre 0).bind fun ps => (ih (pre ++ [b]) (i + 1)).map fun qs => ps ++ qs) l
theorem skRow_ok {b : Sk} {i : Nat} : ∀ {l : List Sk} {k : Nat} {ps : List (Nat × Nat)}, skRow b i l k = some ps → ∀ (j : Nat) a, l[j]? = some a → skOk (k + j) a b = true ∧ (b.anc.testBit (k + j) = true ∨ (a.ef || b.ef) = false ∨ (k + j, i) ∈ ps)
 | [], k, ps, _, j, a, h => by cases h
 | a0 :: l, k, ps, hs, j, a, h => by
  change (match skOk k a0 b with
   | true => match !b.anc.testBit k && (a0.ef || b.ef) with
    | true => (skRow b i l (k + 1)).map fun ps => (k, i) :: ps
    | false => skRow b i l (k + 1)
   | false => none) = some ps at hs
  cases h0 : skOk k a0 b with
  | false => rw [h0] at hs; cases hs
  | true =>
   rw [h0] at hs
   cases h1 : (!b.anc.testBit k && (a0.ef || b.ef)) with
   | true =>
    rw [h1] at hs
    obtain ⟨ps', h2, rfl⟩ := Option.map_eq_some_iff.1 hs
    cases j with
    | zero => cases h; exact ⟨h0, .inr (.inr List.mem_cons_self)⟩
    | succ j =>
     obtain ⟨h3, h4⟩ := skRow_ok h2 j a h
     rw [show k + 1 + j = k + (j + 1) from by omega] at h3 h4
     exact ⟨h3, h4.imp id (fun h => h.imp id fun h => List.mem_cons_of_mem _ h)⟩
   | false =>
    rw [h1] at hs
    cases j with
    | zero =>
     cases h
     refine ⟨h0, ?_⟩
     cases hb : b.anc.testBit k with
     | true => exact .inl rfl
     | false => rw [hb] at h1; exact .inr (.inl (by simpa using h1))
    | succ j =>
     obtain ⟨h3, h4⟩ := skRow_ok hs j a h
     rw [show k + 1 + j = k + (j + 1) from by omega] at h3 h4
     exact ⟨h3, h4⟩
theorem skAll_ok : ∀ {l pre : List Sk} {k : Nat} {ps : List (Nat × Nat)}, skAll l pre k = some ps → pre.length = k → ∀ (i j : Nat) a b, j < i → k ≤ i → (pre ++ l)[j]? = some a → (pre ++ l)[i]? = some b → skOk j a b = true ∧ (b.anc.testBit j = true ∨ (a.ef || b.ef) = false ∨ (j, i) ∈ ps)
  | [], pre, k, ps, _, hk, i, j, a, b, _, hki, _, hb => by
    rw [List.append_nil] at hb
    have := (List.getElem?_eq_some_iff.1 hb).1
    omega
  | b0 :: l, pre, k, ps, hs, hk, i, j, a, b, hji, hki, ha, hb => by
    obtain ⟨p1, h1, hs⟩ := Option.bind_eq_some_iff.1 hs
    obtain ⟨p2, h2, rfl⟩ := Option.map_eq_some_iff.1 hs
    by_cases hik : i = k
    · subst hik
      rw [List.getElem?_append_right (by omega), hk, Nat.sub_self] at hb
      cases hb
      rw [List.getElem?_append_left (by omega)] at ha
      have := skRow_ok h1 j a ha
      rw [Nat.zero_add] at this
      exact ⟨this.1, this.2.imp id fun h => h.imp id fun h => List.mem_append_left _ h⟩
    · have h3 := skAll_ok h2 (by simp [hk]) i j a b hji (by omega) (by simpa using ha) (by simpa using hb)
      exact ⟨h3.1, h3.2.imp id fun h => h.imp id fun h => List.mem_append_right _ h⟩
def skOf (ops : Array Oper) (l : List Oper) : List Nat → List Sk := List.rec (fun _ => []) (fun o _ ih ms => match ms with
 | m :: ms => ⟨m, lm (opSlots ops o), dmk o.dst, efk o⟩ :: ih ms
 | [] => []) l
def plan (ops : Array Oper) : Option (List (Nat × Nat)) := skAll (skOf ops ops.toList (msks ops.toList [])) [] 0
theorem msks_len (l : List Oper) : ∀ acc : List Nat, (msks l acc).length = acc.length + l.length := by
 induction l with
 | nil => intro acc; rfl
 | cons o l ih => intro acc; show (msks l (acc ++ [_])).length = _; rw [ih]; simp; omega
theorem skOf_get (ops : Array Oper) : ∀ (l : List Oper) (ms : List Nat) (i : Nat) (o : Oper) (m : Nat), l[i]? = some o → ms[i]? = some m → (skOf ops l ms)[i]? = some ⟨m, lm (opSlots ops o), dmk o.dst, efk o⟩
 | [], _, _, _, _, h, _ => by cases h
 | o0 :: l, [], _, _, _, _, h => by cases h
 | o0 :: l, m0 :: ms, i, o, m, h1, h2 => by
  cases i with
  | zero => cases h1; cases h2; rfl
  | succ i => exact skOf_get ops l ms i o m h1 h2
def disR (xs : List Nat) (Lo : IRs) (ys : List Nat) : Bool := xs.all (fun i => !memB i ys) && Lo.all fun p => !memB p.1 ys
def insD (c d : Rc) : Bool := match c.ins with
 | none => true
 | some s => !memB s.id d.rd && !memB s.id d.wr && (d.Lo.all fun p => !Nat.beq p.1 s.id) && match d.ins with
  | none => true
  | some s' => !Nat.beq s.id s'.id || !decide (s.n = s'.n)
theorem insD_ok {c d : Rc} (h : insD c d = true) : ∀ s, c.ins = some s → s.id ∉ d.rd ∧ s.id ∉ d.wr ∧ (∀ p ∈ d.Lo, p.1 ≠ s.id) ∧ ∀ s', d.ins = some s' → s.id = s'.id → s.n ≠ s'.n := fun s hs => by
  unfold insD at h
  rw [hs] at h
  simp only [Bool.and_eq_true, Bool.not_eq_true'] at h
  obtain ⟨⟨⟨h1, h2⟩, h3⟩, h4⟩ := h
  refine ⟨memB_not.1 h1, memB_not.1 h2, fun p hp e => ?_, fun s' hs' he hn => ?_⟩
  · have := List.all_eq_true.1 h3 p hp
    rw [e, Nat.beq_refl] at this
    cases this
  · rw [hs'] at h4
    dsimp only at h4
    rw [he, hn, Nat.beq_refl] at h4
    simp at h4
def cfD (c d : Rc) : Bool := (!c.ef || disR c.wr c.Lo d.rd) && (!d.ef || disR d.wr d.Lo c.rd) && insD c d && insD d c
def planOk (ps : List (Nat × Nat)) (cs : List Rc) : Bool := ps.all fun p => match cs[p.1]?, cs[p.2]? with
 | some c, some d => cfD c d
 | _, _ => false
theorem disR_ok {xs ys : List Nat} {Lo : IRs} (h : disR xs Lo ys = true) : (∀ i ∈ xs, i ∉ ys) ∧ ∀ p ∈ Lo, p.1 ∉ ys := by
 unfold disR at h
 simp only [Bool.and_eq_true, List.all_eq_true, Bool.not_eq_true'] at h
 exact ⟨fun i hi => memB_not.1 (h.1 i hi), fun p hp => memB_not.1 (h.2 p hp)⟩
theorem plan_cf {ops : Array Oper} {ps : List (Nat × Nat)} {cs : List Rc} (hp : plan ops = some ps) (ho : planOk ps cs = true) (hcs : ∀ (i : Nat) c, cs[i]? = some c → ∃ o, ops.toList[i]? = some o ∧ c.dst = o.dst ∧ c.sl = opSlots ops o ∧ (c.ef = true → efk o = true) ∧ (∀ i ∈ c.wr, i ∈ c.rd) ∧ (c.ins ≠ none → efk o = true))
    {i j : Nat} {c d : Rc} (hji : j < i) (hc : cs[j]? = some c) (hd : cs[i]? = some d) :
    CF c d ∨ ∀ bs, Closed ops.toList bs → (∀ o, ops.toList[i]? = some o → Rdy bs o) → bs[j]? = some true := by
  obtain ⟨o1, h1, h2, h3, h4, h5, h6⟩ := hcs j c hc
  obtain ⟨o2, g1, g2, g3, g4, g5, g6⟩ := hcs i d hd
  have hl1 := (List.getElem?_eq_some_iff.1 h1).1
  have hl2 := (List.getElem?_eq_some_iff.1 g1).1
  have hml : (msks ops.toList []).length = ops.toList.length := by rw [msks_len]; simp
  obtain ⟨m1, hm1⟩ : ∃ m, (msks ops.toList [])[j]? = some m := ⟨_, List.getElem?_eq_getElem (by rw [hml]; exact hl1)⟩
  obtain ⟨m2, hm2⟩ : ∃ m, (msks ops.toList [])[i]? = some m := ⟨_, List.getElem?_eq_getElem (by rw [hml]; exact hl2)⟩
  have s1 := skOf_get ops ops.toList _ j o1 m1 h1 hm1
  have s2 := skOf_get ops ops.toList _ i o2 m2 g1 hm2
  obtain ⟨q1, q2⟩ := skAll_ok hp rfl i j _ _ hji (Nat.zero_le _) s1 s2
  have hmsk : MskOk ops.toList (msks ops.toList []) := msks_ok ops.toList ops.toList [] ⟨[], rfl, rfl⟩ fun i m o h => by cases h
  by_cases ha : m2.testBit j = true
  · exact .inr fun bs hcl hr => hmsk i m2 o2 hm2 g1 bs hcl (hr o2 g1) j ha
  · refine .inl ?_
    have ha' : m2.testBit j = false := by simpa using ha
    unfold skOk at q1
    simp only [ha', Bool.false_or, Bool.and_eq_true] at q1
    obtain ⟨⟨r1, r2⟩, r3⟩ := q1
    have r1 := beqT r1
    have r2 := beqT r2
    have r3 := beqT r3
    have hdyn : ((c.ef || d.ef) = false ∧ c.ins = none ∧ d.ins = none) ∨ cfD c d = true := by
      rcases q2 with q2 | q2 | q2
      · exact absurd q2 ha
      · simp only [Bool.or_eq_false_iff] at q2
        left
        have e1 : c.ef = false := by
          simp_all
        have e2 : d.ef = false := by
          simp_all
        refine ⟨by rw [e1, e2]; rfl, ?_, ?_⟩
        · cases hi : c.ins with
          | none => rfl
          | some s => have := h6 (by rw [hi]; simp); simp_all
        · cases hi : d.ins with
          | none => rfl
          | some s => have := g6 (by rw [hi]; simp); simp_all
      · right
        have := List.all_eq_true.1 ho _ q2
        simp only [hc, hd] at this
        omega
    refine ⟨fun t ht => ⟨fun hm => ?_, fun e => ?_⟩, fun t ht hm => ?_, fun he => ?_, fun he => ?_, fun s hs => ?_, fun s hs => ?_⟩
    · rw [h2] at ht
      rw [g3] at hm
      exact and_zero r1 (dmk_bit ht) ((lm_bit _ _).2 hm)
    · rw [h2] at ht
      rw [g2] at e
      exact and_zero r2 (dmk_bit ht) (dmk_bit e)
    · rw [g2] at ht
      rw [h3] at hm
      exact and_zero r3 (dmk_bit ht) ((lm_bit _ _).2 hm)
    · rcases hdyn with h | h
      · rw [he] at h; simp at h
      · unfold cfD at h
        simp only [he, Bool.and_eq_true, Bool.or_eq_true, Bool.not_eq_true'] at h
        have q := disR_ok (h.1.1.1.resolve_left (by simp))
        exact ⟨q.1, q.2, fun p hp hx => q.2 p hp (g5 _ hx)⟩
    · rcases hdyn with h | h
      · rw [he] at h; simp at h
      · unfold cfD at h
        simp only [he, Bool.and_eq_true, Bool.or_eq_true, Bool.not_eq_true'] at h
        have q := disR_ok (h.1.1.2.resolve_left (by simp))
        exact ⟨q.1, q.2, fun p hp hx => q.2 p hp (h5 _ hx)⟩
    · rcases hdyn with h | h
      · rw [h.2.1] at hs; cases hs
      · unfold cfD at h
        simp only [Bool.and_eq_true] at h
        exact insD_ok h.1.2 s hs
    · rcases hdyn with h | h
      · rw [h.2.2] at hs; cases hs
      · unfold cfD at h
        simp only [Bool.and_eq_true] at h
        exact insD_ok h.2 s hs
def IR.Lts (p : Nat → Prop) : IR → Prop
 | .box _ cs => ∀ c ∈ cs, Iv.Lts p c
 | .row _ _ => True
 | .mp _ => True
def IRs.Lts (p : Nat → Prop) (R : IRs) : Prop := ∀ q ∈ R, p q.1 ∧ q.2.Lts p
theorem IR.Lts.mono {p q : Nat → Prop} {r : IR} (h : r.Lts p) (hn : ∀ i, p i → q i) : r.Lts q := by
 cases r with
 | box T cs => exact fun c hc => (h c hc).mono hn
 | row t l => trivial
 | mp es => trivial
theorem IRs.Lts.mono {p q : Nat → Prop} {R : IRs} (h : IRs.Lts p R) (hn : ∀ i, p i → q i) : IRs.Lts q R := fun x hx => ⟨hn _ (h x hx).1, (h x hx).2.mono hn⟩
theorem IRs.Lts.res {p : Nat → Prop} {R : IRs} {ρ ρ' : Gh} (h : IRs.Lts p R) (ha : Ags p ρ ρ') : IRs.res ρ R = IRs.res ρ' R := List.map_congr_left fun q hq => by
 obtain ⟨h1, h2⟩ := h q hq
 obtain ⟨i, r⟩ := q
 cases r with
 | box T cs => simp only [IR.res]; rw [(ha i h1).2, Iv.Lts.subL h2 ha]
 | row t l => simp only [IR.res]; rw [(ha i h1).1]
 | mp es => simp only [IR.res]; rw [(ha i h1).1]
theorem IRs.Lts.perm {p : Nat → Prop} {R R' : IRs} (h : IRs.Lts p R) (hp : List.Perm R R') : IRs.Lts p R' := fun q hq => h q (hp.mem_iff.2 hq)
theorem IRs.Ltd.lts {n : Nat} {R : IRs} (h : IRs.Ltd n R) : IRs.Lts (fun i => i < n) R := fun q hq => ⟨(h q hq).1, by
 have := (h q hq).2
 cases hr : q.2 with
 | box T cs => rw [hr] at this; exact this
 | row t l => trivial
 | mp es => trivial⟩
theorem IRs.Lts.ltd {n : Nat} {R : IRs} (h : IRs.Lts (fun i => i < n) R) : IRs.Ltd n R := fun q hq => ⟨(h q hq).1, by
 have := (h q hq).2
 cases hr : q.2 with
 | box T cs => rw [hr] at this; exact this
 | row t l => trivial
 | mp es => trivial⟩
def locE (f : Fr) (sl : List Nat) : Env := sl.filterMap fun t => (f t).map fun d => (t, d)
theorem locE_get {f : Fr} {t : Nat} {d : AV} : ∀ {sl : List Nat}, (locE f sl).get t = some d → f t = some d
 | [], h => by cases h
 | s :: sl, h => by
  unfold locE at h
  rw [List.filterMap_cons] at h
  cases hs : f s with
  | none =>
   rw [hs] at h
   exact locE_get (sl := sl) h
  | some e =>
   rw [hs] at h
   simp only [Option.map_some] at h
   unfold Env.get at h
   cases hb : Nat.beq s t with
   | true =>
    simp_all
   | false =>
    rw [hb] at h
    exact locE_get (sl := sl) h
theorem locE_of {f : Fr} {t : Nat} {d : AV} : ∀ {sl : List Nat}, t ∈ sl → f t = some d → (locE f sl).get t = some d
  | [], h, _ => by cases h
  | s :: sl, h, hf => by
    unfold locE
    rw [List.filterMap_cons]
    by_cases hst : s = t
    · subst hst
      rw [hf]
      exact Env.get_hit _ _ _
    · have ht : t ∈ sl := (List.mem_cons.1 h).resolve_left fun e => hst e.symm
      cases f s with
      | none => exact locE_of ht hf
      | some e => simp only [Option.map_some]; rw [Env.get_miss _ _ hst]; exact locE_of ht hf
theorem locE_congr {f g : Fr} {sl : List Nat} (h : ∀ t ∈ sl, f t = g t) : locE f sl = locE g sl := by
 unfold locE
 induction sl with
 | nil => rfl
 | cons s sl ih =>
  rw [List.filterMap_cons, List.filterMap_cons, h s List.mem_cons_self, ih fun t ht => h t (List.mem_cons_of_mem _ ht)]
section
variable {P : Program} {C : Cx} {n : Nat} {o : Oper}
def MtS (C : Cg) (n : Nat) (p : Nat → Prop) (f : Fr) (R : IRs) (a : Act) (w : World) : Prop := ∃ (E : Env) (ρ : Gh), (∀ t d, f t = some d → E.get t = some d) ∧ (∀ q ∈ E, Lts p q.2) ∧ IRs.Lts p R ∧ Agr C.n C.ρ ρ ∧ Sim C.C n (E.sub ρ) (IRs.res ρ R) a w
theorem res_perm {ρ : Gh} {R R' : IRs} (h : List.Perm R R') : List.Perm (IRs.res ρ R) (IRs.res ρ R') := h.map _
theorem res_app {ρ : Gh} (R R' : IRs) : IRs.res ρ (R ++ R') = IRs.res ρ R ++ IRs.res ρ R' := List.map_append ..
theorem MtS.perm {C : Cg} {p : Nat → Prop} {f : Fr} {R R' : IRs} {a : Act} {w : World} (h : MtS C n p f R a w) (hp : List.Perm R R') : MtS C n p f R' a w := by
 obtain ⟨E, ρ, h1, h2, h3, h5, h4⟩ := h
 exact ⟨E, ρ, h1, h2, h3.perm hp, h5, h4.perm (res_perm hp)⟩
def Nlc (nx : Nat) (v : AV) (Ro : IRs) (ρ : Gh) : Option AV → List Res → Prop := fun a σ' => ∃ ρ', Agr nx ρ ρ' ∧ (a = some (v.sub ρ') ∨ a = none ∧ v = .lit undef) ∧ List.Perm σ' (IRs.res ρ' Ro)
theorem wr_perm {wr rd : List Nat} (h : ∀ i ∈ wr, i ∈ rd) (R : IRs) : List.Perm (outR wr (inR rd R) ++ outR rd R) (outR wr R) := by
 have e1 : outR wr (inR rd R) = (outR wr R).filter fun p => memB p.1 rd := by
  simp only [outR, inR, List.filter_filter]
  grind
 have e2 : outR rd R = (outR wr R).filter fun p => !memB p.1 rd := by
  simp only [outR, List.filter_filter]
  refine List.filter_congr fun p _ => ?_
  cases hm : memB p.1 rd with
  | true => rfl
  | false =>
   have : memB p.1 wr = false := memB_not.2 fun hw => memB_not.1 hm (h _ hw)
   rw [this]; rfl
 rw [e1, e2]
 exact List.filter_append_perm _ _
theorem loc_wp {C : Cg} {p : Nat → Prop} {f : Fr} {R : IRs} {a : Act} {w : World} {c : Rc} {nx nx' : Nat} {Q : Exit → Act → World → Prop} {K' : Act → World → Prop}
    (hci : c.ins = none) (hn : C.n ≤ nx) (hm : MtS C n p f R a w) (hdst : c.dst = o.dst) (hd : dstOk n o.dst = true) (hwr : ∀ i ∈ c.wr, i ∈ c.rd) (hloc : ∀ ρ C, Ye P ((locE f c.sl).sub ρ) (IRs.res ρ (inR c.rd R)) o C (Nlc nx c.v (match c.ef with | true => c.Lo ++ outR c.wr (inR c.rd R) | false => inR c.rd R) ρ))
    (hp : ∀ i, p i → ¬ (nx ≤ i ∧ i < nx')) (hv : Ltd nx' c.v) (hLi : IRs.Ltd nx (inR c.rd R)) (hLo : c.ef = true → IRs.Ltd nx' c.Lo)
    (hv' : Lts (fun i => p i ∨ (nx ≤ i ∧ i < nx')) c.v) (hLo' : c.ef = true → IRs.Lts (fun i => p i ∨ (nx ≤ i ∧ i < nx')) c.Lo)
    (hK : ∀ a' w', a'.defers = a.defers → MtS C n (fun i => p i ∨ (nx ≤ i ∧ i < nx')) (c.F f) (c.R R) a' w' → K' a' w') : o.wp P a w K' Q := by
  obtain ⟨E, ρ, h1, h2, h3, h0, hsim0⟩ := hm
  have hpm : List.Perm (inR c.rd R ++ outR c.rd R) R := List.filter_append_perm _ _
  have hsim := hsim0.perm (res_perm (ρ := ρ) hpm.symm)
  rw [res_app] at hsim
  generalize hσi : IRs.res ρ (inR c.rd R) = σi at hsim
  generalize hσr : IRs.res ρ (outR c.rd R) = σr at hsim
  have hg := hsim.good
  have hlt : ∀ b ∈ blks (σi ++ σr), b < w.heap.size := fun b hb => by
    obtain ⟨s, q1, q2⟩ := mem_blks.1 hb
    exact (hg.res s q1).lt q2
  have hal : ∀ b, al C.C (σi ++ σr) b → al ⟨w, al C.C (σi ++ σr), blks σi⟩ σi b := fun b hA => ⟨.inl hA, fun hx => hA.2 (blks_mem_app.2 (.inl hx))⟩
  have hgood : Good ⟨w, al C.C (σi ++ σr), blks σi⟩ σi w := ⟨Kp.refl _ _, fun r hr => (hg.res r (List.mem_append_left _ hr)).mono (fun b _ hA => ⟨hal b hA, rfl⟩) (fun _ _ => rfl), by
    have := hg.dis; rw [blks_app] at this; exact (List.nodup_append.1 this).1, fun b hb => .inl hb⟩
  have hops : Ops (al ⟨w, al C.C (σi ++ σr), blks σi⟩ σi) w ((locE f c.sl).sub ρ) a.eval := fun x u hx => by
    rw [Env.sub_ev] at hx
    obtain ⟨d, hd1, rfl⟩ := Option.map_eq_some_iff.1 hx
    have hE : E.ev x = some d := by
      cases x with
      | tmp t => exact h1 t d (locE_get hd1)
      | _ => exact hd1
    exact (hsim.slots.ops x (d.sub ρ) (by rw [Env.sub_ev, hE]; rfl)).mono fun b _ hA => ⟨hal b hA, rfl⟩
  have step : ∀ (ρ' : Gh) (σo : List Res) (w' : World), Agr nx ρ ρ' → List.Perm σo (IRs.res ρ' (match c.ef with | true => c.Lo ++ outR c.wr (inR c.rd R) | false => inR c.rd R)) → Tr ⟨w, al C.C (σi ++ σr), blks σi⟩ (blks σi) σi w σo w' →
      ∃ ρ'' : Gh, Agr C.n C.ρ ρ'' ∧ c.v.sub ρ' = c.v.sub ρ'' ∧ Sim C.C n (E.sub ρ'') (IRs.res ρ'' (c.R R)) a w' ∧ (∀ b, b < w'.heap.size → al ⟨w, al C.C (σi ++ σr), blks σi⟩ σo b → al C.C (IRs.res ρ'' (c.R R)) b) := fun ρ' σo w' ha hσo ht => by
    let ρ'' : Gh := ⟨fun i => if nx ≤ i ∧ i < nx' then ρ'.v i else ρ.v i, fun i => if nx ≤ i ∧ i < nx' then ρ'.b i else ρ.b i⟩
    have hag : Ags p ρ ρ'' := fun i hi => by
      have := hp i hi
      exact ⟨by simp only [ρ'', if_neg this], by simp only [ρ'', if_neg this]⟩
    have hag2 : Agr nx' ρ' ρ'' := fun i hi => by
      by_cases hni : nx ≤ i
      · exact ⟨by simp only [ρ'', if_pos (And.intro hni hi)], by simp only [ρ'', if_pos (And.intro hni hi)]⟩
      · have h0 : ¬ (nx ≤ i ∧ i < nx') := fun h => hni h.1
        obtain ⟨a1, a2⟩ := ha i (by omega)
        exact ⟨by simp only [ρ'', if_neg h0]; exact a1.symm, by simp only [ρ'', if_neg h0]; exact a2.symm⟩
    have hnx : nx ≤ nx' ∨ nx' < nx := by omega
    have hown : ∀ b ∈ blks σo, b ∈ blks σi ∨ w.heap.size ≤ b := ht.good.own
    have hsub : ∀ b, b < w'.heap.size → al ⟨w, al C.C (σi ++ σr), blks σi⟩ σo b → al C.C (σo ++ σr) b := fun b _ hb => by
      obtain ⟨hb1, hb2⟩ := hb
      rcases hb1 with hb1 | hb1 | hb1
      · exact ⟨hb1.1, fun hx => (blks_mem_app.1 hx).elim hb2 (fun h => hb1.2 (blks_mem_app.2 (.inr h)))⟩
      · have hbp : b ∈ blks σi := hb1
        refine ⟨?_, fun hx => (blks_mem_app.1 hx).elim hb2 (fun h => ?_)⟩
        · rcases hg.own b (blks_mem_app.2 (.inl hbp)) with h | h
          · simp_all
          · omega
        · have hdis := hg.dis
          rw [blks_app] at hdis
          exact (List.nodup_append.1 hdis).2.2 b hbp b h rfl
      · have hbw : w.heap.size ≤ b := hb1
        exact ⟨.inr (.inr (Nat.le_trans hg.kept.size hbw)), fun hx => (blks_mem_app.1 hx).elim hb2 (fun h => by have := hlt b (blks_mem_app.2 (.inr h)); omega)⟩
    have ht2 : Tr C.C (blks σi) (σi ++ σr) w (σo ++ σr) w' := tr_call hg (fun b hA _ => .inl hA) ht (fun r hr => (ht.good.res r hr).mono (fun b hb hA => ⟨hsub b hb hA, rfl⟩) (fun _ _ => rfl))
    have hs2 := hsim.tr ht2
    have hout : IRs.Lts p (outR c.rd R) := fun q hq => h3 q (List.mem_filter.1 hq).1
    have hEs : E.sub ρ = E.sub ρ'' := List.map_congr_left fun q hq => by rw [(h2 q hq).sub hag]
    have hrs : σr = IRs.res ρ'' (outR c.rd R) := by rw [← hσr, hout.res hag]
    have hpo : List.Perm (σo ++ σr) (IRs.res ρ'' (c.R R)) := by
      rw [hrs]
      unfold Rc.R
      rw [hci]
      dsimp only
      cases hce : c.ef with
      | true =>
        rw [hce] at hσo
        simp only at hσo ⊢
        have hin : IRs.Lts p (outR c.wr (inR c.rd R)) := fun q hq => h3 q (List.mem_filter.1 (List.mem_filter.1 hq).1).1
        have hin2 : IRs.Ltd nx (outR c.wr (inR c.rd R)) := fun q hq => hLi q (List.mem_filter.1 hq).1
        have e1 : IRs.res ρ' (outR c.wr (inR c.rd R)) = IRs.res ρ'' (outR c.wr (inR c.rd R)) := by rw [← hin2.res ha, hin.res hag]
        rw [res_app, e1, (hLo hce).res hag2] at hσo
        refine (hσo.append_right _).trans ?_
        rw [List.append_assoc, res_app, ← res_app (outR c.wr (inR c.rd R))]
        exact List.Perm.append_left _ (res_perm (wr_perm hwr R))
      | false =>
        rw [hce] at hσo
        have hin : IRs.Lts p (inR c.rd R) := fun q hq => h3 q (List.mem_filter.1 hq).1
        have e1 : IRs.res ρ' (inR c.rd R) = IRs.res ρ'' (inR c.rd R) := by rw [← hLi.res ha, hin.res hag]
        rw [e1] at hσo
        refine (hσo.append_right _).trans ?_
        rw [← res_app]
        exact res_perm hpm
    refine ⟨ρ'', h0.trans (fun i hi => ⟨by simp only [ρ'', if_neg (show ¬ (nx ≤ i ∧ i < nx') by omega)], by simp only [ρ'', if_neg (show ¬ (nx ≤ i ∧ i < nx') by omega)]⟩) (Nat.le_refl C.n), hv.sub hag2, by rw [← hEs]; exact hs2.perm hpo, fun b hb hA => al_perm hpo b (hsub b hb hA)⟩
  have fin : ∀ (ρ' : Gh) (σo : List Res) (w' : World) (v : Value), Agr nx ρ ρ' → List.Perm σo (IRs.res ρ' (match c.ef with | true => c.Lo ++ outR c.wr (inR c.rd R) | false => inR c.rd R)) → Tr ⟨w, al C.C (σi ++ σr), blks σi⟩ (blks σi) σi w σo w' →
      Rel (al ⟨w, al C.C (σi ++ σr), blks σi⟩ σo) w' (c.v.sub ρ') v → K' (a.put o.dst v) w' := fun ρ' σo w' v q1 q2 q3 q4 => by
    obtain ⟨ρ'', g1, g2, g3, g4⟩ := step ρ' σo w' q1 q2 q3
    have hR' : IRs.Lts (fun i => p i ∨ (nx ≤ i ∧ i < nx')) (c.R R) := by
      unfold Rc.R
      rw [hci]
      dsimp only
      cases hce : c.ef with
      | false => exact h3.mono fun i hi => .inl hi
      | true => exact fun q hq => (List.mem_append.1 hq).elim (hLo' hce q) fun hq => ⟨.inl (h3 q (List.mem_filter.1 hq).1).1, (h3 q (List.mem_filter.1 hq).1).2.mono fun i hi => .inl hi⟩
    refine hK _ _ (by cases o.dst <;> rfl) ?_
    rw [g2] at q4
    cases hdo : o.dst with
    | none => exact ⟨E, ρ'', fun t d ht => h1 t d (by unfold Rc.F at ht; rw [hdst, hdo] at ht; simpa using ht), fun q hq => (h2 q hq).mono fun i hi => .inl hi, hR', g1, g3⟩
    | some t =>
      refine ⟨(t, c.v) :: E, ρ'', fun s d hs => ?_, fun q hq => ?_, hR', g1, ?_⟩
      · unfold Rc.F at hs
        rw [hdst, hdo] at hs
        by_cases hts : t = s
        · subst hts
          rw [if_pos rfl] at hs
          cases hs
          exact Env.get_hit _ _ _
        · rw [if_neg (fun e => hts (Option.some.inj e))] at hs
          rw [Env.get_miss _ _ hts]
          exact h1 s d hs
      · rcases List.mem_cons.1 hq with rfl | hq
        · exact hv'
        · exact (h2 q hq).mono fun i hi => .inl hi
      · rw [hdo] at hd
        exact g3.put hd (q4.mono fun b hb hA => ⟨g4 b hb hA, rfl⟩)
  unfold Oper.wp
  subst hσi
  rcases hloc ρ _ w a.eval hgood hops with ⟨v, w', av, σ', ⟨ρ', q1, q2, q3⟩, r1, r2, r3⟩ | ⟨w', σ', ⟨ρ', q1, q2, q3⟩, r1, r2⟩ | ⟨g, args, r1, r2⟩
  · rw [r2]
    rcases q2 with q2 | ⟨q2, _⟩
    · cases q2; exact fin ρ' σ' w' v q1 q3 r1 r3
    · cases q2
  · rw [r2]
    rcases q2 with q2 | ⟨_, q2⟩
    · cases q2
    · exact fin ρ' σ' w' undef q1 q3 r1 (by rw [q2, sub_lit]; exact .lit _)
  · rw [r1]
    refine Calls.mono r2 fun ee w' ⟨v, av, σ', q0, ⟨ρ', q1, q2, q3⟩, s1, s2⟩ => ?_
    subst q0
    rcases q2 with q2 | ⟨q2, _⟩
    · cases q2; exact fin ρ' σ' w' v q1 q3 s1 s2
    · cases q2
end
section
variable {P : Program} {o : Oper} {C : Cx} {N : Option AV → List Res → Prop}
theorem Ye.frz1 {E : Env} {R : IRs} {ρ : Gh} {id t : Nat} {l : List (U.Dat t)} (hr : rget R id = some (.row t l))
    (h : Ye P (Env.sub ρ (E.map fun p => (p.1, frzN id t l 3 p.2))) (IRs.res ρ ((rdel id R).map fun p => (p.1, frzR id t l p.2))) o C N) : Ye P (E.sub ρ) (IRs.res ρ R) o C N := fun w ϱ hg hρ => by
  obtain ⟨i, hi1, _, hi3⟩ := rget_idx hr
  have hres := res_get (ρ := ρ) hi1
  have hd : Hd (al C (IRs.res ρ R)) [.row (ρ.v id) t l] w := ⟨fun r hr => by
      rw [List.mem_singleton] at hr
      rw [hr]
      exact hg.res _ (List.mem_of_getElem? hres), fun b hb hA => hA.2 (by
      obtain ⟨r, h1, h2⟩ := mem_blks.1 hb
      rw [List.mem_singleton] at h1
      rw [h1] at h2
      exact mem_blks.2 ⟨_, List.mem_of_getElem? hres, h2⟩)⟩
  have hle := al_erase (C := C) hres hg
  have hbk : blks (IRs.res ρ ((rdel id R).map fun p => (p.1, frzR id t l p.2))) = blks ((IRs.res ρ R).eraseIdx i) := by
    rw [← res_erase, ← hi3]
    unfold blks IRs.res
    rw [List.map_map, List.filterMap_map, List.filterMap_map]
    congr 1
    funext p
    obtain ⟨q, rr⟩ := p
    cases rr <;> rfl
  have hal : ∀ b, (al C (IRs.res ρ R) b ∨ b ∈ blks [Res.row (ρ.v id) t l]) → al C (IRs.res ρ ((rdel id R).map fun p => (p.1, frzR id t l p.2))) b := fun b hb => by
    have := hle b hb
    exact ⟨this.1, by rw [hbk]; exact this.2⟩
  have hrel : ∀ {d : AV} {v : Value}, Rel (al C (IRs.res ρ R)) w (d.sub ρ) v → Rel (al C (IRs.res ρ ((rdel id R).map fun p => (p.1, frzR id t l p.2)))) w ((frzN id t l 3 d).sub ρ) v := fun h =>
    (frzN_rel hd 3 h).mono fun b _ hA => ⟨hal b hA, rfl⟩
  have hsubb : ∀ b ∈ blks (IRs.res ρ ((rdel id R).map fun p => (p.1, frzR id t l p.2))), b ∈ blks (IRs.res ρ R) := fun b hb => by
    rw [hbk] at hb
    exact blks_sub (fun r hr => (List.eraseIdx_sublist _ _).subset hr) b hb
  have hg' : Good C (IRs.res ρ ((rdel id R).map fun p => (p.1, frzR id t l p.2))) w := by
    refine ⟨hg.kept, fun rr hrr => ?_, ?_, fun b hb => hg.own b (hsubb b hb)⟩
    · obtain ⟨p, h1, rfl⟩ := List.mem_map.1 hrr
      obtain ⟨p', h2, rfl⟩ := List.mem_map.1 h1
      have hm : p'.2.res ρ p'.1 ∈ IRs.res ρ R := by
        rw [hi3] at h2
        exact List.mem_map.2 ⟨p', List.mem_of_mem_eraseIdx h2, rfl⟩
      have h3 := hg.res _ hm
      obtain ⟨q, rr⟩ := p'
      cases rr with
      | row t' l' => exact h3.mono (fun b _ hA => ⟨hal b (.inl hA), rfl⟩) (fun _ _ => rfl)
      | mp es => exact h3.mono (fun b _ hA => ⟨hal b (.inl hA), rfl⟩) (fun _ _ => rfl)
      | box T cs =>
        obtain ⟨us, h4, h5⟩ := h3
        refine ⟨us, h4, by simpa using h5.1, fun j av v q1 q2 => ?_⟩
        rw [List.map_map, List.getElem?_map] at q1
        obtain ⟨c, hc, rfl⟩ := Option.map_eq_some_iff.1 q1
        exact hrel (h5.2 j (c.sub ρ) v (by rw [List.getElem?_map, hc]; rfl) q2)
    · rw [hbk]
      exact hg.dis.sublist ((List.eraseIdx_sublist _ _).filterMap _)
  have hops : Ops (al C (IRs.res ρ ((rdel id R).map fun p => (p.1, frzR id t l p.2)))) w (Env.sub ρ (E.map fun p => (p.1, frzN id t l 3 p.2))) ϱ := fun x u hx => by
    cases x with
    | tmp k =>
      have hx' : Env.get (Env.sub ρ (E.map fun p => (p.1, frzN id t l 3 p.2))) k = some u := hx
      rw [Env.sub_get, map_get] at hx'
      obtain ⟨d', h1, rfl⟩ := Option.map_eq_some_iff.1 hx'
      obtain ⟨d, h2, rfl⟩ := Option.map_eq_some_iff.1 h1
      exact hrel (hρ (.tmp k) (d.sub ρ) (by show Env.get (E.sub ρ) k = _; rw [Env.sub_get, h2]; rfl))
    | const v => exact (hρ (.const v) u hx).mono fun b _ hA => ⟨hal b (.inl hA), rfl⟩
    | global g => exact (hρ (.global g) u hx).mono fun b _ hA => ⟨hal b (.inl hA), rfl⟩
    | func f => exact (hρ (.func f) u hx).mono fun b _ hA => ⟨hal b (.inl hA), rfl⟩
  have htr : ∀ {σ' : List Res} {w' : World}, Tr C (blks (IRs.res ρ ((rdel id R).map fun p => (p.1, frzR id t l p.2)))) (IRs.res ρ ((rdel id R).map fun p => (p.1, frzR id t l p.2))) w σ' w' → Tr C (blks (IRs.res ρ R)) (IRs.res ρ R) w σ' w' := fun h =>
    ⟨h.good, ⟨h.kp.os, h.kp.tape, h.kp.output, h.kp.size, fun k hk hn => h.kp.block k hk fun hx => hn (hsubb k hx)⟩, fun b hb hA => ⟨(h.al b hb (hal b (.inl hA))).1, hA.2⟩⟩
  rcases h w ϱ hg' hops with ⟨v, w', av, σ', h1, h2, h3, h4⟩ | ⟨w', σ', h1, h2, h3⟩ | ⟨f, args, h1, h2⟩
  · exact .inl ⟨v, w', av, σ', h1, htr h2, h3, h4⟩
  · exact .inr (.inl ⟨w', σ', h1, htr h2, h3⟩)
  · exact .inr (.inr ⟨f, args, h1, h2.mono fun e w' ⟨v, av, σ', q1, q2, q3, q4⟩ => ⟨v, av, σ', q1, q2, htr q3, q4⟩⟩)
def HoldL (sl : List Nat) (T : ET) (E : Env) : Prop := ∀ t ∈ sl, ∀ d, eget T t = some d → E.get t = some d
theorem Ye.frzL {sl : List Nat} {nx : Nat} {ρ : Gh} : ∀ (ids : List Nat) (T : ET) (E : Env) (R : IRs), HoldL sl T E → E.Ltd nx → IRs.Ltd nx R →
    (∀ E', HoldL sl (St.frzL ⟨T, R, nx⟩ ids).E E' → E'.Ltd nx → IRs.Ltd nx (St.frzL ⟨T, R, nx⟩ ids).R → Ye P (E'.sub ρ) (IRs.res ρ (St.frzL ⟨T, R, nx⟩ ids).R) o C N) → Ye P (E.sub ρ) (IRs.res ρ R) o C N
  | [], T, E, R, hh, hE, hR, h => h E hh hE hR
  | i :: ids, T, E, R, hh, hE, hR, h => by
    have e0 : St.frzL ⟨T, R, nx⟩ (i :: ids) = (St.frz ⟨T, R, nx⟩ i).frzL ids := rfl
    rw [e0] at h
    have key : ∀ s : St, s.nx = nx → s = ⟨s.E, s.R, nx⟩ := fun s hs => by obtain ⟨a, b, c⟩ := s; simp only at hs; rw [hs]
    cases hr : rget R i with
    | none =>
      have e1 : St.frz ⟨T, R, nx⟩ i = ⟨T, R, nx⟩ := by unfold St.frz; simp only [hr]
      rw [e1] at h
      exact Ye.frzL ids T E R hh hE hR h
    | some rr =>
      cases rr with
      | box T0 cs =>
        have e1 : St.frz ⟨T, R, nx⟩ i = ⟨T, R, nx⟩ := by unfold St.frz; simp only [hr]
        rw [e1] at h
        exact Ye.frzL ids T E R hh hE hR h
      | mp es =>
        have e1 : St.frz ⟨T, R, nx⟩ i = ⟨T, R, nx⟩ := by unfold St.frz; simp only [hr]
        rw [e1] at h
        exact Ye.frzL ids T E R hh hE hR h
      | row t l =>
        have e1 : St.frz ⟨T, R, nx⟩ i = ⟨emap (frzN i t l 3) T, (rdel i R).map fun p => (p.1, frzR i t l p.2), nx⟩ := by unfold St.frz; simp only [hr]
        rw [e1] at h
        refine Ye.frz1 hr (Ye.frzL ids _ _ _ (fun k hk d hd => ?_) (fun p hp => ?_) (fun p hp => ?_) h)
        · rw [emap_get] at hd
          obtain ⟨d', h1, rfl⟩ := Option.map_eq_some_iff.1 hd
          rw [map_get, hh k hk d' h1]
          rfl
        · obtain ⟨p', h1, rfl⟩ := List.mem_map.1 hp
          exact frzN_ltd 3 (hE p' h1)
        · obtain ⟨p', h1, rfl⟩ := List.mem_map.1 hp
          have h2 := rdel_ltd (id := i) hR p' h1
          refine ⟨h2.1, ?_⟩
          obtain ⟨q, rr⟩ := p'
          cases rr with
          | row t' l' => trivial
          | mp es => trivial
          | box T0 cs =>
            intro c hc
            obtain ⟨c', h3, rfl⟩ := List.mem_map.1 hc
            exact frzN_ltd 3 (h2.2 c' h3)
end
def evL (sl : List Nat) (T : ET) : Operand → Option AV
 | .tmp t => match memB t sl with
  | true => eget T t
  | false => none
 | x => evF T x
def lK (R1 : IRs) (nx : Nat) (fz : Bool) (e : Eff) : Option (AV × Bool × IRs × Nat) := some (match e.vl nx with
 | some d => d
 | none => .lit undef, match e with
 | .val _ => fz
 | _ => true, e.R R1 nx, e.nx nx)
def lrun2 (P : Program) (F : Orc) (o : Oper) (sl : List Nat) (ids : List Nat) (s : St) : Option (AV × Bool × IRs × Nat) := St.rec (fun E1 R1 nx1 => stepF o.op P F (evL sl E1) (rget R1) R1 nx1 (lK R1 nx1 (!ids.isEmpty))) (s.frzL ids)
def lrun (P : Program) (F : Orc) (o : Oper) (sl : List Nat) (E : ET) (Rl : IRs) (nx : Nat) : Option (AV × Bool × IRs × Nat) := lrun2 P F o sl (frzOf E o.op) ⟨E, Rl, nx⟩
def lrunK2 {α : Type} (P : Program) (F : Orc) (o : Oper) (sl : List Nat) (ids : List Nat) (D : AV × Bool × IRs × Nat → Option α) (s : St) : Option α := St.rec (fun E1 R1 nx1 => stepF o.op P F (evL sl E1) (rget R1) R1 nx1 (fun e => D (match e.vl nx1 with
 | some d => d
 | none => .lit undef, match e with
 | .val _ => (!ids.isEmpty)
 | _ => true, e.R R1 nx1, e.nx nx1))) (s.frzL ids)
def lrunK {α : Type} (P : Program) (F : Orc) (o : Oper) (sl : List Nat) (E : ET) (Rl : IRs) (nx : Nat) (D : AV × Bool × IRs × Nat → Option α) : Option α := lrunK2 P F o sl (frzOf E o.op) D ⟨E, Rl, nx⟩
theorem lrun_nat {α : Type} {P : Program} {F : Orc} (hN : OrcNat F) {o : Oper} {sl : List Nat} {E : ET} {Rl : IRs} {nx : Nat} (D : AV × Bool × IRs × Nat → Option α) : (lrun P F o sl E Rl nx).bind D = lrunK P F o sl E Rl nx D := by
 unfold lrun lrunK lrun2 lrunK2
 generalize St.frzL ⟨E, Rl, nx⟩ (frzOf E o.op) = s1
 obtain ⟨E1, R1, n1⟩ := s1
 exact stepF_nat D hN ..
theorem frzL_nx : ∀ (ids : List Nat) (s : St), (s.frzL ids).nx = s.nx
 | [], s => rfl
 | i :: ids, s => by
  show ((s.frz i).frzL ids).nx = s.nx
  rw [frzL_nx ids]
  unfold St.frz
  split <;> rfl
theorem lrun_ok {P : Program} {F : Orc} {o : Oper} {sl : List Nat} {T : ET} {E : Env} {Rl Lo : IRs} {nx nx' : Nat} {v : AV} {ef : Bool} (hF : OrcOk P F) (h : lrun P F o sl T Rl nx = some (v, ef, Lo, nx')) (hh : HoldL sl T E) (hE : E.Ltd nx) (hR : IRs.Ltd nx Rl) :
    (∀ ρ C, Ye P (E.sub ρ) (IRs.res ρ Rl) o C (Nlc nx v Lo ρ)) ∧ (ef = false → ∀ ρ C, Ye P (E.sub ρ) (IRs.res ρ Rl) o C (Nlc nx v Rl ρ)) := by
  unfold lrun lrun2 at h
  generalize hs : St.frzL ⟨T, Rl, nx⟩ (frzOf T o.op) = s1 at h
  have hnx : s1.nx = nx := by rw [← hs, frzL_nx]
  obtain ⟨E1, R1, n1⟩ := s1
  simp only at hnx
  subst hnx
  have h' : stepF o.op P F (evL sl E1) (rget R1) R1 n1 (lK R1 n1 (!(frzOf T o.op).isEmpty)) = some (v, ef, Lo, nx') := h
  rw [stepF_eq] at h'
  have main : ∀ ρ C (Ro : IRs), (∀ e : Eff, lK R1 n1 (!(frzOf T o.op).isEmpty) e = some (v, ef, Lo, nx') → e.R R1 n1 = Ro) → Ye P (E.sub ρ) (IRs.res ρ Rl) o C (Nlc n1 v Ro ρ) := fun ρ C Ro hRo => by
    refine Ye.frzL (sl := sl) (frzOf T o.op) T E Rl hh hE hR fun E' hh' hE' hR' => ?_
    rw [hs] at hh' hR' ⊢
    have hsee : See (evL sl E1) (rget R1) n1 E' R1 := ⟨fun x d hx => by
      cases x with
      | tmp t =>
        unfold evL at hx
        simp only at hx
        split at hx
        · rename_i hm; exact hh' t (memB_iff.1 hm) d hx
        · cases hx
      | _ => exact hx, fun _ _ h => h, hE', hR'⟩
    have hst := stepOp_ok (o := o) hF hsee rfl h' ρ C
    intro w ϱ hg hρ
    have conv : ∀ a σ', Nx R1 n1 (lK R1 n1 (!(frzOf T o.op).isEmpty)) (v, ef, Lo, nx') ρ a σ' → Nlc n1 v Ro ρ a σ' := fun a σ' ⟨e, q1, q2, q3, q4, ρ', q5, q6, q7⟩ => by
      refine ⟨ρ', q5, ?_, by rw [← hRo e q1]; exact q7⟩
      unfold lK at q1
      simp only [Option.some.injEq, Prod.mk.injEq] at q1
      cases hv : e.vl n1 with
      | some d =>
        rw [hv] at q1 q6
        left
        rw [q6, ← q1.1]
        rfl
      | none =>
        rw [hv] at q1 q6
        right
        exact ⟨q6, q1.1.symm⟩
    rcases hst w ϱ hg hρ with ⟨v', w', av, σ', h1, h2, h3, h4⟩ | ⟨w', σ', h1, h2, h3⟩ | ⟨f, args, h1, h2⟩
    · exact .inl ⟨v', w', av, σ', conv _ _ h1, h2, h3, h4⟩
    · exact .inr (.inl ⟨w', σ', conv _ _ h1, h2, h3⟩)
    · exact .inr (.inr ⟨f, args, h1, h2.mono fun e w' ⟨v', av, σ', q1, q2, q3, q4⟩ => ⟨v', av, σ', q1, conv _ _ q2, q3, q4⟩⟩)
  refine ⟨fun ρ C => main ρ C Lo fun e he => ?_, fun hef ρ C => main ρ C Rl fun e he => ?_⟩
  · unfold lK at he
    simp only [Option.some.injEq, Prod.mk.injEq] at he
    exact he.2.2.1
  · unfold lK at he
    simp only [Option.some.injEq, Prod.mk.injEq] at he
    cases e with
    | val d =>
      have hemp : frzOf T o.op = [] := by
        have h2 : (!(frzOf T o.op).isEmpty) = false := by rw [← hef]; exact he.2.1
        simpa using h2
      rw [hemp] at hs
      have : (⟨T, Rl, n1⟩ : St) = ⟨E1, R1, n1⟩ := hs
      exact (St.mk.inj this).2.1.symm
    | _ => exact absurd (he.2.1.trans hef) (by simp)
def idsC (p : Nat → Bool) (n : Nat) : AV → Bool := Nat.rec (fun d => match d with
 | .lit _ => true
 | .sl _ _ => true
 | .rp _ _ => true
 | .own i => p i
 | .ptr i _ => p i
 | .ra i _ _ _ => p i
 | _ => false) (fun _ ih d => match d with
 | .lit _ => true
 | .sl _ _ => true
 | .rp _ _ => true
 | .own i => p i
 | .ptr i _ => p i
 | .ra i _ _ _ => p i
 | .agg cs => cs.all ih
 | .tup cs => cs.all ih
 | .fn _ cs => cs.all ih
 | .fp cs => cs.all ih) n
theorem idsC_ok {p : Nat → Bool} : ∀ (n : Nat) {d : AV}, idsC p n d = true → Lts (fun i => p i = true) d
 | 0, d, h => by
  cases d <;> first | exact .lit _ | exact .sl _ _ | exact .rp _ _ | exact .own _ h | exact .ptr _ _ h | exact .ra _ _ _ _ h | (cases h; done)
 | n + 1, d, h => by
  have hL : ∀ {cs : List AV}, cs.all (idsC p n) = true → ∀ c ∈ cs, Lts (fun i => p i = true) c := fun h c hc => idsC_ok n (List.all_eq_true.1 h c hc)
  cases d <;> first | exact .lit _ | exact .sl _ _ | exact .rp _ _ | exact .own _ h | exact .ptr _ _ h | exact .ra _ _ _ _ h | exact .agg _ (hL h) | exact .tup _ (hL h) | exact .fn _ _ (hL h) | exact .fp _ (hL h)
theorem idsN_ok {p : Nat → Prop} : ∀ (n : Nat) {d : AV}, Lts p d → ∀ i ∈ idsN n d, p i
 | 0, d, h, i, hi => by
  cases h <;> simp only [idsN, List.mem_singleton, List.not_mem_nil] at hi <;> (subst hi; assumption)
 | n + 1, d, h, i, hi => by
  have hL : ∀ {cs : List AV}, (∀ c ∈ cs, Lts p c) → i ∈ cs.flatMap (idsN n) → p i := fun h hi => by
   obtain ⟨c, h1, h2⟩ := List.mem_flatMap.1 hi
   exact idsN_ok n (h c h1) i h2
  cases h with
  | agg cs h => exact hL h hi
  | tup cs h => exact hL h hi
  | fn f cs h => exact hL h hi
  | own id h => simp only [idsN, List.mem_singleton] at hi; rw [hi]; exact h
  | ptr id off h => simp only [idsN, List.mem_singleton] at hi; rw [hi]; exact h
  | ra id t m off h => simp only [idsN, List.mem_singleton] at hi; rw [hi]; exact h
  | _ => simp [idsN] at hi
def valIds (sl : List Nat) (T : ET) : List Nat := sl.flatMap fun t => match eget T t with
 | some d => idsN 3 d
 | none => []
def resIds (R : IRs) : List Nat := R.flatMap fun q => q.1 :: match q.2 with
 | .box _ cs => cs.flatMap (idsN 3)
 | .row _ _ => []
 | .mp _ => []
def okId (al : List Nat) (nx nx' i : Nat) : Bool := memB i al || (Nat.ble nx i && Nat.blt i nx')
def okR (al : List Nat) (nx nx' : Nat) (R : IRs) : Bool := R.all fun q => okId al nx nx' q.1 && match q.2 with
 | .box _ cs => cs.all (idsC (okId al nx nx') 3)
 | .row _ _ => true
 | .mp _ => true
theorem okId_ok {al : List Nat} {nx nx' i : Nat} (h : okId al nx nx' i = true) : i ∈ al ∨ (nx ≤ i ∧ i < nx') := by
 unfold okId at h
 simp only [Bool.or_eq_true, Bool.and_eq_true, Nat.ble_eq, Nat.blt_eq] at h
 exact h.imp memB_iff.1 id
theorem okR_ok {al : List Nat} {nx nx' : Nat} {R : IRs} (h : okR al nx nx' R = true) : IRs.Lts (fun i => i ∈ al ∨ (nx ≤ i ∧ i < nx')) R := fun q hq => by
 have := List.all_eq_true.1 h q hq
 simp only [Bool.and_eq_true] at this
 refine ⟨okId_ok this.1, ?_⟩
 obtain ⟨i, r⟩ := q
 cases r with
 | row t l => trivial
 | mp es => trivial
 | box T cs => exact fun c hc => (idsC_ok 3 (List.all_eq_true.1 this.2 c hc)).mono fun i hi => okId_ok hi
def needR (o : Op) : Bool := match o with
 | .move _ => false
 | .assign _ => false
 | .pick _ _ _ => false
 | .unOp _ _ _ => false
 | .nilCheck _ => false
 | .fieldAddr _ _ _ => false
 | .extract _ _ => false
 | .makeFunc _ _ _ => false
 | .alloc _ => false
 | _ => true
def isCal (o : Op) : Bool := match o with
  | .call { callee := .value _, .. } => true
  | _ => false
def footO (ops : Array Oper) (o : Oper) (E : ET) (R : IRs) : List Nat := match needR o.op with
 | false => []
 | true => match isCal o.op with
  | false => valIds (opSlots ops o) E
  | true => reach R 3 (valIds (opSlots ops o) E)
def inQ (rd : List Nat) (R : IRs) : IRs := match rd with
 | [] => []
 | rd => inR rd R
theorem inQ_eq (rd : List Nat) (R : IRs) : inQ rd R = inR rd R := by
 cases rd with
 | nil => exact (List.filter_eq_nil_iff.2 fun p _ => by simp [memB]).symm
 | cons a l => rfl
def rcB (ops : Array Oper) (o : Oper) (E : ET) (Rl : IRs) (nx : Nat) (v : AV) (ef : Bool) (Lo : IRs) (nx' : Nat) : Bool := (fun al => Nat.ble nx nx' && (!ef || efk o) && idsC (okId al nx nx') 4 v && (!ef || okR al nx nx' Lo)) (valIds (opSlots ops o) E ++ resIds Rl)
def eqAL (e : AV → AV → Bool) (l : List AV) : List AV → Bool := List.rec (fun m => match m with
 | [] => true
 | _ => false) (fun a _ ih m => match m with
 | b :: m => e a b && ih m
 | [] => false) l
def eqA1 (ih : AV → AV → Bool) (a b : AV) : Bool := match a, b with
 | .own i, .own j => Nat.beq i j
 | .ptr i o, .ptr j p => Nat.beq i j && Nat.beq o p
 | .fn (.func f) cs, .fn (.func g) ds => Nat.beq f g && eqAL ih cs ds
 | _, _ => false
def eqA (n : Nat) : AV → AV → Bool := Nat.rec (fun _ _ => false) (fun _ ih => eqA1 ih) n
def eqIR (a b : IR) : Bool := match a, b with
 | .box T cs, .box T' ds => Nat.beq T T' && eqAL (eqA 2) cs ds
 | _, _ => false
def eqIRs (l : IRs) : IRs → Bool := List.rec (fun m => match m with
 | [] => true
 | _ => false) (fun a _ ih m => match m with
 | b :: m => Nat.beq a.1 b.1 && eqIR a.2 b.2 && ih m
 | [] => false) l
theorem eqAL_ok {e : AV → AV → Bool} (he : ∀ a b, e a b = true → a = b) : ∀ {l m : List AV}, eqAL e l m = true → l = m
 | [], [], _ => rfl
 | [], _ :: _, h => by cases h
 | _ :: _, [], h => by cases h
 | a :: l, b :: m, h => by
  change (e a b && eqAL e l m) = true at h
  rw [Bool.and_eq_true] at h
  rw [he a b h.1, eqAL_ok he h.2]
theorem eqA_ok : ∀ (n : Nat) {a b : AV}, eqA n a b = true → a = b
  | 0, a, b, h => by cases h
  | n + 1, a, b, h => by
    change eqA1 (eqA n) a b = true at h
    unfold eqA1 at h
    split at h
    · rw [beqT h]
    · rw [Bool.and_eq_true] at h; rw [beqT h.1, beqT h.2]
    · rw [Bool.and_eq_true] at h; rw [beqT h.1, eqAL_ok (fun a b => eqA_ok n) h.2]
    · cases h
theorem eqIRs_ok : ∀ {l m : IRs}, eqIRs l m = true → l = m
  | [], [], _ => rfl
  | [], _ :: _, h => by cases h
  | _ :: _, [], h => by cases h
  | (i, a) :: l, (j, b) :: m, h => by
    change (Nat.beq i j && eqIR a b && eqIRs l m) = true at h
    simp only [Bool.and_eq_true] at h
    have h1 := beqT h.1.1
    subst h1
    have h2 := h.1.2
    unfold eqIR at h2
    split at h2
    · rw [Bool.and_eq_true] at h2
      rw [beqT h2.1, eqAL_ok (fun a b => eqA_ok 2) h2.2, eqIRs_ok h.2]
    · cases h2
def trim (K rd : List Nat) (Rl Lo : IRs) : List Nat × IRs := match K.filter fun i => memB i rd with
 | [] => (rd, Lo)
 | k :: K => match eqIRs (inR (k :: K) Lo) (inR (k :: K) Rl) with
  | true => (rd.filter fun i => !memB i (k :: K), outR (k :: K) Lo)
  | false => (rd, Lo)
theorem trim_ok (K rd : List Nat) (R Lo : IRs) : (∀ i ∈ (trim K rd (inR rd R) Lo).1, i ∈ rd) ∧ (∀ q ∈ (trim K rd (inR rd R) Lo).2, q ∈ Lo) ∧ List.Perm Lo ((trim K rd (inR rd R) Lo).2 ++ outR (trim K rd (inR rd R) Lo).1 (inR rd R)) := by
  have h0 : outR rd (inR rd R) = [] := List.filter_eq_nil_iff.2 fun p hp => by
    have : memB p.1 rd = true := (List.mem_filter.1 hp).2
    rw [this]; simp
  have triv : (∀ i ∈ rd, i ∈ rd) ∧ (∀ q ∈ Lo, q ∈ Lo) ∧ List.Perm Lo (Lo ++ outR rd (inR rd R)) := ⟨fun _ h => h, fun _ h => h, by rw [h0, List.append_nil]⟩
  unfold trim
  split
  · omega
  · rename_i k K' hK
    split
    case h_2 => exact triv
    rename_i he
    have he := eqIRs_ok he
    refine ⟨fun i hi => (List.mem_filter.1 hi).1, fun q hq => (List.mem_filter.1 hq).1, ?_⟩
    have e1 : outR (rd.filter fun i => !memB i (k :: K')) (inR rd R) = inR (k :: K') (inR rd R) := by
      refine List.filter_congr fun p hp => ?_
      have hp : memB p.1 rd = true := (List.mem_filter.1 hp).2
      cases hm : memB p.1 (k :: K') with
      | true =>
        rw [memB_not.2 fun hx => ?_]; rfl
        simp_all
      | false =>
        rw [memB_iff.2 (List.mem_filter.2 ⟨memB_iff.1 hp, by rw [hm]; rfl⟩)]; rfl
    rw [e1, ← he]
    exact (List.perm_append_comm.trans (List.filter_append_perm _ _)).symm
def partner (ops : Array Oper) (ps : List (Nat × Nat)) (i : Nat) : List Nat := ps.flatMap fun p => match Nat.beq p.1 i with
 | true => match ops[p.2]? with
  | some o => match isCal o.op with
   | true => []
   | false => opSlots ops o
  | none => []
 | false => match Nat.beq p.2 i with
  | true => match ops[p.1]? with
   | some o => match isCal o.op with
    | true => []
    | false => opSlots ops o
   | none => []
  | false => []
def lentK (ops : Array Oper) (ps : List (Nat × Nat)) (cs : List Rc) (E : ET) : List Nat := match ps with
 | [] => []
 | p :: ps => valIds (partner ops (p :: ps) cs.length) E
def dK2 (o : Oper) (sl : List Nat) (cs : List Rc) (rd : List Nat) (E : ET) (R : IRs) {α : Type} (ih : List Rc → St → (List Rc → St → Option α) → Option α) (k : List Rc → St → Option α) (v : AV) (ef : Bool) (nx' : Nat) (t : List Nat × IRs) : Option α :=
 ih (cs ++ [⟨o.dst, v, sl, rd, t.1, ef, t.2, none⟩]) ⟨putO o.dst v E, match ef with
  | true => t.2 ++ outR t.1 R
  | false => R, nx'⟩ k
def dK (ops : Array Oper) (ps : List (Nat × Nat)) (o : Oper) (cs : List Rc) (rd : List Nat) (E : ET) (R Rl : IRs) (nx : Nat) {α : Type} (ih : List Rc → St → (List Rc → St → Option α) → Option α) (k : List Rc → St → Option α) (x : AV × Bool × IRs × Nat) : Option α :=
 match rcB ops o E Rl nx x.1 x.2.1 x.2.2.1 x.2.2.2 with
 | true => dK2 o (opSlots ops o) cs rd E R ih k x.1 x.2.1 x.2.2.2 (trim (lentK ops ps cs E) rd Rl x.2.2.1)
 | false => none
def dYes2 {α : Type} (P : Program) (F : Orc) (ops : Array Oper) (ps : List (Nat × Nat)) (o : Oper) (ih : List Rc → St → (List Rc → St → Option α) → Option α) (cs : List Rc) (k : List Rc → St → Option α) (E : ET) (R : IRs) (nx : Nat) (rd : List Nat) (Rl : IRs) : Option α :=
 lrunK P F o (opSlots ops o) E Rl nx (dK ops ps o cs rd E R Rl nx ih k)
def frE (n : Int) (es : List (AV × AV)) : Bool := es.all fun e => match e.1 with
 | .lit (.int .i64 m) => !decide (m = n)
 | _ => false
theorem frE_ok {n : Int} {es : List (AV × AV)} (h : frE n es = true) : ∀ e ∈ es, ∃ m, e.1 = .lit (.int .i64 m) ∧ m ≠ n := fun e he => by
  have := List.all_eq_true.1 h e he
  split at this
  · rename_i m hm
    exact ⟨m, hm, by simpa using this⟩
  · cases this
def insOf (P : Program) (ops : Array Oper) (o : Oper) (E : ET) (R : IRs) : Option Ins := match o.op, o.dst with
 | .insert T x y z, none => match P.underlying T, evL (opSlots ops o) E x, evL (opSlots ops o) E y, evL (opSlots ops o) E z with
  | some (.map kt _), some (.own id), some (.lit (.int .i64 n)), some vd => match inR [id] R, P.underlying kt with
   | [(_, .mp es)], some (.int .i64) => match datB vd && frE n es with
    | true => some ⟨id, n, vd⟩
    | false => none
   | _, _ => none
  | _, _, _, _ => none
 | _, _ => none
def dYes {α : Type} (P : Program) (F : Orc) (ops : Array Oper) (ps : List (Nat × Nat)) (o : Oper) (ih : List Rc → St → (List Rc → St → Option α) → Option α) (cs : List Rc) (k : List Rc → St → Option α) (s : St) : Option α :=
 St.rec (fun E R nx => match insOf P ops o E R with
  | some i => ih (cs ++ [⟨o.dst, .lit undef, opSlots ops o, [], [], false, [], some i⟩]) ⟨putO o.dst (.lit undef) E, addE i R, nx⟩ k
  | none => (fun rd => dYes2 P F ops ps o ih cs k E R nx rd (inQ rd R)) (footO ops o E R)) s
def dNo {α : Type} (ops : Array Oper) (o : Oper) (ih : List Rc → St → (List Rc → St → Option α) → Option α) (cs : List Rc) (k : List Rc → St → Option α) (s : St) : Option α :=
 ih (cs ++ [⟨o.dst, .lit undef, opSlots ops o, [], [], false, [], none⟩]) ⟨putO o.dst (.lit undef) s.E, s.R, s.nx⟩ k
def dOne {α : Type} (P : Program) (F : Orc) (n : Nat) (ops : Array Oper) (ps : List (Nat × Nat)) (o : Oper) (ih : List Rc → St → (List Rc → St → Option α) → Option α) (cs : List Rc) (s : St) (k : List Rc → St → Option α) : Option α := match dstOk n o.dst with
 | true => gate ops o s (dYes P F ops ps o ih cs k) (dNo ops o ih cs k)
 | false => none
def dgo {α : Type} (P : Program) (F : Orc) (n : Nat) (ops : Array Oper) (ps : List (Nat × Nat)) (l : List Oper) : List Rc → St → (List Rc → St → Option α) → Option α := List.rec (fun cs s k => k cs s) (fun o _ ih => dOne P F n ops ps o ih) l
def backB (l : List Oper) : Nat → Bool := List.rec (fun _ => true) (fun o _ ih i => (o.after.toList.all fun e => !Region.binds .any e || Nat.blt e.on i) && ih (i + 1)) l
theorem backB_ok : ∀ {l : List Oper} {k : Nat}, backB l k = true → ∀ (i : Nat) o, l[i]? = some o → ∀ e ∈ o.after.toList, Region.binds .any e = true → e.on < k + i
 | [], k, _, i, o, h, _, _, _ => by cases h
 | o0 :: l, k, hb, i, o, h, e, he, hbe => by
  change ((o0.after.toList.all fun e => !Region.binds .any e || Nat.blt e.on k) && backB l (k + 1)) = true at hb
  simp only [Bool.and_eq_true] at hb
  cases i with
  | zero =>
   cases h
   have := List.all_eq_true.1 hb.1 e he
   rw [hbe] at this
   simpa  using this
  | succ i =>
   have := backB_ok hb.2 i o h e he hbe
   omega
def dexec {α : Type} (P : Program) (F : Orc) (n : Nat) (ops : Array Oper) (s : St) (k : St → Option α) : Option α := match P.follows .mixedOrders && backB ops.toList 0 with
 | true => match plan ops with
  | some ps => dgo P F n ops ps ops.toList [] s fun cs s' => match planOk ps cs with
   | true => k s'
   | false => none
  | none => none
 | false => none
def GateS (ops : Array Oper) (o : Oper) (f : Fr) (wn : Bool) : Prop := match o.guard with
  | none => wn = true
  | some (j, want) => ∃ t, (ops[j]?).bind (·.dst) = some t ∧ ((∃ b, f t = some (.lit (.bool b)) ∧ wn = (b == want)) ∨ (∃ vs, f t = some (.lit (.tuple vs)) ∧ wn = false))
structure OpFact (P : Program) (n : Nat) (ops : Array Oper) (o : Oper) (f : Fr) (R : IRs) (nx : Nat) (c : Rc) (nx' : Nat) : Prop where
 dst : c.dst = o.dst
 sl : c.sl = opSlots ops o
 ef : c.ef = true → efk o = true
 dn : dstOk n o.dst = true
 le : nx ≤ nx'
 fi : c.ins ≠ none → efk o = true
 run : (GateS ops o f false ∧ c.v = .lit undef ∧ c.ef = false ∧ c.ins = none) ∨ (∃ s, GateS ops o f true ∧ c.ins = some s ∧ c.v = .lit undef ∧ s.id < nx ∧ Seen s R ∧ ∀ es : List (AV × AV), (∀ e ∈ es, ∃ m, e.1 = .lit (.int .i64 m) ∧ m ≠ s.n) → ∀ ρ C, Ye P ((locE f c.sl).sub ρ) [Res.mp (ρ.v s.id) es] o C (Nlc nx (.lit undef) [(s.id, .mp (insE s.n s.v es))] ρ)) ∨
  (GateS ops o f true ∧ c.ins = none ∧ ∀ ρ C, Ye P ((locE f c.sl).sub ρ) (IRs.res ρ (inR c.rd R)) o C (Nlc nx c.v (match c.ef with | true => c.Lo ++ outR c.wr (inR c.rd R) | false => inR c.rd R) ρ))
 wr : ∀ i ∈ c.wr, i ∈ c.rd
 lin : IRs.Ltd nx (inR c.rd R)
 lv : Ltd nx' c.v
 lo : c.ef = true → IRs.Ltd nx' c.Lo
 ids : ∀ p : Nat → Prop, (∀ t ∈ c.sl, ∀ d, f t = some d → Lts p d) → IRs.Lts p (inR c.rd R) → Lts (fun i => p i ∨ (nx ≤ i ∧ i < nx')) c.v ∧ (c.ef = true → IRs.Lts (fun i => p i ∨ (nx ≤ i ∧ i < nx')) c.Lo)
inductive Ch (P : Program) (n : Nat) (ops : Array Oper) : Fr → IRs → Nat → List Oper → List Rc → Fr → IRs → Nat → Prop
 | nil (f : Fr) (R : IRs) (nx : Nat) : Ch P n ops f R nx [] [] f R nx
 | cons {f f' : Fr} {R R' : IRs} {nx nx1 nx' : Nat} {o : Oper} {os : List Oper} {c : Rc} {cs : List Rc} (h : OpFact P n ops o f R nx c nx1) (hs : Ch P n ops (c.F f) (c.R R) nx1 os cs f' R' nx') : Ch P n ops f R nx (o :: os) (c :: cs) f' R' nx'
theorem gate_S {α : Type} {r : α} {ops : Array Oper} {o : Oper} {s : St} {yes no : St → Option α} (h : gate ops o s yes no = some r) {f : Fr} (hf : ∀ t d, eget s.E t = some d → f t = some d) : ∃ s' : St, s'.R = s.R ∧ s'.nx = s.nx ∧ (∀ t d, eget s'.E t = some d → f t = some d) ∧
    ((GateS ops o f true ∧ yes s' = some r) ∨ (GateS ops o f false ∧ no s' = some r)) := by
  unfold gate at h
  unfold GateS
  split at h
  · rename_i hg
    exact ⟨s, rfl, rfl, hf, .inl ⟨by first | rw [hg] | rfl, h⟩⟩
  · rename_i j want hg
    split at h
    · cases h
    · rename_i t hj
      have hput : ∀ b, eget s.E t = some (.lit (.bool b)) → ∀ k d, eget (s.putB t b).E k = some d → f k = some d := fun b hb k d hk => by
        have hk' : eget (eput t (.b b) s.E) k = some d := hk
        rcases eput_get hk' with ⟨rfl, rfl⟩ | ⟨_, h2⟩
        · simp_all
        · simp_all
      split at h
      · rename_i b hb
        have hfb := hf _ _ hb
        split at h
        · split at h
          · exact ⟨s.putB t true, rfl, rfl, hput _ hb, .inl ⟨by (try rw [hg]); exact ⟨t, hj, .inl ⟨_, hfb, rfl⟩⟩, h⟩⟩
          · exact ⟨s.putB t true, rfl, rfl, hput _ hb, .inr ⟨by (try rw [hg]); exact ⟨t, hj, .inl ⟨_, hfb, rfl⟩⟩, h⟩⟩
        · split at h
          · exact ⟨s.putB t false, rfl, rfl, hput _ hb, .inr ⟨by (try rw [hg]); exact ⟨t, hj, .inl ⟨_, hfb, rfl⟩⟩, h⟩⟩
          · exact ⟨s.putB t false, rfl, rfl, hput _ hb, .inl ⟨by (try rw [hg]); exact ⟨t, hj, .inl ⟨_, hfb, rfl⟩⟩, h⟩⟩
      · rename_i vs hb
        exact ⟨s, rfl, rfl, hf, .inr ⟨by (try rw [hg]); exact ⟨t, hj, .inr ⟨_, hf _ _ hb, rfl⟩⟩, h⟩⟩
      · cases h
theorem putO_F {dst : Option Nat} {v : AV} {E : ET} {f : Fr} {c : Rc} (hc : c.dst = dst) (hv : c.v = v) (hf : ∀ t d, eget E t = some d → f t = some d) : ∀ t d, eget (putO dst v E) t = some d → c.F f t = some d := fun t d h => by
  unfold Rc.F
  rw [hc, hv]
  cases dst with
  | none => simpa using hf t d h
  | some s =>
    rcases eput_get h with ⟨rfl, rfl⟩ | ⟨h1, h2⟩
    · simp
    · rw [if_neg (fun e => h1 (Option.some.inj e))]
      simp_all
theorem Ye.mono {P : Program} {C : Cx} {E : Env} {σ : List Res} {o : Oper} {N N' : Option AV → List Res → Prop} (h : Ye P E σ o C N) (hN : ∀ a σ', N a σ' → N' a σ') : Ye P E σ o C N' := fun w ϱ hg hρ => by
  rcases h w ϱ hg hρ with ⟨v, w', av, σ', h1, h2, h3⟩ | ⟨w', σ', h1, h2, h3⟩ | ⟨f, args, h1, h2⟩
  · exact .inl ⟨v, w', av, σ', hN _ _ h1, h2, h3⟩
  · exact .inr (.inl ⟨w', σ', hN _ _ h1, h2, h3⟩)
  · exact .inr (.inr ⟨f, args, h1, Calls.mono h2 fun e w' ⟨v, av, σ', q1, q2, q3⟩ => ⟨v, av, σ', q1, hN _ _ q2, q3⟩⟩)
theorem addE_ltd {s : Ins} {R : IRs} {n : Nat} (h : IRs.Ltd n R) : IRs.Ltd n (addE s R) := fun q hq => by
  obtain ⟨q0, h0, rfl⟩ := List.mem_map.1 hq
  have h1 := h q0 h0
  unfold addQ
  split
  · split
    · exact ⟨h1.1, trivial⟩
    · exact h1
  · exact h1
theorem insOf_ok {P : Program} {ops : Array Oper} {o : Oper} {E : ET} {R : IRs} {nx : Nat} {f : Fr} {s : Ins} (h : insOf P ops o E R = some s) (hf : ∀ t d, eget E t = some d → f t = some d) (hfl : ∀ t d, f t = some d → Ltd nx d) (hR : IRs.Ltd nx R) :
    o.dst = none ∧ efk o = true ∧ s.id < nx ∧ Seen s R ∧ ∀ es : List (AV × AV), (∀ e ∈ es, ∃ m, e.1 = .lit (.int .i64 m) ∧ m ≠ s.n) → ∀ ρ C, Ye P ((locE f (opSlots ops o)).sub ρ) [Res.mp (ρ.v s.id) es] o C (Nlc nx (.lit undef) [(s.id, .mp (insE s.n s.v es))] ρ) := by
  unfold insOf at h
  split at h
  case h_2 => cases h
  rename_i T x y z hop hdst
  split at h
  case h_2 => cases h
  rename_i kt et id n vd hT hx hy hz
  split at h
  case h_2 => cases h
  rename_i j es0 hin hkt
  split at h
  case h_2 => cases h
  rename_i hc
  rw [Bool.and_eq_true] at hc
  cases h
  have hj : j = id := in_one (q := (j, .mp es0)) (by rw [hin]; exact List.mem_singleton.2 rfl)
  subst hj
  have hmem : (j, IR.mp es0) ∈ R := (List.mem_filter.1 (show _ ∈ inR [j] R by rw [hin]; exact List.mem_singleton.2 rfl)).1
  have hlt : j < nx := (hR _ hmem).1
  refine ⟨hdst, by unfold efk; rw [hop], hlt, ⟨es0, hin, frE_ok hc.2⟩, fun es hes ρ C => ?_⟩
  have hev : ∀ u d, evL (opSlots ops o) E u = some d → (locE f (opSlots ops o)).ev u = some d := fun u d hu => by
    cases u with
    | tmp t =>
      unfold evL at hu
      simp only at hu
      split at hu
      · rename_i hm; exact locE_of (memB_iff.1 hm) (hf t d hu)
      · cases hu
    | _ => exact hu
  have hsee : See (evL (opSlots ops o) E) (rget [(j, .mp es)]) nx (locE f (opSlots ops o)) [(j, .mp es)] := ⟨hev, fun _ _ h => h, fun q hq => by
    obtain ⟨t, _, ht⟩ := List.mem_filterMap.1 hq
    obtain ⟨d, hd1, hd2⟩ := Option.map_eq_some_iff.1 ht
    rw [← hd2]
    exact hfl t d hd1, fun q hq => by
    rw [List.mem_singleton.1 hq]
    exact ⟨hlt, trivial⟩⟩
  have hr : rget [(j, IR.mp es)] j = some (.mp es) := by rw [rget_cons, Nat.beq_refl]
  have := ins_ye (K := fun e : Eff => some e) (es' := insE n vd es) hsee (.inr hop) hT hx hy hz hr (by unfold keyC; rw [hkt]) rfl hc.1 (fun e he => by
    obtain ⟨m, h1, h2⟩ := hes e he
    unfold keyEq eqCell
    rw [hkt, h1]
    simp only [if_true]
    rw [Option.some.injEq]
    exact decide_eq_false fun e => h2 e.symm) (insE_perm n vd es).symm rfl ρ C
  refine Ye.mono this fun a σ' ⟨e, q1, q2, q3, q4, ρ', q5, q6, q7⟩ => ?_
  cases q1
  refine ⟨ρ', q5, .inr ⟨q6, rfl⟩, ?_⟩
  have e1 : Eff.R [(j, IR.mp es)] nx (.set j (.mp (insE n vd es))) = [(j, .mp (insE n vd es))] := by
    show rset j _ [(j, IR.mp es)] = _
    rw [rset_cons, Nat.beq_refl]
  rw [e1] at q7
  exact q7
theorem dgo_ok {α : Type} {r : α} {P : Program} {F : Orc} {n : Nat} {ops : Array Oper} {ps : List (Nat × Nat)} (hF : OrcOk P F) (hN : OrcNat F) {k : List Rc → St → Option α} : ∀ (l : List Oper) {cs : List Rc} {s : St} {f : Fr}, dgo P F n ops ps l cs s k = some r → (∀ t d, eget s.E t = some d → f t = some d) → (∀ t d, f t = some d → Ltd s.nx d) → IRs.Ltd s.nx s.R →
    ∃ (cs' : List Rc) (s' : St) (f' : Fr), k (cs ++ cs') s' = some r ∧ Ch P n ops f s.R s.nx l cs' f' s'.R s'.nx ∧ (∀ t d, eget s'.E t = some d → f' t = some d)
  | [], cs, s, f, h, hf, _, _ => ⟨[], s, f, by rw [List.append_nil]; exact h, .nil f s.R s.nx, hf⟩
  | o :: l, cs, s, f, h, hf, hfl, hR => by
    change dOne P F n ops ps o (dgo P F n ops ps l) cs s k = some r at h
    unfold dOne at h
    split at h
    case h_2 => cases h
    rename_i hd
    obtain ⟨s1, e1, e2, hf1, ⟨hg, h1⟩ | ⟨hg, h1⟩⟩ := gate_S h hf
    · obtain ⟨E, R, nx⟩ := s1
      obtain ⟨E0, R0, nx0⟩ := s
      simp only at e1 e2 hf1
      subst e1 e2
      change (match insOf P ops o E R with
        | some i => dgo P F n ops ps l (cs ++ [⟨o.dst, .lit undef, opSlots ops o, [], [], false, [], some i⟩]) ⟨putO o.dst (.lit undef) E, addE i R, nx⟩ k
        | none => lrunK P F o (opSlots ops o) E (inQ (footO ops o E R) R) nx (dK ops ps o cs (footO ops o E R) E R (inQ (footO ops o E R) R) nx (dgo P F n ops ps l) k)) = some r at h1
      cases hins : insOf P ops o E R with
      | some i =>
        rw [hins] at h1
        dsimp only at h1
        obtain ⟨z0, z1, z2, z3, z4⟩ := insOf_ok hins hf1 hfl hR
        have hfact : OpFact P n ops o f R nx ⟨o.dst, .lit undef, opSlots ops o, [], [], false, [], some i⟩ nx := ⟨rfl, rfl, fun h => (by cases h), hd, Nat.le_refl _, fun _ => z1, .inr (.inl ⟨i, hg, rfl, rfl, z2, z3, z4⟩), fun _ h => (by cases h), fun q hq => hR q (List.mem_filter.1 hq).1, .lit _, fun h => (by cases h), fun p _ _ => ⟨.lit _, fun h => (by cases h)⟩⟩
        obtain ⟨cs', s', f', q1, q2, q3⟩ := dgo_ok hF hN l (f := Rc.F ⟨o.dst, .lit undef, opSlots ops o, [], [], false, [], some i⟩ f) h1 (putO_F rfl rfl hf1) (fun t d hdd => by
          unfold Rc.F at hdd
          split at hdd
          · cases hdd; exact .lit _
          · exact hfl t d hdd) (addE_ltd hR)
        exact ⟨_ :: cs', s', f', by simpa using q1, .cons hfact q2, q3⟩
      | none =>
      rw [hins] at h1
      dsimp only at h1
      rw [← lrun_nat hN] at h1
      generalize hrd : footO ops o E R = rd at h1
      obtain ⟨⟨v, ef, Lo, nx'⟩, h2, h3⟩ := Option.bind_eq_some_iff.1 h1
      unfold dK at h3
      split at h3
      case h_2 => cases h3
      rename_i hb
      rw [inQ_eq] at h2 hb
      simp only at h3 hb
      unfold rcB at hb
      simp only [Bool.and_eq_true, Nat.ble_eq, Bool.or_eq_true] at hb
      obtain ⟨⟨⟨hb1, hb2⟩, hb3⟩, hb4⟩ := hb
      have hin : IRs.Ltd nx (inR rd R) := fun q hq => hR q (List.mem_filter.1 hq).1
      have hlE : (locE f (opSlots ops o)).Ltd nx := fun q hq => by
        obtain ⟨t, _, ht⟩ := List.mem_filterMap.1 hq
        obtain ⟨d, hd1, hd2⟩ := Option.map_eq_some_iff.1 ht
        rw [← hd2]
        exact hfl t d hd1
      obtain ⟨y1, y2⟩ := lrun_ok hF h2 (E := locE f (opSlots ops o)) (fun t ht d hdd => locE_of ht (hf1 t d hdd)) hlE hin
      have hal : ∀ p : Nat → Prop, (∀ t ∈ opSlots ops o, ∀ d, f t = some d → Lts p d) → IRs.Lts p (inR rd R) → ∀ i ∈ valIds (opSlots ops o) E ++ resIds (inR rd R), p i := fun p hp1 hp2 i hi => by
        rcases List.mem_append.1 hi with hi | hi
        · obtain ⟨t, ht, hi⟩ := List.mem_flatMap.1 hi
          split at hi
          · rename_i d hdd; exact idsN_ok 3 (hp1 t ht d (hf1 t d hdd)) i hi
          · cases hi
        · obtain ⟨q, hq, hi⟩ := List.mem_flatMap.1 hi
          obtain ⟨g1, g2⟩ := hp2 q hq
          rcases List.mem_cons.1 hi with rfl | hi
          · exact g1
          · obtain ⟨j, rr⟩ := q
            cases rr with
            | row t l => cases hi
            | mp es => cases hi
            | box T cs =>
              obtain ⟨c, hc, hi⟩ := List.mem_flatMap.1 hi
              exact idsN_ok 3 (g2 c hc) i hi
      obtain ⟨t1, t2, t3⟩ := trim_ok (lentK ops ps cs E) rd R Lo
      rw [inQ_eq] at h3
      generalize trim (lentK ops ps cs E) rd (inR rd R) Lo = tr at h3 t1 t2 t3
      obtain ⟨wr, Lo'⟩ := tr
      have hids : ∀ p : Nat → Prop, (∀ t ∈ opSlots ops o, ∀ d, f t = some d → Lts p d) → IRs.Lts p (inR rd R) → Lts (fun i => p i ∨ (nx ≤ i ∧ i < nx')) v ∧ (ef = true → IRs.Lts (fun i => p i ∨ (nx ≤ i ∧ i < nx')) Lo') := fun p hp1 hp2 =>
        ⟨(idsC_ok 4 hb3).mono fun i hi => (okId_ok hi).imp (hal p hp1 hp2 i) id, fun he q hq => ((okR_ok (hb4.resolve_left (by rw [he]; simp))).mono fun i hi => hi.imp (hal p hp1 hp2 i) id) q (t2 q hq)⟩
      obtain ⟨g1, g2⟩ := hids (fun i => i < nx) (fun t _ d hdd => hfl t d hdd) hin.lts
      have hlt : ∀ i, (i < nx ∨ (nx ≤ i ∧ i < nx')) → i < nx' := fun i hi => by omega
      have hfact : OpFact P n ops o f R nx ⟨o.dst, v, opSlots ops o, rd, wr, ef, Lo', none⟩ nx' := ⟨rfl, rfl, fun he => hb2.resolve_left (by simp only at he; rw [he]; simp), hd, hb1, fun h => absurd rfl h, .inr (.inr ⟨hg, rfl, fun ρ C => by
          cases ef with
          | true => exact Ye.mono (y1 ρ C) fun a σ' ⟨ρ', z1, z2, z3⟩ => ⟨ρ', z1, z2, z3.trans (res_perm t3)⟩
          | false => exact y2 rfl ρ C⟩), t1, hin, g1.mono hlt, fun he => (IRs.Lts.mono (g2 he) hlt).ltd, hids⟩
      have hR' : IRs.Ltd nx' (Rc.R ⟨o.dst, v, opSlots ops o, rd, wr, ef, Lo', none⟩ R) := by
        cases ef with
        | false => exact hR.mono hb1
        | true => exact fun q hq => (List.mem_append.1 hq).elim (fun hq => ((IRs.Lts.mono (g2 rfl) hlt).ltd) q hq) fun hq => (hR.mono hb1) q (List.mem_filter.1 hq).1
      have h4 : dgo P F n ops ps l (cs ++ [⟨o.dst, v, opSlots ops o, rd, wr, ef, Lo', none⟩]) ⟨putO o.dst v E, Rc.R ⟨o.dst, v, opSlots ops o, rd, wr, ef, Lo', none⟩ R, nx'⟩ k = some r := h3
      obtain ⟨cs', s', f', q1, q2, q3⟩ := dgo_ok hF hN l (f := Rc.F ⟨o.dst, v, opSlots ops o, rd, wr, ef, Lo', none⟩ f) h4 (putO_F rfl rfl hf1) (fun t d hdd => by
        unfold Rc.F at hdd
        split at hdd
        · cases hdd; exact g1.mono hlt
        · exact Ltd.mono (hfl t d hdd) hb1) hR'
      exact ⟨_ :: cs', s', f', by simpa using q1, .cons hfact q2, q3⟩
    · obtain ⟨E, R, nx⟩ := s1
      obtain ⟨E0, R0, nx0⟩ := s
      subst e1 e2
      have hin : IRs.Ltd nx (inR [] R) := fun q hq => hR q (List.mem_filter.1 hq).1
      have hfact : OpFact P n ops o f R nx ⟨o.dst, .lit undef, opSlots ops o, [], [], false, [], none⟩ nx := ⟨rfl, rfl, fun h => (by cases h), hd, Nat.le_refl _, fun h => absurd rfl h, .inl ⟨hg, rfl, rfl, rfl⟩, fun _ h => (by cases h), hin, .lit _, fun h => (by cases h), fun p _ _ => ⟨.lit _, fun h => (by cases h)⟩⟩
      have h2 : dgo P F n ops ps l (cs ++ [⟨o.dst, .lit undef, opSlots ops o, [], [], false, [], none⟩]) ⟨putO o.dst (.lit undef) E, R, nx⟩ k = some r := h1
      obtain ⟨cs', s', f', q1, q2, q3⟩ := dgo_ok hF hN l (f := Rc.F ⟨o.dst, .lit undef, opSlots ops o, [], [], false, [], none⟩ f) h2 (putO_F rfl rfl hf1) (fun t d hdd => by
        unfold Rc.F at hdd
        split at hdd
        · cases hdd; exact .lit _
        · exact hfl t d hdd) hR
      exact ⟨_ :: cs', s', f', by simpa using q1, .cons hfact q2, q3⟩
section
variable {P : Program} {n : Nat} {ops : Array Oper}
theorem Ch.idx {f f' : Fr} {R R' : IRs} {nx nx' : Nat} {os : List Oper} {cs : List Rc} (h : Ch P n ops f R nx os cs f' R' nx') : cs.length = os.length ∧ f' = runF cs (List.replicate cs.length true) f ∧ R' = runR cs (List.replicate cs.length true) R ∧
    ∃ g : Nat → Nat, g 0 = nx ∧ g os.length = nx' ∧ (∀ i, i < os.length → g i ≤ g (i + 1)) ∧ ∀ (i : Nat) o c, os[i]? = some o → cs[i]? = some c → OpFact P n ops o (runF (cs.take i) (List.replicate i true) f) (runR (cs.take i) (List.replicate i true) R) (g i) c (g (i + 1)) := by
  induction h with
  | nil f R nx => exact ⟨rfl, rfl, rfl, fun _ => nx, rfl, rfl, fun i hi => by simp at hi, fun i o c h => by cases h⟩
  | @cons f f' R R' nx nx1 nx' o os c cs h hs ih =>
    obtain ⟨h1, h2, h3, g, g0, g1, g2, g3⟩ := ih
    refine ⟨by simp [h1], by rw [h2]; rfl, by rw [h3]; rfl, fun i => match i with | 0 => nx | i + 1 => g i, rfl, g1, fun i hi => ?_, fun i o' c' q1 q2 => ?_⟩
    · cases i with
      | zero => show nx ≤ g 0; rw [g0]; exact h.le
      | succ i => exact g2 i (by simpa using hi)
    · cases i with
      | zero => cases q1; cases q2; show OpFact P n ops o f R nx c (g 0); rw [g0]; exact h
      | succ i => exact g3 i o' c' q1 q2
theorem mono_g {g : Nat → Nat} {N : Nat} (h : ∀ i, i < N → g i ≤ g (i + 1)) : ∀ i j, i ≤ j → j ≤ N → g i ≤ g j := fun i j hij hj => by
  induction j with
  | zero => have : i = 0 := by omega
            subst this; exact Nat.le_refl _
  | succ j ih =>
    grind
def cntF : List Bool → Nat
 | [] => 0
 | b :: bs => (match b with | true => 0 | false => 1) + cntF bs
theorem cntF_set : ∀ {bs : List Bool} {i : Nat}, bs[i]? = some false → cntF bs = cntF (bs.set i true) + 1
 | [], _, h => by cases h
 | b :: bs, 0, h => by
  simp only [List.getElem?_cons_zero, Option.some.injEq] at h
  subst h
  show 1 + cntF bs = (0 + cntF bs) + 1
  omega
 | b :: bs, i + 1, h => by
  have := cntF_set (bs := bs) (i := i) (by simpa using h)
  cases b with
  | true =>
   show 0 + cntF bs = (0 + cntF (bs.set i true)) + 1
   omega
  | false =>
   show 1 + cntF bs = (1 + cntF (bs.set i true)) + 1
   omega
theorem cntF_rep : ∀ N : Nat, cntF (List.replicate N false) = N
 | 0 => rfl
 | N + 1 => by rw [List.replicate_succ]; show 1 + cntF (List.replicate N false) = N + 1; rw [cntF_rep N]; omega
theorem cntF_zero : ∀ {bs : List Bool}, cntF bs = 0 → bs = List.replicate bs.length true
 | [], _ => rfl
 | b :: bs, h => by
  cases b with
  | true => rw [List.length_cons, List.replicate_succ, ← cntF_zero (bs := bs) (by have : 0 + cntF bs = 0 := h; omega)]
  | false => have : 1 + cntF bs = 0 := h; omega
theorem cntF_pos : ∀ {bs : List Bool}, cntF bs ≠ 0 → ∃ i : Nat, bs[i]? = some false ∧ ∀ j, j < i → bs[j]? = some true
 | [], h => absurd rfl h
 | b :: bs, h => by
  cases b with
  | false => exact ⟨0, rfl, fun j hj => by omega⟩
  | true =>
   obtain ⟨i, h1, h2⟩ := cntF_pos (bs := bs) (fun e => h (by show 0 + cntF bs = 0; omega))
   refine ⟨i + 1, h1, fun j hj => ?_⟩
   cases j with
   | zero => rfl
   | succ j => exact h2 j (by omega)
theorem mem_ready {listed : Array Bool} {i : Nat} : i ∈ Region.ready .any ops listed ↔ i < ops.size ∧ listed.getD i true = false ∧ ∃ o, ops[i]? = some o ∧ ∀ e ∈ o.after.toList, Region.binds .any e = true → listed.getD e.on false = true := by
  unfold Region.ready
  simp only [List.mem_filter, List.mem_range, Bool.and_eq_true, Bool.not_eq_true']
  refine and_congr_right fun hi => and_congr_right fun _ => ?_
  rw [Array.getElem?_eq_getElem hi]
  simp only [Option.map_some, Option.getD_some, Option.some.injEq, exists_eq_left']
  rw [Array.all_eq_true']
  constructor
  · intro h e he hb
    have := h e (by simpa using he)
    rw [hb] at this
    assumption
  · intro h e he
    cases hb : Region.binds .any e with
    | false => rfl
    | true => simpa using h e (by simpa using he) hb
theorem getD_true {listed : Array Bool} {i : Nat} (hi : i < listed.size) : listed.getD i true = false ↔ listed.toList[i]? = some false := by
 rw [Array.getD_eq_getD_getElem?, Array.getElem?_eq_getElem hi, List.getElem?_eq_getElem (by simpa using hi)]
 simp
theorem getD_false {listed : Array Bool} {i : Nat} : listed.getD i false = true ↔ listed.toList[i]? = some true := by
 cases h : listed[i]? with
 | none => simp [h]
 | some b => simp [h]
theorem any_ok {C : Cg} {cs : List Rc} {f0 : Fr} {R0 : IRs} {nx0 : Nat} {g : Nat → Nat} {ds : List Deferred} {Q : Exit → Act → World → Prop}
    (hlen : cs.length = ops.size) (g0 : g 0 = nx0) (gn : C.n ≤ nx0) (g2 : ∀ i, i < ops.size → g i ≤ g (i + 1)) (hf : ∀ (i : Nat) o c, ops.toList[i]? = some o → cs[i]? = some c → OpFact P n ops o (runF (cs.take i) (List.replicate i true) f0) (runR (cs.take i) (List.replicate i true) R0) (g i) c (g (i + 1)))
    (hcf : ∀ (i j : Nat) (c d : Rc), j < i → cs[j]? = some c → cs[i]? = some d → CF c d ∨ ∀ bs, Closed ops.toList bs → (∀ o, ops.toList[i]? = some o → Rdy bs o) → bs[j]? = some true)
    (hback : ∀ (i : Nat) o, ops.toList[i]? = some o → ∀ e ∈ o.after.toList, Region.binds .any e = true → e.on < i)
    (hQ : ∀ a w, a.defers = ds → MtS C n (fun i => i < g ops.size) (runF cs (List.replicate cs.length true) f0) (runR cs (List.replicate cs.length true) R0) a w → Q .normal a w) :
    ∀ (fuel : Nat) (listed : Array Bool) (a : Act) (w : World), listed.size = ops.size → cntF listed.toList = fuel → Closed ops.toList listed.toList → a.defers = ds →
      MtS C n (fun x => x < nx0 ∨ ∃ j : Nat, listed.toList[j]? = some true ∧ g j ≤ x ∧ x < g (j + 1)) (runF cs listed.toList f0) (runR cs listed.toList R0) a w → wpAny P .any ops Q fuel listed a w := by
  have hmono := mono_g (N := ops.size) (g := g) g2
  intro fuel
  induction fuel with
  | zero =>
    intro listed a w hs hc hcl hda hm
    have hall := cntF_zero hc
    have hfin : Q .normal a w := by
      refine hQ a w hda ?_
      rw [hall, show listed.toList.length = cs.length from by rw [hlen, ← hs]; simp] at hm
      obtain ⟨E, ρ, q1, q2, q3, q5, q4⟩ := hm
      have hle : ∀ i, (i < nx0 ∨ ∃ j : Nat, (List.replicate cs.length true)[j]? = some true ∧ g j ≤ i ∧ i < g (j + 1)) → i < g ops.size := fun i hi => by
        rcases hi with hi | ⟨j, hj, _, hj3⟩
        · have := hmono 0 ops.size (Nat.zero_le _) (Nat.le_refl _); omega
        · have hj' : j < cs.length := by simpa using (List.getElem?_eq_some_iff.1 hj).1
          have := hmono (j + 1) ops.size (by omega) (Nat.le_refl _); omega
      exact ⟨E, ρ, q1, fun q hq => (q2 q hq).mono hle, q3.mono hle, q5, q4⟩
    refine ⟨?_, hfin⟩
    rw [List.eq_nil_iff_forall_not_mem]
    intro i hi
    obtain ⟨h1, h2, _⟩ := mem_ready.1 hi
    rw [getD_true (by omega), hall, List.getElem?_replicate] at h2
    split at h2 <;> cases h2
  | succ fuel ih =>
    intro listed a w hs hc hcl hda hm
    refine ⟨fun hr => ?_, fun i hi => ?_⟩
    ·
      exfalso
      obtain ⟨i, h1, h2⟩ := cntF_pos (bs := listed.toList) (by omega)
      have hil : i < listed.size := by simpa using (List.getElem?_eq_some_iff.1 h1).1
      have hio : i < ops.size := by omega
      have : i ∈ Region.ready .any ops listed := mem_ready.2 ⟨hio, (getD_true hil).2 h1, ops[i], Array.getElem?_eq_getElem hio, fun e he hb => getD_false.2 (h2 _ (hback i ops[i] (by simp [hio]) e he hb))⟩
      simp_all
    · obtain ⟨hio, h2, o, ho, hrd⟩ := mem_ready.1 hi
      have hil : i < listed.size := by omega
      have hbi := (getD_true hil).1 h2
      have hol : ops.toList[i]? = some o := by simpa using ho
      have hRdy : Rdy listed.toList o := fun e he hb => getD_false.1 (hrd e he hb)
      obtain ⟨c, hci⟩ : ∃ c, cs[i]? = some c := ⟨_, List.getElem?_eq_getElem (by omega)⟩
      have fact := hf i o c hol hci
      obtain ⟨s1, s2, s3, s4, s5⟩ := step_sel (cs := cs) (bs := listed.toList) (i := i) (c := c) f0 R0 (by rw [hlen, ← hs]; simp) hci hbi
        (fun j d hji hd hbj => (hcf i j d c hji hd hci).resolve_right fun h => by
          have := h listed.toList hcl (fun o' ho' => by rw [hol] at ho'; cases ho'; exact hRdy)
          rw [hbj] at this; cases this)
        (fun j d hij hd hbj => ((hcf j i c d hij hci hd).resolve_right fun h => by
          have hjo : j < ops.size := by have := (List.getElem?_eq_some_iff.1 hd).1; omega
          have := h listed.toList hcl (fun o' ho' => hcl j o' ho' hbj)
          rw [hbi] at this; cases this).symm)
      have eset : (listed.setIfInBounds i true).toList = listed.toList.set i true := Array.toList_setIfInBounds ..
      have hcl' : Closed ops.toList (listed.toList.set i true) := fun j o' ho' hbj e he hb => by
        have hmono' : ∀ k, listed.toList[k]? = some true → (listed.toList.set i true)[k]? = some true := fun k hk => by
          rw [List.getElem?_set]
          split
          · rename_i hik; rw [if_pos (by simpa using hil)]
          · exact hk
        by_cases hij : i = j
        · subst hij
          rw [hol] at ho'
          cases ho'
          exact hmono' _ (hRdy e he hb)
        · rw [List.getElem?_set_ne hij] at hbj
          exact hmono' _ (hcl j o' ho' hbj e he hb)
      have hpn : ∀ x, (x < nx0 ∨ ∃ j : Nat, listed.toList[j]? = some true ∧ g j ≤ x ∧ x < g (j + 1)) → ¬ (g i ≤ x ∧ x < g (i + 1)) := fun x hx hr => by
        rcases hx with hx | ⟨j, hj, hj2, hj3⟩
        · have := hmono 0 i (Nat.zero_le _) (by omega); omega
        · have hne : j ≠ i := fun e => by rw [e, hbi] at hj; cases hj
          have hjl : j < ops.size := by
            have : j < listed.toList.length := (List.getElem?_eq_some_iff.1 hj).1
            have h3 : listed.toList.length = listed.size := by simp
            omega
          by_cases hlt : j < i
          · have := hmono (j + 1) i (by omega) (by omega); omega
          · have := hmono (i + 1) j (by omega) (by omega); omega
      have hweak : ∀ x, ((x < nx0 ∨ ∃ j : Nat, listed.toList[j]? = some true ∧ g j ≤ x ∧ x < g (j + 1)) ∨ (g i ≤ x ∧ x < g (i + 1))) → (x < nx0 ∨ ∃ j : Nat, (listed.toList.set i true)[j]? = some true ∧ g j ≤ x ∧ x < g (j + 1)) := fun x hx => by
        rcases hx with (hx | ⟨j, hj, hj2⟩) | hx
        · exact .inl hx
        · refine .inr ⟨j, ?_, hj2⟩
          rw [List.getElem?_set]
          split
          · rw [if_pos (by simpa using hil)]
          · exact hj
        · refine .inr ⟨i, ?_, hx⟩
          rw [List.getElem?_set_self (by simpa using hil)]
      have cont : ∀ a' w', a'.defers = ds → MtS C n (fun x => (x < nx0 ∨ ∃ j : Nat, listed.toList[j]? = some true ∧ g j ≤ x ∧ x < g (j + 1)) ∨ (g i ≤ x ∧ x < g (i + 1))) (c.F (runF cs listed.toList f0)) (c.R (runR cs listed.toList R0)) a' w' → wpAny P .any ops Q fuel (listed.setIfInBounds i true) a' w' := fun a' w' hda' hm' => by
        refine ih (listed.setIfInBounds i true) a' w' (by simp [hs]) ?_ (by rw [eset]; exact hcl') hda' ?_
        · rw [eset]
          have := cntF_set hbi
          omega
        · rw [eset, ← s3]
          obtain ⟨E, ρ, q1, q2, q3, q5, q4⟩ := hm'.perm s4
          exact ⟨E, ρ, q1, fun q hq => (q2 q hq).mono hweak, q3.mono hweak, q5, q4⟩
      have hgate : ∀ wn, GateS ops o (runF (cs.take i) (List.replicate i true) f0) wn → Region.wanted o (yielded ops a.tmps) = wn := fun wn hg => by
        unfold GateS at hg
        cases hgd : o.guard with
        | none =>
          rw [hgd] at hg
          simp only at hg
          rw [hg]
          unfold Region.wanted
          rw [hgd]
        | some jw =>
          obtain ⟨j, want⟩ := jw
          rw [hgd] at hg
          obtain ⟨t, hj, hg⟩ := hg
          have hts : t ∈ c.sl := by
            rw [fact.sl]
            unfold opSlots gslot
            rw [hgd]
            simp only [hj]
            exact List.mem_append_right _ (List.mem_singleton.2 rfl)
          obtain ⟨E, ρ, q1, _, _, _, q4⟩ := hm
          obtain ⟨w1, w2⟩ := wants_sub (ρ := ρ) hgd hj (E := E)
          rcases hg with ⟨b, hb, hw⟩ | ⟨vs, hb, hw⟩
          · rw [hw]
            exact Wants.spec q4.slots (w1 b (q1 _ _ (by rw [s1 t hts]; exact hb)))
          · rw [hw]
            exact Wants.spec q4.slots (w2 vs (q1 _ _ (by rw [s1 t hts]; exact hb)))
      unfold wpOp
      simp only [ho]
      rcases fact.run with ⟨hg, hv, hef, hci0⟩ | ⟨si, hg, hci0, hv, hlt, hseen, hy⟩ | ⟨hg, hci0, hy⟩
      · rw [if_neg (by rw [hgate _ hg]; exact Bool.false_ne_true)]
        obtain ⟨E, ρ, q1, q2, q3, q5, q4⟩ := hm
        have hR : c.R (runR cs listed.toList R0) = runR cs listed.toList R0 := by unfold Rc.R; rw [hci0, hef]
        refine cont _ _ (by rw [← hda]; cases o.dst <;> rfl) ?_
        rw [hR]
        cases hdo : o.dst with
        | none => exact ⟨E, ρ, fun t d ht => q1 t d (by unfold Rc.F at ht; rw [fact.dst, hdo] at ht; simpa using ht), fun q hq => (q2 q hq).mono fun _ h => .inl h, q3.mono fun _ h => .inl h, q5, q4⟩
        | some t =>
          refine ⟨(t, .lit undef) :: E, ρ, fun s d hsd => ?_, fun q hq => ?_, q3.mono fun _ h => .inl h, q5, ?_⟩
          · unfold Rc.F at hsd
            rw [fact.dst, hdo, hv] at hsd
            by_cases hts : t = s
            · subst hts
              rw [if_pos rfl] at hsd
              cases hsd
              exact Env.get_hit _ _ _
            · rw [if_neg (fun e => hts (Option.some.inj e))] at hsd
              rw [Env.get_miss _ _ hts]
              exact q1 s d hsd
          · rcases List.mem_cons.1 hq with rfl | hq
            · exact .lit _
            · exact (q2 q hq).mono fun _ h => .inl h
          · have hdn := fact.dn
            rw [hdo] at hdn
            have := q4.put (av := .lit undef) (v := undef) hdn (.lit _)
            show Sim C.C n ((t, AVq.sub ρ (.lit undef)) :: E.sub ρ) _ _ _
            rw [sub_lit]
            exact this
      · rw [if_pos (hgate _ hg)]
        refine .inl ?_
        have hle : locE (runF cs listed.toList f0) c.sl = locE (runF (cs.take i) (List.replicate i true) f0) c.sl := locE_congr s1
        obtain ⟨es, e1, e2⟩ := s5 si hci0 hseen
        obtain ⟨E, ρ, q1, q2, q3, q5, q4⟩ := hm
        have hmem : (si.id, IR.mp es) ∈ runR cs listed.toList R0 := (List.mem_filter.1 (show _ ∈ inR [si.id] _ by rw [e1]; exact List.mem_singleton.2 rfl)).1
        have hgi : g i ≤ g (i + 1) := g2 i hio
        have eo : outR [si.id] [(si.id, IR.mp es)] = [] := by simp [outR, memB]
        have hRR : List.Perm (Rc.R ⟨c.dst, c.v, c.sl, [si.id], [si.id], true, [(si.id, .mp (insE si.n si.v es))], none⟩ (runR cs listed.toList R0)) (c.R (runR cs listed.toList R0)) := by
          have h1 : c.R (runR cs listed.toList R0) = addE si (runR cs listed.toList R0) := by unfold Rc.R; rw [hci0]
          have h2 : List.Perm (inR [si.id] (runR cs listed.toList R0) ++ outR [si.id] (runR cs listed.toList R0)) (runR cs listed.toList R0) := List.filter_append_perm _ _
          have h3 : addE si (inR [si.id] (runR cs listed.toList R0) ++ outR [si.id] (runR cs listed.toList R0)) = [(si.id, .mp (insE si.n si.v es))] ++ outR [si.id] (runR cs listed.toList R0) := by
            have h4 : addE si (outR [si.id] (runR cs listed.toList R0)) = outR [si.id] (runR cs listed.toList R0) := addE_self fun q hq e => by
              have := (List.mem_filter.1 hq).2
              rw [e] at this
              simp [memB] at this
            unfold addE at h4 ⊢
            rw [List.map_append, h4, e1]
            show [addQ si (si.id, .mp es)] ++ _ = _
            rw [addQ_eq rfl]
          rw [h1]
          have h5 := h2.map (addQ si)
          exact (List.Perm.of_eq h3.symm).trans h5
        refine loc_wp (c := ⟨c.dst, c.v, c.sl, [si.id], [si.id], true, [(si.id, .mp (insE si.n si.v es))], none⟩) rfl (nx := g i) (nx' := g (i + 1)) (by have := hmono 0 i (Nat.zero_le _) (by omega); omega) ⟨E, ρ, q1, q2, q3, q5, q4⟩ fact.dst fact.dn (fun _ h => h) (by
            dsimp only
            rw [hle, hv, e1, eo, List.append_nil]
            exact hy es e2) hpn fact.lv (by
            dsimp only
            rw [e1]
            intro q hq
            rw [List.mem_singleton.1 hq]
            exact ⟨hlt, trivial⟩) (fun _ q hq => by
            rw [List.mem_singleton.1 hq]
            exact ⟨Nat.lt_of_lt_of_le hlt hgi, trivial⟩) (by
            dsimp only
            rw [hv]; exact .lit _) (fun _ q hq => by
            rw [List.mem_singleton.1 hq]
            exact ⟨.inl (q3 _ hmem).1, trivial⟩) fun a' w' hd' hm' => cont a' w' (hd'.trans hda) (hm'.perm hRR)
      · rw [if_pos (hgate _ hg)]
        refine .inl ?_
        have hle : locE (runF cs listed.toList f0) c.sl = locE (runF (cs.take i) (List.replicate i true) f0) c.sl := locE_congr s1
        obtain ⟨E, ρ, q1, q2, q3, q5, q4⟩ := hm
        have hids := fact.ids (fun x => x < nx0 ∨ ∃ j : Nat, listed.toList[j]? = some true ∧ g j ≤ x ∧ x < g (j + 1)) (fun t ht d hd => by
          rw [← s1 t ht] at hd
          exact q2 _ (Env.get_mem (q1 t d hd))) (by rw [← s2]; exact fun q hq => q3 q (List.mem_filter.1 hq).1)
        exact loc_wp hci0 (nx := g i) (nx' := g (i + 1)) (by have := hmono 0 i (Nat.zero_le _) (by omega); omega) ⟨E, ρ, q1, q2, q3, q5, q4⟩ fact.dst fact.dn fact.wr (by rw [hle, s2]; exact hy) hpn fact.lv (by rw [s2]; exact fact.lin) fact.lo hids.1 hids.2 fun a' w' hd' hm' => cont a' w' (hd'.trans hda) hm'
theorem dexec_ok {α : Type} {r : α} {F : Orc} {C : Cg} {s : St} {a : Act} {w : World} {id : Nat} {k : St → Option α} (hF : OrcOk P F) (hN : OrcNat F) (h : dexec P F n ops s k = some r) (hm : Mt C n s a w) :
    (Code.region id ops true).wp P (fun e a' w' => e = .normal ∧ a'.defers = a.defers ∧ ∃ s', k s' = some r ∧ Mt C n s' a' w') a w := by
  unfold dexec at h
  split at h
  case h_2 => cases h
  rename_i hb
  simp only [Bool.and_eq_true] at hb
  split at h
  case h_2 => cases h
  rename_i ps hps
  obtain ⟨E, hh, hE, hR, ρ, hag, hsim⟩ := hm
  obtain ⟨cs, s', f', q1, q2, q3⟩ := dgo_ok hF hN ops.toList (f := eget s.E) h (fun t d h => h) (fun t d hd => Env.ev_ltd (x := .tmp t) hE (hh t d hd)) hR
  split at q1
  case h_2 => cases q1
  rename_i hpo
  obtain ⟨l1, l2, l3, g, g0, g1, g2, g3⟩ := q2.idx
  have hN : ops.toList.length = ops.size := by simp
  refine wp_region_any hb.1 ?_
  refine any_ok (C := C) (cs := cs) (f0 := eget s.E) (R0 := s.R) (nx0 := s.nx) (g := g) (ds := a.defers) (by rw [l1, hN]) g0 hag.2 (by rw [← hN]; exact g2) g3 (fun i j c d hji hc hd => plan_cf hps hpo (fun i c hc => by
      obtain ⟨o, ho⟩ : ∃ o, ops.toList[i]? = some o := ⟨_, List.getElem?_eq_getElem (by rw [← l1]; exact (List.getElem?_eq_some_iff.1 hc).1)⟩
      have := g3 i o c ho hc
      exact ⟨o, ho, this.dst, this.sl, this.ef, this.wr, this.fi⟩) hji hc hd) (fun i o ho e he hbe => by have := backB_ok hb.2 i o ho e he hbe; omega) (fun a' w' hd' hm' => ?_) ops.size (Array.replicate ops.size false) a _ (by simp) (by rw [Array.toList_replicate, cntF_rep]) (fun i o _ hbi => ?_) rfl ?_
  · refine ⟨rfl, hd', s', q1, ?_⟩
    rw [← l2, ← l3] at hm'
    obtain ⟨E', ρ', p1, p2, p3, p5, p4⟩ := hm'
    rw [hN] at g1
    rw [g1] at p2 p3
    exact ⟨E', fun t d hd => p1 t d (q3 t d hd), p2, p3.ltd, ρ', ⟨p5, by have := mono_g (N := ops.toList.length) g2 0 ops.toList.length (Nat.zero_le _) (Nat.le_refl _); rw [g0, hN, g1] at this; have h7 := hag.2; omega⟩, p4⟩
  · rw [Array.toList_replicate, List.getElem?_replicate] at hbi
    split at hbi <;> cases hbi
  · have nF : ∀ (cs : List Rc) (n : Nat) (f : Fr), runF cs (List.replicate n false) f = f := fun cs => by
      induction cs with
      | nil => intro n f; rfl
      | cons d cs ih =>
        intro n f
        cases n with
        | zero => rfl
        | succ n => rw [List.replicate_succ]; exact ih n f
    have nR : ∀ (cs : List Rc) (n : Nat) (R : IRs), runR cs (List.replicate n false) R = R := fun cs => by
      induction cs with
      | nil => intro n f; rfl
      | cons d cs ih =>
        intro n f
        cases n with
        | zero => rfl
        | succ n => rw [List.replicate_succ]; exact ih n f
    rw [Array.toList_replicate, nF, nR]
    exact ⟨E, ρ, hh, fun q hq => Lts.mono (hE q hq) fun i hi => .inl hi, (IRs.Lts.mono hR.lts fun i hi => .inl hi), hag.1, hsim.drew⟩
end
section
variable {α : Type} {r : α} {P : Program} {F : Orc} {C : Cg} {n : Nat}
def exReg (P : Program) (F : Orc) (n : Nat) (_ : Nat) (ops : Array Oper) (draw : Bool) (s : St) (k : Kont α) : Option α := match draw with
 | false => rexec P F n ops ops.toList s (k .normal)
 | true => dexec P F n ops s (k .normal)
def exec (P : Program) (F : Orc) (n : Nat) (fuel : Nat) (c : Code) : St → Kont α → Option α :=
 Code.rec exSkip (exReg P F n) (fun _ _ => exSeq) (fun c _ _ => exCond c) (fun id _ => exBlock id) (fun _ => exLoop fuel) (fun _ _ _ _ _ _ => exNo) exExit (fun _ _ => exNo) (fun _ => exNo) (fun _ => exNo) exRet (fun _ => exNo) c
def callF (P : Program) (F : Orc) (fuel : Nat) (f : FuncId) (args : List AV) (R : IRs) (nx : Nat) (k : AV → IRs → Nat → Option α) : Option α := match P.funcs[f]? with
 | some fn => match fn.body with
  | some c => match Nat.ble args.length fn.ntmps && !(fn.name == "runtime.NumGoroutine") with
   | true => exec (α := α) P F fn.ntmps fuel c ⟨argsT 0 args .e, R, nx⟩ fun e s => match e with
    | .normal => (resL P s fn.results.toList).bind fun ds => k (resA ds) (keepA s.R nx (resA ds) args) s.nx
    | .ret => (resL P s fn.results.toList).bind fun ds => k (resA ds) (keepA s.R nx (resA ds) args) s.nx
    | _ => none
   | false => none
  | none => none
 | none => none
def callN (P : Program) (F0 : Orc) (has : FuncId → Bool) (fuel : Nat) : Nat → Orc
 | 0 => F0
 | m + 1 => fun α f args R nx k => match has f with
  | true => F0 α f args R nx k
  | false => callF P (callN P F0 has fuel m) fuel f args R nx k
def Ends (P : Program) (C : Cg) (n : Nat) (c : Code) (k : Kont α) (r : α) (a : Act) (w : World) : Prop := c.wp P (fun e a' w' => ∃ s', k e s' = some r ∧ Mt C n s' a' w') a w
def Says (P : Program) (C : Cg) (n : Nat) (c : Code) (x : St → Kont α → Option α) : Prop := ∀ (r : α) (s : St) (k : Kont α) (a : Act) (w : World), x s k = some r → Mt C n s a w → Ends P C n c k r a w
theorem condO_ok {c : Operand} {s : St} {x y : St → Option α} (h : condO c s x y = some r) {a : Act} {w : World} (hm : Mt C n s a w) : ∃ (b : Bool) (s' : St), a.eval c = .bool b ∧ Mt C n s' a w ∧ (match b with | true => x s' | false => y s') = some r := by
  unfold condO at h
  split at h
  · rename_i t
    split at h
    case h_2 => cases h
    rename_i b hb
    have hev : a.eval (.tmp t) = .bool b := by
      obtain ⟨E, hh, _, _, ρ, _, hs⟩ := hm
      refine ev_bool hs ?_
      have h1 := hh t _ hb
      show Env.get (E.sub ρ) t = _
      rw [Env.sub_get, h1, Option.map_some, sub_lit]
    refine ⟨b, s.putB t b, hev, hm.putB hb, ?_⟩
    unfold condB at h
    cases b <;> exact h
  · exact ⟨true, s, rfl, hm, h⟩
  · exact ⟨false, s, rfl, hm, h⟩
  · cases h
theorem says_reg (hF : OrcOk P F) (hN : OrcNat F) (id : Nat) (ops : Array Oper) (draw : Bool) : Says (α := α) P C n (.region id ops draw) (exReg P F n id ops draw) := fun r s k a w h hm => by
 unfold exReg at h
 cases draw with
 | false =>
  refine wp_mono (wp_region_lit (rexec_ok hF _ h hm)) fun e a' w' ⟨he, _, s', h1, h2⟩ => ?_
  subst he
  exact ⟨s', h1, h2⟩
 | true =>
  refine wp_mono (dexec_ok hF hN h hm) fun e a' w' ⟨he, _, s', h1, h2⟩ => ?_
  subst he
  exact ⟨s', h1, h2⟩
theorem says_loop {c : Code} {x : St → Kont α → Option α} (hx : Says P C n c x) (fuel : Nat) : Says P C n (.loop c) (exLoop fuel x) := fun r s k a w h hm => by
 have key : ∀ (m : Nat) (s : St) (a : Act) (w : World), loopN x k m s = some r → Mt C n s a w → c.wp P (Exit.then (InL P c fun e a' w' => ∃ s', k e s' = some r ∧ Mt C n s' a' w') fun e a' w' => ∃ s', k e s' = some r ∧ Mt C n s' a' w') a w := by
  intro m
  induction m with
  | zero => intro s a w h; cases h
  | succ m ih =>
   intro s a w h hm
   refine wp_mono (hx r s _ a w h hm) fun e a' w' ⟨s', h1, h2⟩ => ?_
   cases e with
   | normal => exact inL_step (ih s' a' w' h1 h2)
   | _ => exact ⟨s', h1, h2⟩
 exact wp_unroll (key fuel s a w h hm)
theorem exec_ok (hF : OrcOk P F) (hN : OrcNat F) (fuel : Nat) (c : Code) : Says (α := α) P C n c (exec P F n fuel c) := by
  induction c with
  | skip => exact fun r s k a w h hm => wp_skip ⟨s, h, hm⟩
  | region id ops draw => exact says_reg hF hN id ops draw
  | seq x y hx hy =>
    intro r s k a w h hm
    refine wp_seq (wp_mono (hx r s _ a w h hm) fun e a' w' ⟨s', h1, h2⟩ => ?_)
    cases e with
    | normal => exact hy r s' k a' w' h1 h2
    | _ => exact ⟨s', h1, h2⟩
  | cond c x y hx hy =>
    intro r s k a w h hm
    obtain ⟨b, s', he, hm', h'⟩ := condO_ok (show condO c s _ _ = some r from h) hm
    cases b with
    | true => exact wp_cond_true he (hx r s' k a w h' hm')
    | false => exact wp_cond_false he (hy r s' k a w h' hm')
  | block id x hx =>
    intro r s k a w h hm
    refine wp_block (wp_mono (hx r s _ a w h hm) fun e a' w' ⟨s', h1, h2⟩ => ?_)
    cases e with
    | exit id' =>
      simp only [blockK] at h1
      simp only [Exit.inBlock]
      split
      · rename_i he
        subst he
        have hb : Nat.beq id' id' = true := Nat.beq_refl _
        simp only [hb] at h1
        exact ⟨s', h1, h2⟩
      · rename_i he
        have hb : Nat.beq id' id = false := by
          cases hb : Nat.beq id' id with
          | false => rfl
          | true => exact absurd (Nat.eq_of_beq_eq_true hb) he
        simp only [hb] at h1
        exact ⟨s', h1, h2⟩
    | _ => exact ⟨s', h1, h2⟩
  | loop c hc => exact says_loop hc fuel
  | exit i => exact fun r s k a w h hm => wp_exit ⟨s, h, hm⟩
  | ret => exact fun r s k a w h hm => wp_ret ⟨s, h, hm⟩
  | _ => exact fun r s k a w h hm => by cases h
theorem keepL_sub (nx : Nat) (ids : List Nat) : ∀ R : IRs, List.Sublist (keepL nx ids R) R
 | [] => .slnil
 | p :: R => by
  have ih := keepL_sub nx ids R
  show List.Sublist (Bool.rec (Bool.rec (keepL nx ids R) (p :: keepL nx ids R) (memB p.1 ids)) (p :: R) (Nat.blt p.1 nx)) (p :: R)
  cases Nat.blt p.1 nx with
  | true => exact List.Sublist.refl _
  | false =>
   cases memB p.1 ids with
   | true => exact ih.cons_cons p
   | false => exact ih.cons p
theorem resV_ok {s : St} {E : Env} {ρ : Gh} {rv : ResultVar} {d : AV} (h : resV P s rv = some d) (hh : Hold s.E E) : ResIs P (E.sub ρ) (IRs.res ρ s.R) rv (d.sub ρ) := by
  unfold resV at h
  split at h
  · rename_i t
    refine .tmp ?_
    rw [Env.sub_get, hh t d h]; rfl
  · rename_i t ty
    split at h
    case h_2 => cases h
    rename_i id hp
    have hp' : Env.get (E.sub ρ) t = some (.lit (.pointer (some ⟨ρ.b id, 0, none⟩))) := by
      rw [Env.sub_get, hh t _ hp, Option.map_some, AVq.sub]
    split at h
    case h_2 => cases h
    rename_i T cs hr
    obtain ⟨i, hi, _⟩ := rget_idx hr
    have hres := res_get (ρ := ρ) hi
    split at h
    · rename_i h1
      refine .cell1 i hp' hres (oneB_ok h1) ?_
      rw [List.getElem?_map, h]; rfl
    · split at h
      case h_2 => cases h
      rename_i m hm
      split at h
      case h_2 => cases h
      rename_i hl
      cases h
      rw [sub_agg]
      refine .cellN i hp' hres (manyB_ok hm) ?_
      rw [List.length_map]; exact beqT hl
theorem resV_ltd {s : St} {nx : Nat} {rv : ResultVar} {d : AV} (h : resV P s rv = some d) {E : Env} (hh : Hold s.E E) (hE : E.Ltd nx) (hR : IRs.Ltd nx s.R) : Ltd nx d := by
  unfold resV at h
  split at h
  · rename_i t
    exact hE _ (Env.get_mem (hh t d h))
  · split at h
    case h_2 => cases h
    split at h
    case h_2 => cases h
    rename_i id _ T cs hr
    have hL := rget_ltd hr hR
    split at h
    · exact hL.2 _ (List.mem_of_getElem? h)
    · split at h
      case h_2 => cases h
      split at h
      case h_2 => cases h
      cases h
      exact .agg _ hL.2
theorem resL_ok {s : St} {E : Env} {ρ : Gh} (hh : Hold s.E E) {A : Nat → Prop} {w : World} {tmps : Array Value} (hd : Hd A (IRs.res ρ s.R) w) (hs : Slots A w (E.sub ρ) tmps) : ∀ {l : List ResultVar} {ds : List AV}, resL P s l = some ds →
  ∃ us, (l.mapM (resOne tmps)).run P w = .ok us w ∧ RelL A w (ds.map (AVq.sub ρ)) us
 | [], ds, h => by cases h; exact ⟨[], rfl, RelL.nil⟩
 | x :: l, ds, h => by
  unfold resL at h
  split at h
  case h_2 => cases h
  rename_i d hx
  obtain ⟨ds', h1, h2⟩ := Option.map_eq_some_iff.1 h
  subst h2
  obtain ⟨v, q1, q2⟩ := resV_ok (ρ := ρ) hx hh A w tmps hd hs
  obtain ⟨us, q3, q4⟩ := resL_ok hh hd hs h1
  refine ⟨v :: us, ?_, RelL.cons q2 q4⟩
  rw [List.mapM_cons]
  simp [q1, q3]
theorem resL_ltd {s : St} {nx : Nat} {E : Env} (hh : Hold s.E E) (hE : E.Ltd nx) (hR : IRs.Ltd nx s.R) : ∀ {l : List ResultVar} {ds : List AV}, resL P s l = some ds → ∀ d ∈ ds, Ltd nx d
  | [], ds, h => by cases h; simp
  | x :: l, ds, h => by
    unfold resL at h
    split at h
    case h_2 => cases h
    rename_i d hx
    obtain ⟨ds', h1, h2⟩ := Option.map_eq_some_iff.1 h
    subst h2
    intro d' hd'
    rcases List.mem_cons.1 hd' with rfl | hd'
    · exact resV_ltd hx hh hE hR
    · exact resL_ltd hh hE hR h1 d' hd'
theorem resA_ltd {nx : Nat} {ds : List AV} (h : ∀ d ∈ ds, Ltd nx d) : Ltd nx (resA ds) := by
  unfold resA
  split
  · exact h _ (by simp)
  · exact .tup _ h
theorem resA_rel {ρ : Gh} {A : Nat → Prop} {w : World} {ds : List AV} {us : List Value} (h : RelL A w (ds.map (AVq.sub ρ)) us) : Rel A w ((resA ds).sub ρ) (if h : us.toArray.size = 1 then us.toArray[0] else .tuple us.toArray) := by
  unfold resA
  split
  · rename_i d
    obtain ⟨h1, h2⟩ := h
    match us, h1, h2 with
    | [u], _, h2 => exact h2 0 _ _ rfl rfl
  · rename_i hn
    have hl : us.length = ds.length := by have := h.1; simpa using this
    rw [dif_neg (by
      intro e
      match ds, hn with
      | [], _ => rw [List.size_toArray, hl] at e; cases e
      | [d], hn => exact hn d rfl
      | _ :: _ :: _, _ => rw [List.size_toArray, hl] at e; simp at e), sub_tup]
    exact Rel.tupL h
theorem hold_args : ∀ (l : List AV) (i : Nat) (T : ET) (E : Env), Hold T E → (∀ t d, eget T t = some d → t < i) → Hold (argsT i l T) (argsEnv i l ++ E)
  | [], _, _, _, h, _ => h
  | d :: l, i, T, E, h, hT => by
    have h2 : ∀ t d', eget (eput i d T) t = some d' → t < i + 1 := fun t d' ht => by
      rcases eput_get ht with ⟨rfl, _⟩ | ⟨_, q⟩
      · omega
      · have := hT t d' q; omega
    have := hold_args l (i + 1) (eput i d T) ((i, d) :: E) (h.put i d) h2
    intro t v ht
    have h1 : Env.get (argsEnv (i + 1) l ++ (i, d) :: E) t = some v := this t v ht
    show Env.get ((i, d) :: (argsEnv (i + 1) l ++ E)) t = some v
    have key : ∀ (l : List AV) (j : Nat), i < j → Env.get (argsEnv j l ++ (i, d) :: E) t = Env.get ((i, d) :: (argsEnv j l ++ E)) t := fun l => by
      induction l with
      | nil => intro j _; rfl
      | cons u l ih =>
        intro j hj
        show Env.get ((j, u) :: (argsEnv (j + 1) l ++ (i, d) :: E)) t = Env.get ((i, d) :: (j, u) :: (argsEnv (j + 1) l ++ E)) t
        by_cases h1 : j = t
        · subst h1
          rw [Env.get_hit, Env.get_miss _ _ (by omega), Env.get_hit]
        · rw [Env.get_miss _ _ h1, ih (j + 1) (by omega)]
          by_cases h2 : i = t
          · subst h2; rw [Env.get_hit, Env.get_hit]
          · rw [Env.get_miss _ _ h2, Env.get_miss _ _ h2, Env.get_miss _ _ h1]
    rw [← key l (i + 1) (Nat.lt_succ_self i)]
    exact h1
theorem argsEnv_sub (ρ : Gh) : ∀ (l : List AV) (i : Nat), (argsEnv i l).sub ρ = argsEnv i (l.map (AVq.sub ρ))
 | [], _ => rfl
 | d :: l, i => by show (i, d.sub ρ) :: (argsEnv (i + 1) l).sub ρ = _; rw [argsEnv_sub ρ l]; rfl
theorem argsEnv_mem : ∀ {l : List AV} {i : Nat} {q : Nat × AV}, q ∈ argsEnv i l → q.2 ∈ l
  | d :: l, i, q, h => by
    rcases List.mem_cons.1 h with rfl | h
    · exact List.mem_cons_self
    · exact List.mem_cons_of_mem _ (argsEnv_mem h)
theorem fin_ok {xs : List AV} {fn : Func} {C : Cx} {ρ : Gh} {nx : Nat} {s : St} {a : Act} {w : World} {k : AV → IRs → Nat → Option α} {e : Exit} (he : e = .normal ∨ e = .ret) (h : ((resL P s fn.results.toList).bind fun ds => k (resA ds) (keepA s.R nx (resA ds) xs) s.nx) = some r) (hm : Mt ⟨C, ρ, nx⟩ n s a w) :
  ∃ E' σ', Sim C n E' σ' a w ∧ FinQ P C n fn (fun a s => ∃ d R' nx', k d R' nx' = some r ∧ nx ≤ nx' ∧ Ltd nx' d ∧ IRs.Ltd nx' R' ∧ ∃ ρ', Agr nx ρ ρ' ∧ a = d.sub ρ' ∧ List.Perm s (IRs.res ρ' R')) e E' σ' := by
 obtain ⟨E, hh, hE, hR, ρ', ⟨hag, hnx⟩, hsim⟩ := hm
 obtain ⟨ds, h1, h2⟩ := Option.bind_eq_some_iff.1 h
 have hsub : List.Sublist (keepA s.R nx (resA ds) xs) s.R := keepL_sub _ _ _
 refine ⟨_, _, hsim, fin_of (σ' := IRs.res ρ' (keepA s.R nx (resA ds) xs)) (av := (resA ds).sub ρ') he (hsub.map _) ⟨_, _, _, h2, hnx, resA_ltd (resL_ltd hh hE hR h1), fun q hq => hR q (hsub.subset hq), ρ', hag, rfl, List.Perm.refl _⟩ fun A w' tmps hd hs => ?_⟩
 obtain ⟨us, q1, q2⟩ := resL_ok hh hd hs h1
 refine ⟨_, ?_, resA_rel q2⟩
 show (do let vs ← fn.results.mapM (resOne tmps); pure (if h : vs.size = 1 then vs[0] else .tuple vs) : Sem Value).run P w' = _
 have e1 : fn.results = fn.results.toList.toArray := by simp
 rw [e1, List.mapM_toArray]
 simp [q1]
section
variable {β : Type}
theorem gate_nat {ops : Array Oper} {o : Oper} {s : St} {y n : St → Option α} (D : α → Option β) : (gate ops o s y n).bind D = gate ops o s (fun s => (y s).bind D) (fun s => (n s).bind D) := by
 unfold gate
 repeat' split
 all_goals first | rfl | simp_all
theorem pickS_nat {o : Op} {s : St} {f : St → Option α} (D : α → Option β) : (pickS o s f).bind D = pickS o s (fun s => (f s).bind D) := by
 unfold pickS
 repeat' split
 all_goals first | rfl | simp_all
theorem rDo_nat (hN : OrcNat F) {o : Oper} {ih : St → (St → Option α) → Option α} {ih' : St → (St → Option β) → Option β} {k : St → Option α} {D : α → Option β} (hi : ∀ s k, (ih s k).bind D = ih' s (fun s => (k s).bind D)) (s : St) : (rDo P F o ih k s).bind D = rDo P F o ih' (fun s => (k s).bind D) s := by
 unfold rDo
 generalize s.frzL (frzOf s.E o.op) = s1
 obtain ⟨E, R, nx⟩ := s1
 show (stepF o.op P F (evF E) (rget R) R nx (appK o.dst E R nx ih k)).bind D = stepF o.op P F (evF E) (rget R) R nx (appK o.dst E R nx ih' fun s => (k s).bind D)
 rw [stepF_nat D hN]
 congr 1
 funext e
 cases e <;> exact hi ..
theorem rexec_nat (hN : OrcNat F) {ops : Array Oper} (D : α → Option β) : ∀ (l : List Oper) (s : St) (k : St → Option α), (rexec P F n ops l s k).bind D = rexec P F n ops l s (fun s => (k s).bind D)
  | [], s, k => rfl
  | o :: l, s, k => by
    show (rOne P F n ops o (rexec P F n ops l) s k).bind D = rOne P F n ops o (rexec P F n ops l) s (fun s => (k s).bind D)
    unfold rOne
    split
    · rw [gate_nat]
      congr 1
      · funext s1
        obtain ⟨E, R, nx⟩ := s1
        show (opF o.op P F o.dst E R nx (rexec P F n ops l) k).bind D = opF o.op P F o.dst E R nx (rexec P F n ops l) (fun s => (k s).bind D)
        have e1 := opF_eq P F o ⟨E, R, nx⟩ (rexec (α := α) P F n ops l) k
        have e2 := opF_eq P F o ⟨E, R, nx⟩ (rexec (α := β) P F n ops l) (fun s => (k s).bind D)
        dsimp only at e1 e2
        rw [e1, e2, pickS_nat]
        congr 1
        funext s2
        exact rDo_nat hN (fun s k => rexec_nat hN D l s k) s2
      · funext s1
        unfold rNo
        split <;> exact rexec_nat hN D l _ _
    · rfl
theorem dgo_nat (hN : OrcNat F) {ops : Array Oper} {ps : List (Nat × Nat)} (D : α → Option β) : ∀ (l : List Oper) (cs : List Rc) (s : St) (k : List Rc → St → Option α), (dgo P F n ops ps l cs s k).bind D = dgo P F n ops ps l cs s (fun cs s => (k cs s).bind D)
  | [], cs, s, k => rfl
  | o :: l, cs, s, k => by
    show (dOne P F n ops ps o (dgo P F n ops ps l) cs s k).bind D = dOne P F n ops ps o (dgo P F n ops ps l) cs s (fun cs s => (k cs s).bind D)
    unfold dOne
    split
    · rw [gate_nat]
      congr 1
      · funext s1
        obtain ⟨E, R, nx⟩ := s1
        have he : ∀ {γ : Type} (k : List Rc → St → Option γ), dYes P F ops ps o (dgo P F n ops ps l) cs k ⟨E, R, nx⟩ = match insOf P ops o E R with
          | some i => dgo P F n ops ps l (cs ++ [⟨o.dst, .lit undef, opSlots ops o, [], [], false, [], some i⟩]) ⟨putO o.dst (.lit undef) E, addE i R, nx⟩ k
          | none => lrunK P F o (opSlots ops o) E (inQ (footO ops o E R) R) nx (dK ops ps o cs (footO ops o E R) E R (inQ (footO ops o E R) R) nx (dgo P F n ops ps l) k) := fun _ => rfl
        rw [he, he]
        cases insOf P ops o E R with
        | some i => exact dgo_nat hN D l _ _ _
        | none =>
        show (lrunK P F o (opSlots ops o) E (inQ (footO ops o E R) R) nx (dK ops ps o cs (footO ops o E R) E R (inQ (footO ops o E R) R) nx (dgo P F n ops ps l) k)).bind D = lrunK P F o (opSlots ops o) E (inQ (footO ops o E R) R) nx (dK ops ps o cs (footO ops o E R) E R (inQ (footO ops o E R) R) nx (dgo P F n ops ps l) (fun cs s => (k cs s).bind D))
        rw [← lrun_nat hN, ← lrun_nat hN, Option.bind_assoc]
        congr 1
        funext x
        unfold dK
        split
        · exact dgo_nat hN D l _ _ _
        · rfl
      · funext s1
        exact dgo_nat hN D l _ _ _
    · rfl
theorem exReg_nat (hN : OrcNat F) (id : Nat) (ops : Array Oper) (draw : Bool) (D : α → Option β) (s : St) (k : Kont α) : (exReg P F n id ops draw s k).bind D = exReg P F n id ops draw s (fun e s => (k e s).bind D) := by
  unfold exReg
  cases draw with
  | false => exact rexec_nat hN D _ _ _
  | true =>
    show (dexec P F n ops s (k .normal)).bind D = dexec P F n ops s (fun s => (k .normal s).bind D)
    unfold dexec
    split
    · split
      · rw [dgo_nat hN D]
        congr 1
        funext cs s'
        split <;> rfl
      · rfl
    · rfl
theorem condO_nat {c : Operand} {s : St} {x y : St → Option α} (D : α → Option β) : (condO c s x y).bind D = condO c s (fun s => (x s).bind D) (fun s => (y s).bind D) := by
 unfold condO
 repeat' split
 all_goals first | rfl | (unfold condB; split <;> rfl) | simp_all
theorem loop_nat {x : St → Kont α → Option α} {x' : St → Kont β → Option β} {D : α → Option β} (hx : ∀ s k, (x s k).bind D = x' s (fun e s => (k e s).bind D)) (k : Kont α) : ∀ (m : Nat) (s : St), (loopN x k m s).bind D = loopN x' (fun e s => (k e s).bind D) m s
 | 0, s => rfl
 | m + 1, s => by
  show (x s (loopK k (loopN x k m))).bind D = x' s (loopK (fun e s => (k e s).bind D) (loopN x' (fun e s => (k e s).bind D) m))
  rw [hx]
  congr 1
  funext e s'
  cases e <;> first | exact loop_nat hx k m s' | rfl
theorem exec_nat (hN : OrcNat F) (fuel : Nat) (D : α → Option β) (c : Code) : ∀ (s : St) (k : Kont α), (exec P F n fuel c s k).bind D = exec P F n fuel c s (fun e s => (k e s).bind D) := by
  induction c with
  | region id ops draw => exact exReg_nat hN id ops draw D
  | seq x y hx hy =>
    intro s k
    show (exec P F n fuel x s (seqK (exec P F n fuel y) k)).bind D = exec P F n fuel x s (seqK (exec P F n fuel y) (fun e s => (k e s).bind D))
    rw [hx]
    congr 1
    funext e s'
    cases e <;> first | exact hy s' k | rfl
  | cond c x y hx hy =>
    intro s k
    show (condO c s (fun s => exec P F n fuel x s k) (fun s => exec P F n fuel y s k)).bind D = condO c s (fun s => exec P F n fuel x s _) (fun s => exec P F n fuel y s _)
    rw [condO_nat]
    congr 1
    · funext s; exact hx s k
    · funext s; exact hy s k
  | block id x hx =>
    intro s k
    show (exec P F n fuel x s (blockK id k)).bind D = exec P F n fuel x s (blockK id (fun e s => (k e s).bind D))
    rw [hx]
    congr 1
    funext e s'
    cases e <;> first | rfl | (simp only [blockK]; split <;> rfl)
  | loop c hc => exact fun s k => loop_nat hc k fuel s
  | _ => exact fun s k => rfl
theorem callF_nat (hN : OrcNat F) (fuel : Nat) : OrcNat (fun α => callF (α := α) P F fuel) := fun α β f args R nx k D => by
  show (callF P F fuel f args R nx k).bind D = callF P F fuel f args R nx _
  unfold callF
  split
  · split
    · split
      · rw [exec_nat hN]
        congr 1
        funext e s
        cases e <;> first | rfl | exact Option.bind_assoc ..
      · rfl
    · rfl
  · rfl
theorem callN_nat {F0 : Orc} {has : FuncId → Bool} (hN : OrcNat F0) (fuel : Nat) : ∀ m : Nat, OrcNat (callN P F0 has fuel m)
 | 0 => hN
 | m + 1 => fun α β f args R nx k D => by
  show (match has f with | true => F0 α f args R nx k | false => callF P (callN P F0 has fuel m) fuel f args R nx k).bind D = _
  show _ = (match has f with | true => F0 β f args R nx _ | false => callF P (callN P F0 has fuel m) fuel f args R nx _)
  cases has f with
  | true => exact hN ..
  | false => exact callF_nat (callN_nat hN fuel m) fuel α β f args R nx k D
end
theorem callF_ok (hF : OrcOk P F) (hN : OrcNat F) (fuel : Nat) : OrcOk P (fun α => callF (α := α) P F fuel) := fun α f args R nx k r h hargs hR => by
  have h : callF P F fuel f args R nx k = some r := h
  unfold callF at h
  split at h
  case h_2 => cases h
  rename_i fn hf
  split at h
  case h_2 => cases h
  rename_i c hb
  split at h
  case h_2 => cases h
  rename_i hc
  rw [Bool.and_eq_true] at hc
  obtain ⟨hl, hnm⟩ := hc
  refine ⟨⟨fn, hf, by simpa using hnm, by rw [hb]; rfl⟩, fun ρ => Fn.of hf hb rfl (by rw [List.length_map]; exact hl) fun C a w ha => ?_⟩
  have hm : Mt ⟨C, ρ, nx⟩ fn.ntmps ⟨argsT 0 args .e, R, nx⟩ a w := by
    refine ⟨argsEnv 0 args, ?_, fun q hq => hargs _ (argsEnv_mem hq), hR, ρ, ⟨.refl _ _, Nat.le_refl _⟩, ?_⟩
    · have := hold_args args 0 .e [] (fun t d ht => by cases t <;> cases ht) (fun t d ht => by cases t <;> cases ht)
      rwa [List.append_nil] at this
    · rw [argsEnv_sub]; exact ha
  refine wp_mono (exec_ok hF hN fuel c r _ _ a w h hm) fun e a' w' ⟨s', h1, h2⟩ => ?_
  cases e with
  | normal => exact fin_ok (.inl rfl) h1 h2
  | ret => exact fin_ok (.inr rfl) h1 h2
  | _ => cases h1
theorem callN_ok {F0 : Orc} {has : FuncId → Bool} (hF : OrcOk P F0) (hN : OrcNat F0) (fuel : Nat) : ∀ m : Nat, OrcOk P (callN P F0 has fuel m)
  | 0 => hF
  | m + 1 => fun α f args R nx k r h hargs hR => by
    change (match has f with | true => F0 α f args R nx k | false => callF P (callN P F0 has fuel m) fuel f args R nx k) = some r at h
    split at h
    · exact hF α f args R nx k r h hargs hR
    · exact callF_ok (callN_ok hF hN fuel m) (callN_nat hN fuel m) fuel α f args R nx k r h hargs hR
end
def scB : Nat → AV → Bool
 | _, .lit _ => true
 | n + 1, .agg cs => cs.all (scB n)
 | n + 1, .tup cs => cs.all (scB n)
 | _, _ => false
def cloB : Nat → AV → Bool
 | _, .lit _ => true
 | _, .sl _ _ => true
 | _, .rp _ _ => true
 | n + 1, .agg cs => cs.all (cloB n)
 | n + 1, .tup cs => cs.all (cloB n)
 | _, _ => false
theorem cloB_sub : ∀ (n : Nat) {d : AV} {ρ : Gh}, cloB n d = true → d.sub ρ = d
  | n, d, ρ, h => by
    have hL : ∀ {m : Nat} {cs : List AV}, m < n → cs.all (cloB m) = true → cs.map (AVq.sub ρ) = cs := fun {m cs} hm h => by
      have : cs.map (AVq.sub ρ) = cs.map id := List.map_congr_left fun c hc => cloB_sub m (List.all_eq_true.1 h c hc)
      rw [this, List.map_id]
    cases n with
    | zero => cases d <;> first | (cases h; done) | simp only [AVq.sub]
    | succ n =>
      cases d <;> first | (cases h; done) | (simp only [AVq.sub]; done) | skip
      · rw [sub_agg, hL (Nat.lt_succ_self n) h]
      · rw [sub_tup, hL (Nat.lt_succ_self n) h]
theorem lend_own {R : IRs} {ρ : Gh} {A : Nat → Prop} {w : World} {v : Value} {id : Nat} (hd : Hd A (IRs.res ρ R) w) (hr : Rel A w ((AVq.own (Dat := U.Dat) id).sub ρ) v) : Rel (fun b => A b ∨ b ∈ blks (IRs.res ρ R)) w ((match rget R id with
    | some (.row t l) => AVq.sl t l
    | _ => .own id).sub ρ) v := by
  have base : Rel (fun b => A b ∨ b ∈ blks (IRs.res ρ R)) w ((AVq.own (Dat := U.Dat) id).sub ρ) v := hr.mono fun b _ hA => ⟨.inl hA, rfl⟩
  split
  · rename_i t l hg
    obtain ⟨i, hi, _⟩ := rget_idx hg
    have hres := res_get (ρ := ρ) hi
    have hm := List.mem_of_getElem? hres
    rw [sub_own] at hr
    rw [sub_sl]
    have hd1 : Hd A [.row (ρ.v id) t l] w := ⟨fun r hr => by
      rw [List.mem_singleton] at hr
      rw [hr]
      exact hd.1 _ hm, fun b hb => hd.2 b (by
        obtain ⟨r, h1, h2⟩ := mem_blks.1 hb
        rw [List.mem_singleton] at h1
        rw [h1] at h2
        exact mem_blks.2 ⟨_, hm, h2⟩)⟩
    refine (Vw.row 0 rfl A w v hd1 hr).mono fun b _ hA => ⟨hA.imp (fun h => h) fun hx => ?_, rfl⟩
    obtain ⟨r, h1, h2⟩ := mem_blks.1 hx
    rw [List.mem_singleton] at h1
    rw [h1] at h2
    exact mem_blks.2 ⟨_, hm, h2⟩
  · exact base
def or0 : Orc := fun _ _ _ _ _ _ => none
theorem or0_ok {P : Program} : OrcOk P or0 := fun _ _ _ _ _ _ _ h => by cases h
def kRes {β : Type} (e : AV → Option β) (d : AV) (R : IRs) (_ : Nat) : Option β := match R with
 | [] => e d
 | _ => none
def P0 {β : Type} (e : AV → Option β) (m : β → AV) : Prop := ∀ d x, e d = some x → d = m x ∧ cloB 2 d = true
theorem P0.b : P0 asB AVq.b := fun d x h => by
  unfold asB at h
  split at h
  · cases h; exact ⟨rfl, rfl⟩
  · cases h
theorem fn_run {P : Program} {F : Orc} (hF : OrcOk P F) {f : FuncId} {args : List AV} {β : Type} {e : AV → Option β} {m : β → AV} {x : β} (he : P0 e m) (hc : args.all (cloB 2) = true) (hl : ∀ d ∈ args, Ltd 0 d) (h : F β f args [] 0 (kRes e) = some x) : fnOk P f ∧ Fn P f args [] (fun a s => a = m x ∧ s = []) := by
  obtain ⟨h1, h2⟩ := hF β f args [] 0 (kRes e) x h hl (fun q hq => by cases hq)
  refine ⟨h1, ?_⟩
  have := h2 ⟨fun _ => undef, fun _ => 0⟩
  have ea : args.map (AVq.sub ⟨fun _ => undef, fun _ => 0⟩) = args := by
    have : args.map (AVq.sub ⟨fun _ => undef, fun _ => 0⟩) = args.map id := List.map_congr_left fun c hcm => cloB_sub 2 (List.all_eq_true.1 hc c hcm)
    rw [this, List.map_id]
  rw [ea] at this
  refine Fn.mono this fun a s ⟨d, R', nx', q1, _, _, _, ρ', _, q2, q3⟩ => ?_
  unfold kRes at q1
  split at q1
  · obtain ⟨q4, q5⟩ := he _ _ q1
    rw [q2, cloB_sub 2 q5, q4]
    exact ⟨rfl, by simpa [IRs.res] using q3⟩
  · cases q1
theorem eputN_get2 (d : AV) : ∀ (m : Nat) (T : ET) (k s : Nat), k < 2 ^ m - 1 → eget (eputN d m T k) s = if k = s then some d else eget T s
  | 0, T, k, s, h => by simp at h
  | m + 1, T, k, s, h => by
    rw [eputN_s, eget_vlr T s]
    by_cases hk : k = 0
    · rw [if_pos hk, eget_n]
      by_cases hs : s = 0
      · simp_all
      · have h0 : ¬ (0 = s) := fun e => hs e.symm
        simp_all
    · rw [if_neg hk]
      by_cases hk2 : (k - 1) % 2 = 0
      · rw [if_pos hk2, eget_n]
        by_cases hs : s = 0
        · rw [if_pos hs, if_pos hs, if_neg (by omega)]
        · rw [if_neg hs, if_neg hs]
          by_cases hs2 : (s - 1) % 2 = 0
          · rw [if_pos hs2, if_pos hs2, eputN_get2 d m T.l _ _ (by omega)]
            by_cases hks : k = s
            · rw [if_pos hks, if_pos (by omega)]
            · rw [if_neg hks, if_neg (by omega)]
          · rw [if_neg hs2, if_neg hs2, if_neg (fun e => hs2 (by rw [← e]; exact hk2))]
      · rw [if_neg hk2, eget_n]
        by_cases hs : s = 0
        · grind
        · rw [if_neg hs, if_neg hs]
          by_cases hs2 : (s - 1) % 2 = 0
          · rw [if_pos hs2, if_pos hs2, if_neg (fun e => hk2 (by rw [e]; exact hs2))]
          · rw [if_neg hs2, if_neg hs2, eputN_get2 d m T.r _ _ (by omega)]
            by_cases hks : k = s
            · rw [if_pos hks, if_pos (by omega)]
            · rw [if_neg hks, if_neg (by omega)]
theorem eput_get2 {t s : Nat} {d : AV} {T : ET} (h : t < 4095) : eget (eput t d T) s = if t = s then some d else eget T s := eputN_get2 d 12 T t s h
def PureF (F : Orc) (f : FuncId) : Prop := ∀ args R nx d R' nx', F (AV × IRs × Nat) f args R nx (fun d R nx => some (d, R, nx)) = some (d, R', nx') → R' = R
def okOp (fs : List Nat) : Op → Bool
 | .move _ => true
 | .assign _ => true
 | .pick c _ _ => match c with
  | .tmp t => Nat.blt t 4095
  | _ => true
 | .binOp _ _ _ _ _ => true
 | .unOp _ _ _ => true
 | .fieldAddr _ _ _ => true
 | .indexAddr _ _ _ => true
 | .index _ _ _ => true
 | .load _ _ => true
 | .nilCheck _ => true
 | .convert _ _ _ => true
 | .extract _ _ => true
 | .call c => match c.callee with
  | .value (.func f) => memB f fs && !L.fz f
  | .builtin .len => true
  | .builtin .max => true
  | .builtin .min => true
  | _ => false
 | _ => false
def okDst : Option Nat → Bool
 | some t => Nat.blt t 4095
 | none => true
section
variable {P : Program} {F : Orc} {n : Nat} {fs : List Nat}
theorem okOp_frz {E : ET} {o : Op} (h : okOp fs o = true) : frzOf E o = [] := by
 cases o <;> first | rfl | (cases h; done) | skip
 case call c =>
  unfold okOp at h
  unfold frzOf
  grind
theorem pureV {g : (K : AV → Option Eff) → Option Eff} {g0 : Option AV} {e : Eff} (hg : g (fun d => some (.val d)) = g0.bind fun d => some (.val d)) (h : g (pureK some) = some e) : ∃ d, e = .val d := by
 have h : g (fun d => some (.val d)) = some e := h
 rw [hg] at h
 obtain ⟨d, _, h2⟩ := Option.bind_eq_some_iff.1 h
 cases h2
 simp
theorem okOp_step (hN : OrcNat F) (hp : ∀ f ∈ fs, PureF F f) {o : Op} {E : ET} {rd : Nat → Option IR} {R : IRs} {nx : Nat} {e : Eff} (ho : okOp fs o = true) (h : stepF o P F (evF E) rd R nx some = some e) : ∃ d nx', e = .all d R nx' ∨ e = .val d := by
  have fin : (∃ d, e = .val d) → ∃ d nx', e = Eff.all d R nx' ∨ e = .val d := fun ⟨d, h⟩ => ⟨d, 0, .inr h⟩
  have fb : ∀ {x : Option AV}, x.bind (pureK some) = some e → ∃ d, e = .val d := fun {x} h => by
    obtain ⟨d, _, h2⟩ := Option.bind_eq_some_iff.1 h
    cases h2
    simp
  cases o <;> first | (cases ho; done) | exact fin (fb h) | skip
  case pick c a b =>
    have h : stPic c a b P F (evF E) rd R nx some = some e := h
    unfold stPic at h
    split at h
    · exact fin (fb h)
    · exact fin (fb h)
    · cases h
  case binOp b T x y t => exact fin (pureV (binV_nat (K := some) (fun d => some (Eff.val d))).symm h)
  case unOp b T x => exact fin (pureV (unV_nat (K := some) (fun d => some (Eff.val d))).symm h)
  case fieldAddr T x i => exact fin (pureV (fldV_nat (K := some) (fun d => some (Eff.val d))).symm h)
  case indexAddr T x y => exact fin (pureV (idxV_nat (K := some) (fun d => some (Eff.val d))).symm h)
  case index T x y => exact fin (pureV (ixaV_nat (K := some) (fun d => some (Eff.val d))).symm h)
  case load T x => exact fin (pureV (ldV_nat (K := some) (fun d => some (Eff.val d))).symm h)
  case nilCheck x => exact fin (pureV (nilV_nat (K := some) (fun d => some (Eff.val d))).symm h)
  case convert T T' x => exact fin (pureV (cnvV_nat (K := some) (fun d => some (Eff.val d))).symm h)
  case extract x i => exact fin (pureV (extV_nat (K := some) (fun d => some (Eff.val d))).symm h)
  case call c =>
    have h : stCal c P F (evF E) rd R nx some = some e := h
    unfold stCal at h
    unfold okOp at ho
    dsimp only at ho
    split at ho
    · rename_i f hf
      rw [hf] at h
      rw [Bool.and_eq_true] at ho
      obtain ⟨xs, _, h2⟩ := Option.bind_eq_some_iff.1 h
      have h3 := hN (AV × IRs × Nat) Eff f (xs ++ []) R nx (fun d R nx => some (d, R, nx)) (fun x => some (.all x.1 x.2.1 x.2.2))
      have h3' : (F (AV × IRs × Nat) f (xs ++ []) R nx (fun d R nx => some (d, R, nx))).bind (fun x => some (.all x.1 x.2.1 x.2.2)) = some e := h3.trans h2
      obtain ⟨⟨d, R', nx'⟩, h4, h5⟩ := Option.bind_eq_some_iff.1 h3'
      have h6 := hp f (memB_iff.1 ho.1) _ _ _ _ _ _ h4
      subst h6
      cases h5
      exact ⟨d, nx', .inl rfl⟩
    · rename_i hc
      rw [hc] at h
      unfold stBui at h
      dsimp only at h
      split at h
      · exact fin (pureV (lenV_nat (K := some) (fun d => some (Eff.val d))).symm h)
      · cases h
    · rename_i hc
      rw [hc] at h
      have h : stBui .max c.args c.argTypes P (evF E) rd R nx some = some e := h
      unfold stBui at h
      dsimp only at h
      split at h
      · exact fin (pureV (mnV_nat (K := some) (fun d => some (Eff.val d))).symm h)
      · cases h
    · rename_i hc
      rw [hc] at h
      have h : stBui .min c.args c.argTypes P (evF E) rd R nx some = some e := h
      unfold stBui at h
      dsimp only at h
      split at h
      · exact fin (pureV (mnV_nat (K := some) (fun d => some (Eff.val d))).symm h)
      · cases h
    · cases ho
def Stay (l : List Oper) (s s0 : St) : Prop := s0.R = s.R ∧ ∀ u d, (∀ o ∈ l, o.dst ≠ some u) → eget s.E u = some d → eget s0.E u = some d
theorem putB_get {s : St} {t : Nat} {b : Bool} (ht : t < 4095) (h : eget s.E t = some (.lit (.bool b))) {u : Nat} {d : AV} (hu : eget s.E u = some d) : eget (s.putB t b).E u = some d := by
  show eget (eput t (.b b) s.E) u = _
  rw [eput_get2 ht]
  split
  · rename_i e; subst e; rw [h] at hu; exact hu
  · exact hu
theorem rexec_stay (hN : OrcNat F) (hp : ∀ f ∈ fs, PureF F f) {ops : Array Oper} (hops : ∀ o ∈ ops.toList, okDst o.dst = true) : ∀ (l : List Oper) {s s0 : St}, (∀ o ∈ l, okOp fs o.op = true ∧ okDst o.dst = true) → rexec P F n ops l s some = some s0 → Stay l s s0
  | [], s, s0, _, h => by cases h; exact ⟨rfl, fun u d _ hu => hu⟩
  | o :: l, s, s0, hl, h => by
    have ho := hl o List.mem_cons_self
    have hl' := fun o' h' => hl o' (List.mem_cons_of_mem _ h')
    change rOne P F n ops o (rexec P F n ops l) s some = some s0 at h
    unfold rOne at h
    split at h
    case h_2 => cases h
    have putG : ∀ {s2 : St} {d : AV} {nx' : Nat}, rexec P F n ops l ⟨putO o.dst d s2.E, s2.R, nx'⟩ some = some s0 → s2.R = s.R → (∀ u d, eget s.E u = some d → eget s2.E u = some d) → Stay (o :: l) s s0 := fun {s2 d nx'} h1 h2 h3 => by
      obtain ⟨q1, q2⟩ := rexec_stay hN hp hops l hl' h1
      refine ⟨q1.trans h2, fun u d' hu hd => q2 u d' (fun o' h' => hu o' (List.mem_cons_of_mem _ h')) ?_⟩
      show eget (putO o.dst d s2.E) u = some d'
      have hne := hu o List.mem_cons_self
      have hod := ho.2
      unfold putO
      split
      · simp_all
      · rename_i t ht
        rw [ht] at hod hne
        rw [eput_get2 (by simpa [okDst] using hod), if_neg (fun e => hne (by rw [e]))]
        simp_all
    have yes : ∀ s1 : St, rYes P F o (rexec P F n ops l) some s1 = some s0 → s1.R = s.R → (∀ u d, eget s.E u = some d → eget s1.E u = some d) → Stay (o :: l) s s0 := fun s1 h1 h2 h3 => by
      obtain ⟨E1, R1, nx1⟩ := s1
      have h1 : opF o.op P F o.dst E1 R1 nx1 (rexec P F n ops l) some = some s0 := h1
      have e1 := opF_eq P F o ⟨E1, R1, nx1⟩ (rexec (α := St) P F n ops l) some
      rw [e1] at h1
      have go : ∀ s2 : St, rDo P F o (rexec P F n ops l) some s2 = some s0 → s2.R = s.R → (∀ u d, eget s.E u = some d → eget s2.E u = some d) → Stay (o :: l) s s0 := fun s2 g1 g2 g3 => by
        unfold rDo at g1
        rw [okOp_frz ho.1] at g1
        obtain ⟨E2, R2, nx2⟩ := s2
        have g4 : (stepF o.op P F (evF E2) (rget R2) R2 nx2 some).bind (appK o.dst E2 R2 nx2 (rexec P F n ops l) some) = some s0 := (stepF_nat _ hN ..).trans g1
        obtain ⟨e, g5, g6⟩ := Option.bind_eq_some_iff.1 g4
        obtain ⟨d, nx', he⟩ := okOp_step hN hp ho.1 g5
        rcases he with he | he
        · subst he; exact putG (s2 := ⟨E2, R2, nx2⟩) g6 g2 g3
        · subst he; exact putG (s2 := ⟨E2, R2, nx2⟩) g6 g2 g3
      unfold pickS at h1
      split at h1
      · rename_i t a b hop
        have ht : t < 4095 := by
          have := ho.1
          rw [hop] at this
          simpa [okOp] using this
        split at h1
        · rename_i b hb
          split at h1
          · exact go _ h1 h2 fun u d hu => putB_get (s := ⟨E1, R1, nx1⟩) ht hb (h3 u d hu)
          · exact go _ h1 h2 fun u d hu => putB_get (s := ⟨E1, R1, nx1⟩) ht hb (h3 u d hu)
        · cases h1
      · exact go _ h1 h2 h3
    have no : ∀ s1 : St, rNo o.dst (rexec P F n ops l) some s1 = some s0 → s1.R = s.R → (∀ u d, eget s.E u = some d → eget s1.E u = some d) → Stay (o :: l) s s0 := fun s1 h1 h2 h3 => by
      have : rNo o.dst (rexec P F n ops l) some s1 = rexec P F n ops l ⟨putO o.dst (.lit undef) s1.E, s1.R, s1.nx⟩ some := by
        cases o.dst <;> rfl
      rw [this] at h1
      exact putG (s2 := s1) h1 h2 h3
    unfold gate at h
    split at h
    · exact yes s h rfl fun _ _ h => h
    · rename_i j want hg
      split at h
      · cases h
      · rename_i t hj
        have ht : t < 4095 := by
          obtain ⟨o', ho', hd'⟩ := Option.bind_eq_some_iff.1 hj
          have hm : o' ∈ ops.toList := Array.mem_toList_iff.2 (Array.mem_of_getElem? ho')
          have := hops o' hm
          rw [hd'] at this
          simpa [okDst] using this
        split at h
        · rename_i b hb
          split at h
          · split at h
            · exact yes _ h rfl fun u d hu => putB_get ht hb hu
            · exact no _ h rfl fun u d hu => putB_get ht hb hu
          · split at h
            · exact no _ h rfl fun u d hu => putB_get ht hb hu
            · exact yes _ h rfl fun u d hu => putB_get ht hb hu
        · exact no _ h rfl fun _ _ h => h
        · cases h
def regB (fs : List Nat) (t : Nat) (E : ET) (ops : List Oper) : Bool := Nat.blt t 4095 && ops.all fun o => okOp fs o.op && okDst o.dst && match o.dst with
 | some u => Nat.beq u t || match eget E u with
  | none => true
  | some _ => false
 | none => true
def rbK (t : Nat) (s : St) : Option Bool := match eget s.E t with
 | some (.lit (.bool b)) => some b
 | _ => none
def exRegB {α : Type} (P : Program) (F : Orc) (n : Nat) (fs : List Nat) (t : Nat) (ops : Array Oper) (s : St) (k : Kont α) : Option α := match regB fs t s.E ops.toList with
 | true => match rexec (α := Bool) P F n ops ops.toList s (rbK t) with
  | some b => k .normal ⟨eput t (.b b) s.E, s.R, s.nx⟩
  | none => none
 | false => none
theorem Env.filter_get {T : ET} : ∀ (E : Env) (u : Nat) (d : AV), Env.get (E.filter fun p => @decide (eget T p.1 = some p.2) (Classical.propDecidable _)) u = some d → eget T u = some d
  | [], _, _, h => by cases h
  | (k, v) :: E, u, d, h => by
    by_cases hk : eget T k = some v
    · rw [List.filter_cons, if_pos (by simp [hk])] at h
      by_cases hku : k = u
      · subst hku
        rw [Env.get_hit] at h
        simp_all
      · rw [Env.get_miss _ _ hku] at h
        exact Env.filter_get E u d h
    · rw [List.filter_cons, if_neg (by simp [hk])] at h
      exact Env.filter_get E u d h
theorem Env.filter_hold {T : ET} : ∀ (E : Env) (u : Nat) (d : AV), eget T u = some d → E.get u = some d → Env.get (E.filter fun p => @decide (eget T p.1 = some p.2) (Classical.propDecidable _)) u = some d
  | [], _, _, _, h => by cases h
  | (k, v) :: E, u, d, ht, h => by
    by_cases hku : k = u
    · subst hku
      rw [Env.get_hit] at h
      cases h
      rw [List.filter_cons, if_pos (by simp [ht])]
      exact Env.get_hit _ _ _
    · rw [Env.get_miss _ _ hku] at h
      rw [List.filter_cons]
      split
      · rw [Env.get_miss _ _ hku]; exact Env.filter_hold E u d ht h
      · exact Env.filter_hold E u d ht h
theorem says_regB {α : Type} {C : Cg} (hF : OrcOk P F) (hN : OrcNat F) (hp : ∀ f ∈ fs, PureF F f) (id t : Nat) (ops : Array Oper) : Says (α := α) P C n (.region id ops false) (exRegB P F n fs t ops) := fun r s k a w h hm => by
  unfold exRegB at h
  split at h
  case h_2 => cases h
  rename_i hrb
  split at h
  case h_2 => cases h
  rename_i b hb
  unfold regB at hrb
  rw [Bool.and_eq_true, Nat.blt_eq] at hrb
  obtain ⟨ht, hall⟩ := hrb
  have hall : ∀ o ∈ ops.toList, (okOp fs o.op = true ∧ okDst o.dst = true) ∧ ∀ u, o.dst = some u → u = t ∨ eget s.E u = none := fun o ho => by
    have h1 := List.all_eq_true.1 hall o ho
    rw [Bool.and_eq_true, Bool.and_eq_true] at h1
    refine ⟨h1.1, fun u hu => ?_⟩
    have h2 := h1.2
    rw [hu] at h2
    dsimp only at h2
    rw [Bool.or_eq_true] at h2
    rcases h2 with h2 | h2
    · simp_all
    · right
      split at h2
      · assumption
      · cases h2
  have hnat := rexec_nat hN (P := P) (n := n) (ops := ops) (rbK t) ops.toList s some
  have hb' : (rexec P F n ops ops.toList s some).bind (rbK t) = some b := hnat.trans hb
  obtain ⟨s0, h1, h2⟩ := Option.bind_eq_some_iff.1 hb'
  obtain ⟨q1, q2⟩ := rexec_stay hN hp (fun o ho => (hall o ho).1.2) ops.toList (fun o ho => (hall o ho).1) h1
  have hend : Ends P C n (.region id ops false) (fun e s' => match e with
    | .normal => some s'
    | _ => none) s0 a w := by
    refine wp_mono (wp_region_lit (rexec_ok hF _ h1 hm)) fun e a' w' ⟨he, _, s', h3, h4⟩ => ?_
    subst he
    exact ⟨s', h3, h4⟩
  refine wp_mono hend fun e a' w' ⟨s', h3, h4⟩ => ?_
  cases e <;> first | (cases h3; done) | skip
  cases h3
  refine ⟨_, h, ?_⟩
  have hbt : eget s0.E t = some (.b b) := by
    unfold rbK at h2
    split at h2
    · simp_all
    · cases h2
  obtain ⟨E, hh, hE, hR, ρ, hag, hsim⟩ := hm
  obtain ⟨E0, hh0, hE0, hR0, ρ0, hag0, hsim0⟩ := h4
  let E1 : Env := (t, .b b) :: E.filter fun p => @decide (eget s.E p.1 = some p.2) (Classical.propDecidable _)
  have hkey : ∀ u d, E1.get u = some d → eget s0.E u = some d := fun u d hu => by
    by_cases htu : t = u
    · subst htu
      rw [Env.get_hit] at hu
      cases hu
      exact hbt
    · rw [Env.get_miss _ _ htu] at hu
      have h5 := Env.filter_get E u d hu
      refine q2 u d (fun o ho hd => ?_) h5
      rcases (hall o ho).2 u hd with h6 | h6
      · exact htu h6.symm
      · simp_all
  refine ⟨E1, fun u d hu => ?_, Env.cons_ltd (fun p hp => hE p (List.mem_filter.1 hp).1) (.lit _), hR, ρ0, ⟨hag0.1, hag.2⟩, ?_⟩
  · have hu : eget (eput t (.b b) s.E) u = some d := hu
    rw [eput_get2 ht] at hu
    split at hu
    · rename_i e; rw [← e, ← Option.some.inj hu]; exact Env.get_hit _ _ _
    · rename_i e
      rw [Env.get_miss _ _ e]
      exact Env.filter_hold E u d hu (hh u d hu)
  · rw [q1] at hsim0
    refine ⟨hsim0.defers, hsim0.size, fun u av hu => ?_, hsim0.good⟩
    rw [Env.sub_get] at hu
    obtain ⟨d, hd, rfl⟩ := Option.map_eq_some_iff.1 hu
    exact hsim0.slots u _ (by rw [Env.sub_get, hh0 u d (hkey u d hd)]; rfl)
end
inductive An : Type 1
 | no
 | two (l r : An)
 | lp (γ : Type) (rd : St → Option γ) (pat : γ → St) (adv : γ → Option γ) (body : An)
 | jn (γ : Type) (rd : St → Option γ) (pat : γ → St) (l r : An)
 | rb (fs : List Nat) (t : Nat)
def An.l : An → An
 | .two l _ => l
 | .jn _ _ _ l _ => l
 | _ => .no
def An.r : An → An
 | .two _ r => r
 | .jn _ _ _ _ r => r
 | _ => .no
abbrev XT := An → (α : Type) → St → Kont α → Option α
def mixB {γ : Type} (b : Bool) (p q : γ) : γ := match b with
 | true => p
 | false => q
def kOn {γ : Type} (rd : St → Option γ) : Kont (Option γ) := fun e s => match e with
 | .normal => (rd s).map some
 | _ => some none
def kEnd {γ : Type} (rd : St → Option γ) : Kont γ := fun e s => match e with
 | .normal => rd s
 | _ => none
def joinO {γ α : Type} (rd : St → Option γ) (pat : γ → St) (c : Operand) (s : St) (x y : (α : Type) → St → Kont α → Option α) (k : Kont α) : Option α := match c with
 | .tmp t => match eget s.E t with
  | some (.lit (.bool b)) => match x γ (s.putB t true) (kEnd rd) with
   | some p => match y γ (s.putB t false) (kEnd rd) with
    | some q => k .normal (pat (mixB b p q))
    | none => none
   | none => none
  | _ => none
 | _ => none
def axReg (P : Program) (F : Orc) (n : Nat) (id : Nat) (ops : Array Oper) (draw : Bool) : XT := fun an _ s k => match an with
 | .rb fs t => match draw with
  | false => exRegB P F n fs t ops s k
  | true => exReg P F n id ops true s k
 | _ => exReg P F n id ops draw s k
def axSeq (x y : XT) : XT := fun an α s k => x an.l α s (seqK (y an.r α) k)
def axCond (c : Operand) (x y : XT) : XT := fun an α s k => match an with
 | .jn _ rd pat l r => joinO rd pat c s (x l) (y r) k
 | an => condO c s (fun s => x an.l α s k) (fun s => y an.r α s k)
def axBlock (id : Nat) (x : XT) : XT := fun an α s k => x an α s (blockK id k)
def axLoop (fuel : Nat) (x : XT) : XT := fun an α s k => match an with
 | .lp _ rd pat adv b => match rd s with
  | some p => match adv p with
   | some q => x b α (pat q) (loopK k fun _ => none)
   | none => none
  | none => none
 | an => loopN (x an α) k fuel s
def execA (P : Program) (F : Orc) (n : Nat) (fuel : Nat) (c : Code) : XT :=
 Code.rec (fun _ _ s k => exSkip s k) (axReg P F n) (fun _ _ => axSeq) (fun c _ _ => axCond c) (fun id _ => axBlock id) (fun _ => axLoop fuel) (fun _ _ _ _ _ _ _ _ s k => exNo s k) (fun i _ _ s k => exExit i s k) (fun _ _ _ _ s k => exNo s k) (fun _ _ _ s k => exNo s k) (fun _ _ _ s k => exNo s k) (fun _ _ s k => exRet s k) (fun _ _ _ s k => exNo s k) c
def RdOk {γ : Type} (n0 n : Nat) (rd : St → Option γ) (pat : γ → St) : Prop := ∀ (C : Cg) s p a w, C.n = n0 → rd s = some p → Mt C n s a w → Mt C n (pat p) a w
def GoesX {γ : Type} (x : XT) (rd : St → Option γ) (pat : γ → St) (b : An) : Nat → γ → γ → Prop
 | 0, p, q => p = q
 | n + 1, p, q => ∃ p', x b (Option γ) (pat p) (kOn rd) = some (some p') ∧ GoesX x rd pat b n p' q
def AdvOk {γ : Type} (x : XT) (rd : St → Option γ) (pat : γ → St) (adv : γ → Option γ) (b : An) : Prop :=
 ∀ p q, adv p = some q → ∃ n, GoesX x rd pat b n p q
def AnOk (P : Program) (F : Orc) (n0 n : Nat) (fuel : Nat) (c : Code) : An → Prop :=
 Code.rec (fun _ => True) (fun _ _ _ an => match an with
  | .rb fs _ => ∀ f ∈ fs, PureF F f
  | _ => True) (fun _ _ x y an => x an.l ∧ y an.r) (fun _ _ _ x y an => (∀ γ rd pat l r, an = .jn γ rd pat l r → RdOk n0 n rd pat) ∧ x an.l ∧ y an.r) (fun _ _ x => x)
  (fun c x an => match an with
   | .lp _ rd pat adv b => RdOk n0 n rd pat ∧ AdvOk (execA P F n fuel c) rd pat adv b ∧ x b
   | an => x an) (fun _ _ _ _ _ _ _ => True) (fun _ _ => True) (fun _ _ _ => True) (fun _ _ => True) (fun _ _ => True) (fun _ => True) (fun _ _ => True) c
section
variable {P : Program} {F : Orc} {C : Cg} {n0 n : Nat}
theorem execA_ok (hF : OrcOk P F) (hN : OrcNat F) (hC : C.n = n0) (fuel : Nat) (c : Code) : ∀ an, AnOk P F n0 n fuel c an → ∀ (α : Type), Says (α := α) P C n c (execA P F n fuel c an α) := by
  induction c with
  | skip => exact fun an _ α r s k a w h hm => wp_skip ⟨s, h, hm⟩
  | region id ops draw =>
    intro an ho α
    cases an with
    | rb fs t =>
      cases draw with
      | false => exact says_regB hF hN ho id t ops
      | true => exact says_reg hF hN id ops true
    | _ => exact says_reg hF hN id ops draw
  | seq x y hx hy =>
    intro an ho α r s k a w h hm
    obtain ⟨h1, h2⟩ : AnOk P F n0 n fuel x an.l ∧ AnOk P F n0 n fuel y an.r := ho
    refine wp_seq (wp_mono (hx an.l h1 α r s _ a w h hm) fun e a' w' ⟨s', g1, g2⟩ => ?_)
    cases e with
    | normal => exact hy an.r h2 α r s' k a' w' g1 g2
    | _ => exact ⟨s', g1, g2⟩
  | cond c x y hx hy =>
    intro an ho α r s k a w h hm
    obtain ⟨h0, h1, h2⟩ : (∀ γ rd pat l r, an = .jn γ rd pat l r → RdOk n0 n rd pat) ∧ AnOk P F n0 n fuel x an.l ∧ AnOk P F n0 n fuel y an.r := ho
    have plain : condO c s (fun s => execA P F n fuel x an.l α s k) (fun s => execA P F n fuel y an.r α s k) = some r → Ends P C n (.cond c x y) k r a w := fun h => by
      obtain ⟨b, s', he, hm', h'⟩ := condO_ok h hm
      cases b with
      | true => exact wp_cond_true he (hx an.l h1 α r s' k a w h' hm')
      | false => exact wp_cond_false he (hy an.r h2 α r s' k a w h' hm')
    cases an with
    | jn γ rd pat l r' =>
      have hrd := h0 γ rd pat l r' rfl
      change joinO rd pat c s (execA P F n fuel x l) (execA P F n fuel y r') k = some r at h
      unfold joinO at h
      split at h
      case h_2 => cases h
      rename_i t
      split at h
      case h_2 => cases h
      rename_i b hb
      split at h
      case h_2 => cases h
      rename_i p hp
      split at h
      case h_2 => cases h
      rename_i q hq
      have hev : a.eval (.tmp t) = .bool b := by
        obtain ⟨E, hh, _, _, ρ, _, hs⟩ := hm
        refine ev_bool hs ?_
        have g1 := hh t _ hb
        show Env.get (E.sub ρ) t = _
        rw [Env.sub_get, g1, Option.map_some, sub_lit]
      have fin : ∀ (p : γ), k .normal (pat p) = some r → ∀ e a' w', (∃ s', kEnd rd e s' = some p ∧ Mt C n s' a' w') → ∃ s', k e s' = some r ∧ Mt C n s' a' w' := fun p hk e a' w' ⟨s', g1, g2⟩ => by
        cases e with
        | normal => exact ⟨_, hk, hrd C s' p a' w' hC g1 g2⟩
        | _ => cases g1
      cases b with
      | true => exact wp_cond_true hev (wp_mono (hx l h1 γ p _ _ a w hp (hm.putB hb)) (fin p h))
      | false => exact wp_cond_false hev (wp_mono (hy r' h2 γ q _ _ a w hq (hm.putB hb)) (fin q h))
    | _ => exact plain h
  | block id x hx =>
    intro an ho α r s k a w h hm
    refine wp_block (wp_mono (hx an ho α r s _ a w h hm) fun e a' w' ⟨s', h1, h2⟩ => ?_)
    cases e with
    | exit id' =>
      simp only [blockK] at h1
      simp only [Exit.inBlock]
      split
      · rename_i he
        subst he
        have hb : Nat.beq id' id' = true := Nat.beq_refl _
        simp only [hb] at h1
        exact ⟨s', h1, h2⟩
      · rename_i he
        have hb : Nat.beq id' id = false := by
          cases hb : Nat.beq id' id with
          | false => rfl
          | true => exact absurd (Nat.eq_of_beq_eq_true hb) he
        simp only [hb] at h1
        exact ⟨s', h1, h2⟩
    | _ => exact ⟨s', h1, h2⟩
  | loop c hc =>
    intro an ho α r s k a w h hm
    cases an with
    | lp γ rd pat adv b =>
      obtain ⟨hrd, hadv, hb⟩ : RdOk n0 n rd pat ∧ AdvOk (execA P F n fuel c) rd pat adv b ∧ AnOk P F n0 n fuel c b := ho
      change (match rd s with
        | some p => match adv p with
          | some q => execA P F n fuel c b α (pat q) (loopK k fun _ => none)
          | none => none
        | none => none) = some r at h
      split at h
      case h_2 => cases h
      rename_i p hp
      split at h
      case h_2 => cases h
      rename_i q hq
      obtain ⟨m, hgo⟩ := hadv p q hq
      have key : ∀ (m : Nat) (p : γ), GoesX (execA P F n fuel c) rd pat b m p q → ∀ (a : Act) (w : World), Mt C n (pat p) a w →
          c.wp P (Exit.then (InL P c fun e a' w' => ∃ s', k e s' = some r ∧ Mt C n s' a' w') fun e a' w' => ∃ s', k e s' = some r ∧ Mt C n s' a' w') a w := by
        intro m
        induction m with
        | zero =>
          intro p hg a w hm
          have hg : p = q := hg
          subst hg
          refine wp_mono (hc b hb α r _ _ a w h hm) fun e a' w' ⟨s', q1, q2⟩ => ?_
          cases e with
          | normal => cases q1
          | _ => exact ⟨s', q1, q2⟩
        | succ m ih =>
          intro p hg a w hm
          obtain ⟨p', g1, g3⟩ := hg
          refine wp_mono (hc b hb (Option γ) (some p') _ _ a w g1 hm) fun e a' w' ⟨s', q1, q2⟩ => ?_
          cases e with
          | normal =>
            obtain ⟨p'', q3, q4⟩ := Option.map_eq_some_iff.1 (show (rd s').map some = some (some p') from q1)
            cases q4
            exact inL_step (ih p' g3 a' w' (hrd C s' p' a' w' hC q3 q2))
          | _ => cases q1
      exact wp_unroll (key m p hgo a w (hrd C s p a w hC hp hm))
    | _ => exact says_loop (hc _ ho α) fuel r s k a w h hm
  | exit i => exact fun an _ α r s k a w h hm => wp_exit ⟨s, h, hm⟩
  | ret => exact fun an _ α r s k a w h hm => wp_ret ⟨s, h, hm⟩
  | _ => exact fun an _ α r s k a w h hm => by cases h
def callR (P : Program) (F : Orc) (fuel : Nat) (an : An) {α : Type} (f : FuncId) (args : List AV) (R : IRs) (nx : Nat) (k : St → Option α) : Option α := match P.funcs[f]? with
 | some fn => match fn.body with
  | some c => match Nat.ble args.length fn.ntmps && !(fn.name == "runtime.NumGoroutine") with
   | true => execA P F fn.ntmps fuel c an α ⟨argsT 0 args .e, R, nx⟩ fun e s => match e with
    | .normal => k s
    | .ret => k s
    | _ => none
   | false => none
  | none => none
 | none => none
def FnAn (P : Program) (F : Orc) (n0 : Nat) (fuel : Nat) (f : FuncId) (an : An) : Prop := ∀ fn c, P.funcs[f]? = some fn → fn.body = some c → AnOk P F n0 fn.ntmps fuel c an
def outOf (P : Program) (f : FuncId) (s : St) : Option (List AV) := match P.funcs[f]? with
 | some fn => resL P s fn.results.toList
 | none => none
structure Out where
 d : AV
 R : IRs
 c : Nat
def FnY (P : Program) (f : FuncId) (args : List AV) (R0 : IRs) (n0 : Nat) (x : Out) : Prop := ∀ ρ : Gh, Fn P f (args.map (AVq.sub ρ)) (IRs.res ρ R0) (fun a s => ∃ ρ' : Gh, Agr n0 ρ ρ' ∧ a = x.d.sub ρ' ∧ List.Perm s (IRs.res ρ' x.R))
theorem fnY_of (hF : OrcG P F) {n0 fuel : Nat} {f : FuncId} {an : An} (han : FnAn P F n0 fuel f an) {args : List AV} {R0 : IRs} {γ : Type} {rd : St → Option γ} {pat : γ → St} {out : γ → Out} {p : γ}
    (hrd : ∀ n, RdOk n0 n rd pat) (ho : ∀ p, (match outOf P f (pat p) with
      | some ds => some (Out.mk (resA ds) (keepR (pat p).R n0 (resA ds)) (pat p).nx)
      | none => none) = some (out p))
    (hargs : ∀ d ∈ args, Ltd n0 d) (hR : IRs.Ltd n0 R0) (h : callR P F fuel an f args R0 n0 rd = some p) : fnOk P f ∧ FnY P f args R0 n0 (out p) := by
  unfold callR at h
  split at h
  case h_2 => cases h
  rename_i fn hf
  split at h
  case h_2 => cases h
  rename_i c hb
  split at h
  case h_2 => cases h
  rename_i hc
  rw [Bool.and_eq_true] at hc
  obtain ⟨hl, hnm⟩ := hc
  have hop := ho p
  split at hop
  case h_2 => cases hop
  rename_i ds hds
  have hds : resL P (pat p) fn.results.toList = some ds := by
    unfold outOf at hds
    rw [hf] at hds
    exact hds
  have hop := Option.some.inj hop
  refine ⟨⟨fn, hf, by simpa using hnm, by rw [hb]; rfl⟩, fun ρ => Fn.of hf hb rfl (by rw [List.length_map]; exact hl) fun C a w ha => ?_⟩
  have hm : Mt ⟨C, ρ, n0⟩ fn.ntmps ⟨argsT 0 args .e, R0, n0⟩ a w := by
    refine ⟨argsEnv 0 args, ?_, fun q hq => hargs _ (argsEnv_mem hq), hR, ρ, ⟨.refl _ _, Nat.le_refl _⟩, ?_⟩
    · have := hold_args args 0 .e [] (fun t d ht => by cases t <;> cases ht) (fun t d ht => by cases t <;> cases ht)
      rwa [List.append_nil] at this
    · rw [argsEnv_sub]; exact ha
  refine wp_mono (execA_ok (C := ⟨C, ρ, n0⟩) hF.ok hF.nat rfl fuel c an (han fn c hf hb) γ p _ _ a w h hm) fun e a' w' ⟨s', h1, h2⟩ => ?_
  have fin : ∀ e : Exit, (e = .normal ∨ e = .ret) → rd s' = some p → ∃ E' σ', Sim C fn.ntmps E' σ' a' w' ∧ FinQ P C fn.ntmps fn (fun a s => ∃ ρ' : Gh, Agr n0 ρ ρ' ∧ a = (out p).d.sub ρ' ∧ List.Perm s (IRs.res ρ' (out p).R)) e E' σ' := fun e he hp => by
    have hm' := hrd fn.ntmps ⟨C, ρ, n0⟩ s' p a' w' rfl hp h2
    obtain ⟨E, hh, hE, hR, ρ', ⟨hag, hnx⟩, hsim⟩ := hm'
    have hsub : List.Sublist (keepR (pat p).R n0 (resA ds)) (pat p).R := keepL_sub _ _ _
    refine ⟨_, _, hsim, fin_of (σ' := IRs.res ρ' (keepR (pat p).R n0 (resA ds))) (av := (resA ds).sub ρ') he (hsub.map _) ⟨ρ', hag, by rw [← hop], by rw [← hop]⟩ fun A w' tmps hd hs => ?_⟩
    obtain ⟨us, q1, q2⟩ := resL_ok hh hd hs hds
    refine ⟨_, ?_, resA_rel q2⟩
    show (do let vs ← fn.results.mapM (resOne tmps); pure (if h : vs.size = 1 then vs[0] else .tuple vs) : Sem Value).run P w' = _
    have e1 : fn.results = fn.results.toList.toArray := by simp
    rw [e1, List.mapM_toArray]
    simp [q1]
  cases e with
  | normal => exact fin _ (.inl rfl) h1
  | ret => exact fin _ (.inr rfl) h1
  | _ => cases h1
end
section
variable {γ : Type} (rnd : γ → Option (Option γ))
def Goes : Nat → γ → γ → Prop
 | 0, p, q => p = q ∧ ∀ r, rnd p ≠ some (some r)
 | n + 1, p, q => ∃ p', rnd p = some (some p') ∧ Goes n p' q
open Classical in
def advG (p : γ) : Option γ := if h : ∃ q n, Goes rnd n p q then some (Classical.choose h) else none
variable {rnd}
theorem Goes.det : ∀ {n m : Nat} {p q q' : γ}, Goes rnd n p q → Goes rnd m p q' → n = m ∧ q = q'
 | 0, 0, p, q, q', ⟨h1, _⟩, ⟨h2, _⟩ => ⟨rfl, h1 ▸ h2⟩
 | 0, m + 1, p, q, q', ⟨h1, h3⟩, ⟨p', h2, _⟩ => absurd h2 (h3 p')
 | n + 1, 0, p, q, q', ⟨p', h2, _⟩, ⟨h1, h3⟩ => absurd h2 (h3 p')
 | n + 1, m + 1, p, q, q', ⟨p', h1, h2⟩, ⟨p'', h3, h4⟩ => by
  rw [h1] at h3
  cases h3
  obtain ⟨e1, e2⟩ := Goes.det h2 h4
  exact ⟨by rw [e1], e2⟩
theorem Goes.adv {n : Nat} {p q : γ} (h : Goes rnd n p q) : advG rnd p = some q := by
 have hx : ∃ q n, Goes rnd n p q := ⟨q, n, h⟩
 unfold advG
 rw [dif_pos hx]
 obtain ⟨m, hm⟩ := Classical.choose_spec hx
 rw [(Goes.det hm h).2]
theorem advG_goes {p q : γ} (h : advG rnd p = some q) : ∃ n, Goes rnd n p q := by
  unfold advG at h
  split at h
  · rename_i hx
    cases h
    exact Classical.choose_spec hx
  · cases h
theorem advG_step {p p' : γ} (h : rnd p = some (some p')) : advG rnd p = advG rnd p' := by
 cases h2 : advG rnd p' with
 | some q =>
  obtain ⟨n, hn⟩ := advG_goes h2
  exact (show Goes rnd (n + 1) p q from ⟨p', h, hn⟩).adv
 | none =>
  cases h1 : advG rnd p with
  | none => rfl
  | some q =>
   obtain ⟨n, hn⟩ := advG_goes h1
   cases n with
   | zero => exact absurd h (hn.2 p')
   | succ n =>
    obtain ⟨p'', h3, h4⟩ := hn
    rw [h] at h3
    cases h3
    rw [h4.adv] at h2
    cases h2
theorem advG_stop {p : γ} (h : ∀ r, rnd p ≠ some (some r)) : advG rnd p = some p := (show Goes rnd 0 p p from ⟨rfl, h⟩).adv
theorem Goes.x {x : XT} {rd : St → Option γ} {pat : γ → St} {b : An} (hx : ∀ p, x b (Option γ) (pat p) (kOn rd) = rnd p) : ∀ {n : Nat} {p q : γ}, Goes rnd n p q → GoesX x rd pat b n p q
 | 0, _, _, h => h.1
 | _ + 1, _, _, ⟨p', h1, h2⟩ => ⟨p', by rw [hx]; exact h1, Goes.x hx h2⟩
theorem advG_ok {x : XT} {rd : St → Option γ} {pat : γ → St} {b : An} (hx : ∀ p, x b (Option γ) (pat p) (kOn rd) = rnd p) : AdvOk x rd pat (advG rnd) b := fun p q h => by
 obtain ⟨n, hn⟩ := advG_goes h
 exact ⟨n, hn.x hx⟩
end
end Go.Iv
end
