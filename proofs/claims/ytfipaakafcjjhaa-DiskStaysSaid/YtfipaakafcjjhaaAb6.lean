/- More operations. Program-independent. -/
import Derived.Test.YtfipaakafcjjhaaAb5
import Derived.Laws.BytesArg
set_option linter.unusedSectionVars false
set_option linter.unusedVariables false
set_option linter.unusedSimpArgs false
namespace Go.Ab
open Go Go.RowKit
section
variable {P : Program} {E E' : Env} {σ σ' : List Res} {o : Oper} {x y : Operand} {av bv : AV} {C : Cx} {X : List Nat} {n : Nat} {T T' e : TypeId}
section
variable {ops : Array Oper} {A1 : Nat → Prop} {w1 : World} {K : Env → List Res → Prop} {fuel : Nat} {listed : Array Bool} {Eb : Env} {i0 : Nat}
theorem RO.frz {r : Res} (i t : Nat) (hσ : σ[i]? = some r) (ht : E.get t = some av) (hv : Vw [r] av bv) (h : RO P C n ops X A1 w1 K fuel listed i0 Eb ((t, bv) :: E) (σ.eraseIdx i)) : RO P C n ops X A1 w1 K fuel listed i0 Eb E σ := fun a w ha hb hS hA =>
  h a w (ha.frz hσ ht hv) hb hS fun b hb hc => al_erase hσ ha.good b (.inl (hA b hb hc))
theorem RH.frz {r : Res} (i t : Nat) (hσ : σ[i]? = some r) (ht : E.get t = some av) (hv : Vw [r] av bv) (h : RH P C n ops X A1 w1 K fuel listed Eb ((t, bv) :: E) (σ.eraseIdx i)) : RH P C n ops X A1 w1 K fuel listed Eb E σ := fun a w ha hb hS hA =>
  h a w (ha.frz hσ ht hv) hb hS fun b hb hc => al_erase hσ ha.good b (.inl (hA b hb hc))
theorem RO.say (t : Nat) (ht : E.get t = some av) (hv : Vw [] av bv) (h : RO P C n ops X A1 w1 K fuel listed i0 Eb ((t, bv) :: E) σ) : RO P C n ops X A1 w1 K fuel listed i0 Eb E σ := fun a w ha hb hS hA =>
  h a w (ha.say ht hv) hb hS hA
theorem al_own {α : Type} [Inhabited α] (p : Option Addr) (T : TypeId) (sz : Nat) (c : α → List AV) : ∀ b, al C σ b → al C (.row (.slice p 0 0) T sz c ([] : List α) :: σ) b := fun b hb => ⟨hb.1, fun hx => hb.2 (by
  rw [blks_cons] at hx
  have : Res.blk (.row (.slice p 0 0) T sz c ([] : List α)) = none := by cases p <;> rfl
  rw [this] at hx
  simpa using hx)⟩
theorem RO.own {α : Type} [Inhabited α] (p : Option Addr) (T : TypeId) (sz : Nat) (c : α → List AV) (h : RO P C n ops X A1 w1 K fuel listed i0 Eb E (.row (.slice p 0 0) T sz c ([] : List α) :: σ)) : RO P C n ops X A1 w1 K fuel listed i0 Eb E σ := fun a w ha hb hS hA =>
  h a w (ha.tr (tr_own p T sz c ha.good)) hb hS fun b hb hc => al_own p T sz c b (hA b hb hc)
theorem RH.own {α : Type} [Inhabited α] (p : Option Addr) (T : TypeId) (sz : Nat) (c : α → List AV) (h : RH P C n ops X A1 w1 K fuel listed Eb E (.row (.slice p 0 0) T sz c ([] : List α) :: σ)) : RH P C n ops X A1 w1 K fuel listed Eb E σ := fun a w ha hb hS hA =>
  h a w (ha.tr (tr_own p T sz c ha.good)) hb hS fun b hb hc => al_own p T sz c b (hA b hb hc)
theorem RO.sel (is : List Nat) (hs : Ab.sel σ is = some σ') (h : RO P C n ops X A1 w1 K fuel listed i0 Eb E σ') : RO P C n ops X A1 w1 K fuel listed i0 Eb E σ := fun a w ha hb hS hA => by
  obtain ⟨κ, hp⟩ := sel_perm is σ _ hs
  exact h a w (ha.sel is hs) hb hS fun b hb hc => ⟨(hA b hb hc).1, fun hx => (hA b hb hc).2 (by
    have := (hp.filterMap Res.blk).mem_iff (a := b)
    exact this.2 (by simpa [blks] using Or.inl (by simpa [blks] using hx)))⟩
theorem RH.frzB {r : Res} {g : Nat} {t : TypeId} {cs cs' : List AV} (i j : Nat) (hσ : σ[i]? = some r) (hj : (σ.eraseIdx i)[j]? = some (.box g t cs)) (hv : VwL [r] cs cs') (h : RH P C n ops X A1 w1 K fuel listed Eb E ((σ.eraseIdx i).set j (.box g t cs'))) : RH P C n ops X A1 w1 K fuel listed Eb E σ := fun a w ha hb hS hA =>
  h a w (ha.frzB hσ hj hv) hb hS fun b hb hc => by
    have := al_erase hσ ha.good b (.inl (hA b hb hc))
    exact ⟨this.1, by rw [blks_set (r' := Res.box g t cs') hj rfl]; exact this.2⟩
theorem RH.sayB {g : Nat} {t : TypeId} {cs cs' : List AV} (j : Nat) (hj : σ[j]? = some (.box g t cs)) (hv : VwL [] cs cs') (h : RH P C n ops X A1 w1 K fuel listed Eb E (σ.set j (.box g t cs'))) : RH P C n ops X A1 w1 K fuel listed Eb E σ := fun a w ha hb hS hA =>
  h a w (ha.sayB hj hv) hb hS fun b hb hc => ⟨(hA b hb hc).1, by rw [blks_set (r' := Res.box g t cs') hj rfl]; exact (hA b hb hc).2⟩
end

theorem Hd.keep {A : Nat → Prop} {w w' : World} (h : Hd A σ w) (hw : ∀ b, b < w.heap.size → (A b ∨ b ∈ blks σ) → w'.heap[b]? = w.heap[b]?) : Hd A σ w' :=
  ⟨fun r hr => (h.1 r hr).mono (fun b hb hA => ⟨hA, hw b hb (.inl hA)⟩) (fun b hb => hw b ((h.1 r hr).lt hb) (.inr (mem_blks.2 ⟨r, hr, hb⟩))), h.2⟩
theorem Ops.keep {A : Nat → Prop} {w w' : World} {ρ : Operand → Value} (h : Ops A w E ρ) (hw : ∀ b, b < w.heap.size → A b → w'.heap[b]? = w.heap[b]?) : Ops A w' E ρ := fun x u hx => (h x u hx).mono fun b hb hA => ⟨hA, hw b hb hA⟩

theorem relL_ints {A : Nat → Prop} {w : World} {k : IntKind} : ∀ {l : List Int} {us : List Value}, RelL A w (l.flatMap (cN k)) us → us = l.map (Value.int k)
  | [], us, h => List.eq_nil_of_length_eq_zero (by simpa using h.1)
  | x :: l, us, h => by
    obtain ⟨v, us', rfl, h1, h2⟩ := RelL.head (show RelL A w (AV.n k x :: l.flatMap (cN k)) us from h)
    rw [h1.litEq, relL_ints h2]
    rfl

/-- string(b) -/
theorem Yp.b2s {l : List Int} (ho : o.op = .convert T T' x) (hx : Src σ E x e 1 (cN .u8) l) (hs : P.underlying T = some (.slice e)) (he : P.underlying e = some (.int .u8)) (hd : P.underlying T' = some .string) : Yp P E σ o (.s (strOfNums l)) := fun A w ρ h hρ =>
  ⟨_, .lit _, fun w' hw => by
    obtain ⟨p, cap, news, h1, h2, h3, _, h5, _⟩ := hx.spec (h.keep hw) (hρ.keep fun b hb hA => hw b hb (.inl hA))
    have h6 := relL_ints h5
    have hconv : (convert T T' (.slice p l.length cap)).run P w' = .ok (.string (strOfNums l)) w' := by
      cases p with
      | none =>
        have : l = [] := by
          rcases h2 with h2 | ⟨a, h2, _⟩
          · exact List.eq_nil_of_length_eq_zero h2
          · cases h2
        subst this
        have hc := run_convert_bytes_nil (P := P) w' T e hs he 0 cap T' hd
        have : strOfNums [] = ByteArray.empty := rfl
        rw [this]
        simpa using hc
      | some a =>
        have hl : (loadCells a l.length).run P w' = .ok (l.map (Value.int .u8)).toArray w' := by
          rcases h2 with h2 | ⟨a', h2, h4⟩
          · have : l = [] := List.eq_nil_of_length_eq_zero h2
            subst this
            simp [loadCells, loadCellsFrom]
          · cases h2
            have := run_loadCells_list (P := P) w' a (l.map (Value.int .u8)) (fun j v hj => h4 j v (by rw [h6]; exact hj))
            simpa using this
        rw [run_convert_bytes_string w' T T' e _ l.length cap hs he hd, run_bytesToString w' _ l.length cap l hl, foldl_push_bytes]
        simp [strOfNums, ByteArray.empty, ByteArray.emptyWithCapacity]
        rfl
    simp [execOp, ho, h1, hconv]⟩
theorem Yp.seql {s t : ByteArray} (ho : o.op = .binOp .eql T x y T') (hx : E.ev x = some (.s s)) (hy : E.ev y = some (.s t)) : Yp P E σ o (.b (s.toList == t.toList)) := Yp.lits fun ρ hρ w => by
  simp [execOp, ho, hρ _ _ hx, hρ _ _ hy, eqGuard, binOp, Op.stringOp]
theorem Yp.sneq {s t : ByteArray} (ho : o.op = .binOp .neq T x y T') (hx : E.ev x = some (.s s)) (hy : E.ev y = some (.s t)) : Yp P E σ o (.b (!(s.toList == t.toList))) := Yp.lits fun ρ hρ w => by
  simp [execOp, ho, hρ _ _ hx, hρ _ _ hy, eqGuard, binOp, Op.stringOp]
theorem run_equal_bool {w : World} {b c : Bool} (hT : P.underlying T = some .bool) : (Op.equal T (.bool b) (.bool c)).run P w = .ok (b == c) w := by
  obtain ⟨d, hd⟩ : ∃ d, Op.maxDepth = d + 1 := ⟨Op.maxDepth - 1, by decide⟩
  unfold Op.equal
  rw [hd]
  unfold Op.equalIn
  simp only [Sem.run_bind, run_underlying hT, Result.andThen_ok]
  rfl
theorem Yp.beql {b c : Bool} (ho : o.op = .binOp .eql T x y T') (hT : P.underlying T = some .bool) (hx : E.ev x = some (.b b)) (hy : E.ev y = some (.b c)) : Yp P E σ o (.b (b == c)) := Yp.lits fun ρ hρ w => by
  have hbin : binOp .eql T (.bool b) (.bool c) = (do pure (.bool (← Op.equal T (.bool b) (.bool c)))) := rfl
  have h1 := run_equal_bool (P := P) (T := T) (w := w) (b := b) (c := c) hT
  simp only [execOp, ho, hρ _ _ hx, hρ _ _ hy, eqGuard, hbin]
  simp [h1]
theorem Yp.bneq {b c : Bool} (ho : o.op = .binOp .neq T x y T') (hT : P.underlying T = some .bool) (hx : E.ev x = some (.b b)) (hy : E.ev y = some (.b c)) : Yp P E σ o (.b (!(b == c))) := Yp.lits fun ρ hρ w => by
  have hbin : binOp .neq T (.bool b) (.bool c) = (do pure (.bool (!(← Op.equal T (.bool b) (.bool c))))) := rfl
  have h1 := run_equal_bool (P := P) (T := T) (w := w) (b := b) (c := c) hT
  simp only [execOp, ho, hρ _ _ hx, hρ _ _ hy, eqGuard, hbin]
  simp [h1]
end
end Go.Ab
