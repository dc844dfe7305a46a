/- Calls whose arguments are old data: nothing that they return lies in old blocks. Program-independent. -/
import Derived.Test.YtfipaakafcjjhaaAb8
set_option linter.unusedSectionVars false
set_option linter.unusedVariables false
set_option linter.unusedSimpArgs false
namespace Go.Ab
open Go Go.RowKit

def allA : Nat → Prop := fun _ => True
def noA : Nat → Prop := fun _ => False

/-- f, called with what reads ys args: what it returns lies in new blocks. -/
def Fr (P : Program) (f : FuncId) (args : List AV) (Φ : AV → List Res → Prop) : Prop := ∀ (w : World) (vs : List Value), RelL allA w args vs →
  Calls P f vs.toArray w fun e w' => ∃ v av σ', e = .returned v ∧ Φ av σ' ∧ Tr ⟨w, noA, []⟩ [] [] w σ' w' ∧ Rel (al ⟨w, noA, []⟩ σ') w' av v

theorem hd_nil (A : Nat → Prop) (w : World) : Hd A [] w := ⟨fun r (hr : r ∈ ([] : List Res)) => (List.not_mem_nil hr).elim, fun b (hb : b ∈ ([] : List Nat)) => (List.not_mem_nil hb).elim⟩

theorem Fr.of {P : Program} {f : FuncId} {fn : Func} {c : Code} {n : Nat} {args : List AV} {Φ : AV → List Res → Prop} (hf : P.funcs[f]? = some fn) (hb : fn.body = some c) (hn : fn.ntmps = n)
    (h : ∀ (C : Cx) vs, C.O0 = [] → RelL allA C.w0 args vs → ∃ ys, Nat.ble ys.length n = true ∧ (∀ A w, RelL A w ys vs) ∧ CW P C n c (FinQ P C n fn Φ) (argsEnv 0 ys) []) : Fr P f args Φ := fun w vs hr => by
  obtain ⟨ys, h1, h2, h3⟩ := h ⟨w, noA, []⟩ vs rfl hr
  exact Fn.at (σ := []) hf hb hn h1 (h2 noA w) (hd_nil _ _) List.nodup_nil (fun a ha _ => h3 a w ha)

theorem tr_new0 {w w' : World} {A : Nat → Prop} {σ σ' : List Res} (h : Tr ⟨w, A, []⟩ [] [] w σ w') (hs : blks σ' = blks σ ∨ σ' = []) (hok : ∀ r ∈ σ', r.ok (al ⟨w, noA, []⟩ σ') w') : Tr ⟨w, noA, []⟩ [] [] w σ' w' :=
  ⟨⟨h.good.kept, hok, by
    rcases hs with hs | rfl
    · rw [hs]; exact h.good.dis
    · exact List.nodup_nil, fun b hb => by
    rcases hs with hs | rfl
    · rw [hs] at hb; exact h.good.own b hb
    · cases hb⟩, h.kp, fun b hb hA => by
      rcases hA.1 with h | h | h
      · exact h.elim
      · cases h
      · exact absurd hb (Nat.not_lt.2 h)⟩

theorem Fr.ofFn {P : Program} {f : FuncId} {args : List AV} {Φ : AV → List Res → Prop} (h : Fn P f args [] Φ) (hc : ∀ av σ', Φ av σ' → Cl av ∧ ∀ r ∈ σ', ClR r) : Fr P f args Φ := fun w vs hr =>
  (h w allA vs hr (hd_nil _ _) List.nodup_nil).mono fun e w' ⟨v, av, σ', q1, q2, q3, q4⟩ =>
    ⟨v, av, σ', q1, q2, tr_new0 q3 (.inl rfl) (fun r hr => (hc _ _ q2).2 r hr _ _ _ (q3.good.res r hr)), (hc _ _ q2).1 _ _ _ _ q4⟩

/-- an own row that is returned becomes data -/
theorem Fr.frz {P : Program} {f : FuncId} {args : List AV} {T : TypeId} {α : Type} [Inhabited α] {sz : Nat} {c : α → List AV} {l : List α} (h : Fr P f args (fun a s => ∃ v : Value, a = .lit v ∧ s = [.row v T sz c l])) : Fr P f args (fun a s => a = .sl sz c l ∧ s = []) := fun w vs hr =>
  (h w vs hr).mono fun e w' ⟨v, _, _, q1, ⟨u, rfl, rfl⟩, q3, q4⟩ =>
    ⟨v, _, [], q1, ⟨rfl, rfl⟩, tr_new0 q3 (.inr rfl) (fun r hr => by cases hr), (Vw.row 0 rfl _ _ _ q3.good.hd q4).mono fun b _ hb => ⟨by
      rcases hb with hb | hb
      · exact ⟨hb.1, fun hx => by cases hx⟩
      · rcases q3.good.own b hb with hx | hx
        · cases hx
        · exact ⟨.inr (.inr hx), fun hx => by cases hx⟩, rfl⟩⟩

theorem Fr.frzG {P : Program} {f : FuncId} {args : List AV} {Φ Ψ : AV → List Res → Prop} (h : Fr P f args Φ) (hv : ∀ a s, Φ a s → ∃ b, Ψ b [] ∧ Vw s a b) : Fr P f args Ψ := fun w vs hr =>
  (h w vs hr).mono fun e w' ⟨v, a, s, q1, q2, q3, q4⟩ => by
    obtain ⟨b, h1, h2⟩ := hv a s q2
    exact ⟨v, b, [], q1, h1, tr_new0 q3 (.inr rfl) (fun r hr => by cases hr), (h2 _ _ _ q3.good.hd q4).mono fun b _ hb => ⟨by
      rcases hb with hb | hb
      · exact ⟨hb.1, fun hx => by cases hx⟩
      · rcases q3.good.own b hb with hx | hx
        · cases hx
        · exact ⟨.inr (.inr hx), fun hx => by cases hx⟩, rfl⟩⟩

/-- The values are these and no others. -/
def Det (ys : List AV) (vs : List Value) : Prop := ∀ A w, (RelL A w ys vs) ∧ ∀ us, RelL A w ys us → us = vs
theorem Det.nil : Det [] [] := fun _ _ => ⟨RelL.nil, fun us h => List.eq_nil_of_length_eq_zero (by simpa using h.1)⟩
theorem Det.lit {v : Value} {ys : List AV} {vs : List Value} (h : Det ys vs) : Det (.lit v :: ys) (v :: vs) := fun A w => ⟨RelL.cons (.lit v) (h A w).1, fun us hr => by
  obtain ⟨u, us', rfl, h1, h2⟩ := hr.head
  rw [h1.litEq, (h A w).2 _ h2]⟩
theorem Det.agg {cs ys : List AV} {us vs : List Value} (hc : Det cs us) (h : Det ys vs) : Det (.agg cs :: ys) (.agg us.toArray :: vs) := fun A w => ⟨RelL.cons (Rel.aggL (hc A w).1) (h A w).1, fun us hr => by
  obtain ⟨u, us', rfl, h1, h2⟩ := hr.head
  obtain ⟨xs, rfl, h3⟩ := h1.aggInv
  rw [(hc A w).2 _ h3, (h A w).2 _ h2]⟩
theorem Det.lits : ∀ us : List Value, Det (us.map .lit) us
  | [] => Det.nil
  | _ :: us => Det.lit (Det.lits us)

section
variable {P : Program} {C : Cx} {E : Env} {σ : List Res} {o : Oper} {T e : TypeId} {x y : Operand} {f : FuncId} {xs : Array Operand} {ts : Array TypeId} {ys caps args args' : List AV} {vs us : List Value} {Φ : AV → List Res → Prop} {s : Value} {m : Int} {k : IntKind} {W : World} {A : Nat → Prop}

theorem Good.old (hO : C.O0 = []) {w : World} (h : Good C σ w) : ∀ b, b < C.w0.heap.size → w.heap[b]? = C.w0.heap[b]? := fun b hb => h.kept.block b hb (by rw [hO]; simp)

theorem Good.oldL (hO : C.O0 = []) {w : World} (h : Good C σ w) (hr : RelL allA C.w0 args vs) : RelL allA w args vs := hr.mono fun b hb _ => ⟨trivial, h.old hO b hb⟩

theorem Yc.old (hO : C.O0 = []) (ho : o.op = .call { callee := .value x, args := xs, argTypes := ts }) (hx : E.ev x = some (.fn (.func f) caps)) (hf : fnOk P f) (he : E.evl xs.toList = some ys) (ha : ys ++ caps = args) (hd : ∀ us w, Good C σ w → RelL (al C σ) w args us → RelL allA w args' us) (h : Fr P f args' Φ) :
    Yc P E σ o C [] (fun av σ' => ∃ σo, Φ av σo ∧ σ' = σo ++ σ) := fun w ρ hg hρ => by
  obtain ⟨us, h1, h2⟩ := call_run ho hx hf he ha hρ
  have hlt : ∀ b ∈ blks σ, b < w.heap.size := fun b hb => by
    obtain ⟨s, h1, h2⟩ := mem_blks.1 hb
    exact (hg.res s h1).lt h2
  refine ⟨f, us.toArray, h2, (h w us (hd us w hg h1)).mono fun e w' ⟨v, av, σo, q1, q2, q3, q4⟩ => ?_⟩
  have hsub : ∀ b, al ⟨w, noA, []⟩ σo b → al C (σo ++ σ) b := fun b hb => by
    obtain ⟨hb1, hb2⟩ := hb
    rcases hb1 with hb1 | hb1 | hb1
    · exact hb1.elim
    · cases hb1
    · have hbw : w.heap.size ≤ b := hb1
      exact ⟨.inr (.inr (Nat.le_trans hg.kept.size hbw)), fun hx => (blks_mem_app.1 hx).elim hb2 (fun h => by have := hlt b h; omega)⟩
  exact ⟨v, av, σo ++ σ, q1, ⟨σo, q2, rfl⟩, tr_call (σp := []) hg (fun b hA _ => hA.elim) q3 (fun r hr => (q3.good.res r hr).mono (fun b hb hA => ⟨hsub b hA, rfl⟩) (fun _ _ => rfl)), q4.mono fun b hb hA => ⟨hsub b hA, rfl⟩⟩

/-- A call with old data. -/
theorem Yc.det (hO : C.O0 = []) (hd : Det args vs) (hr : RelL allA C.w0 args' vs) (ho : o.op = .call { callee := .value x, args := xs, argTypes := ts }) (hx : E.ev x = some (.fn (.func f) caps)) (hf : fnOk P f) (he : E.evl xs.toList = some ys) (ha : ys ++ caps = args) (h : Fr P f args' Φ) :
    Yc P E σ o C [] (fun av σ' => ∃ σo, Φ av σo ∧ σ' = σo ++ σ) :=
  Yc.old hO ho hx hf he ha (fun us w hg h1 => by rw [(hd _ w).2 us h1]; exact hg.oldL hO hr) h

theorem Tr.same {w : World} (h : Good C σ w) : Tr C [] σ w σ w := ⟨h, Kp.refl _ _, fun b _ hA => ⟨hA, by simp⟩⟩

/-- the address k cells behind a slice's head -/
def adr (s : Value) (k : Nat) : Value := match s with
  | .slice (some a) _ _ => .pointer (some (a.add k))
  | _ => .pointer none

theorem Yp.lenO {α : Type} [Inhabited α] {sz : Nat} {c : α → List AV} {l : List α} (hs : Rel A W (.sl sz c l) s) (ho : o.op = .call { callee := .builtin .len, args := #[x], argTypes := #[T] }) (hx : E.ev x = some (.lit s)) (hT : P.underlying T = some (.slice e)) : Yp P E σ o (.i (l.length : Int)) := Yp.lits fun ρ hρ w => by
  obtain ⟨p, cap, u, hv, _⟩ := hs.slInv
  have h1 := hρ _ _ hx
  rw [hv] at h1
  simp [execOp, ho, resolve, invoke, builtin, Builtin.len_, h1, run_underlying hT, goInt]

theorem Yp.indexO {α : Type} [Inhabited α] {sz : Nat} {c : α → List AV} {l : List α} (hs : Rel A W (.sl sz c l) s) (ho : o.op = .indexAddr T x y) (hx : E.ev x = some (.lit s)) (hy : E.ev y = some (.n k m)) (hT : P.underlying T = some (.slice e)) (hz : (P.info? e).map (·.size) = some sz)
    (hm : 0 ≤ m ∧ m < l.length) : Yp P E σ o (.lit (adr s (m.toNat * sz))) := Yp.lits fun ρ hρ w => by
  obtain ⟨j, hj, hj'⟩ := Option.map_eq_some_iff.1 hz
  obtain ⟨p, cap, _, hv, _⟩ := hs.slInv
  subst hv
  obtain ⟨b, off, us, hp, _⟩ := hs.slAt (i := m.toNat) (by omega)
  subst hp
  have hx' := hρ _ _ hx
  have hy' := hρ _ _ hy
  simp [execOp, ho, Instr.indexAt, hx', hy', run_underlying hT, sizeOf, typeInfo, hj, hj', add0, asIntOf, hm, adr]

theorem cell_old (hO : C.O0 = []) {w : World} (h : Good C σ w) {b of : Nat} {u : Value} (hc : C.w0.cell? ⟨b, of, none⟩ = some u) : w.cell? ⟨b, of, none⟩ = some u := by
  have hb : b < C.w0.heap.size := World.block_lt_of_cell? C.w0 _ hc
  rw [cell_same (h.old hO b hb)]; exact hc

/-- old cells are read -/
theorem Yv.loadOL (hO : C.O0 = []) {b of : Nat} (hc : ∀ j u, us[j]? = some u → C.w0.cell? ⟨b, of + j, none⟩ = some u) (ho : o.op = .load T x) (hx : E.ev x = some (.lit (.pointer (some ⟨b, of, none⟩)))) (hT : isMany P T us.length) : Yv P E σ o C [] (fun av σ' => av = .agg (us.map .lit) ∧ σ' = σ) := fun w ρ hg hρ => by
  have hx' := (hρ _ _ hx).litEq
  have hcell : ∀ j u, us[j]? = some u → w.cell? ((⟨b, of, none⟩ : Addr).add j) = some u := fun j u hj => by
    rw [add0]; exact cell_old hO hg (hc j u hj)
  exact ⟨_, w, _, σ, ⟨rfl, rfl⟩, Tr.same hg, by simp [execOp, ho, Instr.loadAt, hx', Instr.sureAddr, run_loadVar_many hT hcell], Rel.aggL (RelL.lits us)⟩

theorem Yv.loadON {α : Type} [Inhabited α] {sz i : Nat} {c : α → List AV} {l : List α} (hO : C.O0 = []) (hs : Rel allA C.w0 (.sl sz c l) s) (hi : i < l.length) (ho : o.op = .load T x) (hx : E.ev x = some (.lit (adr s (i * sz)))) (hT : isMany P T sz) : Yv P E σ o C [] (fun av σ' => ∃ us, av = .agg (us.map .lit) ∧ σ' = σ ∧ RelL allA C.w0 (c l[i]!) us) := fun w ρ hg hρ => by
  obtain ⟨p, cap, _, hv, _⟩ := hs.slInv
  subst hv
  obtain ⟨b, off, us, hp, _, _, hl, hc, hL⟩ := hs.slAt hi
  subst hp
  simp only [adr, add0] at hx
  obtain ⟨v, w', av, σ', ⟨h1, h2⟩, h3⟩ := Yv.loadOL (us := us) hO hc ho hx (by rw [hl]; exact hT) w ρ hg hρ
  exact ⟨v, w', av, σ', ⟨us, h1, h2, hL⟩, h3⟩

theorem Yv.loadO1 {α : Type} [Inhabited α] {sz i : Nat} {a : AV} {c : α → List AV} {l : List α} (hO : C.O0 = []) (hs : Rel allA C.w0 (.sl sz c l) s) (hi : i < l.length) (ho : o.op = .load T x) (hx : E.ev x = some (.lit (adr s (i * sz)))) (hT : isOne P T) (ha : (c l[i]!)[0]? = some a) : Yv P E σ o C [] (fun av σ' => ∃ u, av = .lit u ∧ σ' = σ ∧ Rel allA C.w0 a u) := fun w ρ hg hρ => by
  obtain ⟨p, cap, _, hv, _⟩ := hs.slInv
  subst hv
  obtain ⟨b, off, us, hp, _, _, hl, hc, hL⟩ := hs.slAt hi
  subst hp
  simp only [adr, add0] at hx
  obtain ⟨u, hu, hr⟩ := hL.get ha
  have hx' := (hρ _ _ hx).litEq
  have hcell : w.cell? ⟨b, off + i * sz, none⟩ = some u := cell_old hO hg (hc 0 u hu)
  exact ⟨_, w, _, σ, ⟨u, rfl, rfl, hr⟩, Tr.same hg, by simp [execOp, ho, Instr.loadAt, hx', Instr.sureAddr, run_loadVar_one hT hcell], .lit _⟩
end
end Go.Ab
