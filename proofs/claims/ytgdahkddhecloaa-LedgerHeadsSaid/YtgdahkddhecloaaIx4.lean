/- Entries: what is known of functions, used wherever they are called. Program-independent. -/
import Derived.Test.YtgdahkddhecloaaIx3
set_option linter.unusedSectionVars false
set_option linter.unusedVariables false
set_option linter.unusedSimpArgs false
namespace Go.Iv
variable [U : Uni] [L : UniL]
open Go Go.RowKit

/-! ### what a function is not handed lies beside -/

section
variable {P : Program} {f : FuncId} {args : List AV} {σp σr : List Res} {Φ : AV → List Res → Prop}
theorem good_start {σ : List Res} {w : World} {A : Nat → Prop} (hd : Hd A σ w) (hnd : (blks σ).Nodup) : Good ⟨w, A, blks σ⟩ σ w :=
  have hal : ∀ b, A b → al ⟨w, A, blks σ⟩ σ b := fun b hA => ⟨.inl hA, fun hx => hd.2 b hx hA⟩
  ⟨Kp.refl _ _, fun r hr => (hd.1 r hr).mono (fun b _ hA => ⟨hal b hA, rfl⟩) (fun _ _ => rfl), hnd, fun b hb => .inl hb⟩
theorem tr_widen {σ σ' : List Res} {X : List Nat} {C : Cx} {w w' : World} (h : Tr C X σ w σ' w') (hX : ∀ b ∈ X, b ∈ blks σ) : Tr C (blks σ) σ w σ' w' :=
  ⟨h.good, ⟨h.kp.os, h.kp.tape, h.kp.output, h.kp.size, fun k hk hn => h.kp.block k hk fun hx => hn (hX k hx)⟩, fun b hb hA => ⟨(h.al b hb hA).1, hA.2⟩⟩
theorem Fn.besides (h : Fn P f args σp Φ) : Fn P f args (σp ++ σr) (fun a s => ∃ so, Φ a so ∧ s = so ++ σr) := fun w A vs hrel hd0 hnd0 => by
  have hg := good_start hd0 hnd0
  generalize hC : (⟨w, A, blks (σp ++ σr)⟩ : Cx) = C at hg ⊢
  have hdis := hg.dis
  rw [blks_app] at hdis
  obtain ⟨d1, d2, d3⟩ := List.nodup_append.1 hdis
  have hlt : ∀ b ∈ blks (σp ++ σr), b < w.heap.size := fun b hb => by
    obtain ⟨s, h1, h2⟩ := mem_blks.1 hb
    exact (hg.res s h1).lt h2
  have hal0 : ∀ b, A b → al C (σp ++ σr) b := fun b hA => by
    subst hC; exact ⟨.inl hA, fun hx => hd0.2 b hx hA⟩
  have hd : Hd (al C (σp ++ σr)) σp w := ⟨fun r hr => hg.res r (List.mem_append_left _ hr), fun b hb hA => hA.2 (blks_mem_app.2 (.inl hb))⟩
  refine (h w (al C (σp ++ σr)) vs (hrel.mono fun b _ hA => ⟨hal0 b hA, rfl⟩) hd d1).mono fun e w' ⟨v, av, σo, q1, q2, q3, q4⟩ => ?_
  have hown : ∀ b ∈ blks σo, b ∈ blks σp ∨ w.heap.size ≤ b := q3.good.own
  have hsub : ∀ b, al ⟨w, al C (σp ++ σr), blks σp⟩ σo b → al C (σo ++ σr) b := fun b hb => by
    obtain ⟨hb1, hb2⟩ := hb
    rcases hb1 with hb1 | hb1 | hb1
    · exact ⟨hb1.1, fun hx => (blks_mem_app.1 hx).elim hb2 (fun h => hb1.2 (blks_mem_app.2 (.inr h)))⟩
    · have hbp : b ∈ blks σp := hb1
      refine ⟨?_, fun hx => (blks_mem_app.1 hx).elim hb2 (fun h => d3 b hbp b h rfl)⟩
      rcases hg.own b (blks_mem_app.2 (.inl hbp)) with h | h
      · exact .inr (.inl h)
      · exact .inr (.inr h)
    · have hbw : w.heap.size ≤ b := hb1
      exact ⟨.inr (.inr (Nat.le_trans hg.kept.size hbw)), fun hx => (blks_mem_app.1 hx).elim hb2 (fun h => by have := hlt b (blks_mem_app.2 (.inr h)); omega)⟩
  have ht := tr_call hg (fun b hA _ => .inl hA) q3 (fun r hr => (q3.good.res r hr).mono (fun b hb hA => ⟨hsub b hA, rfl⟩) (fun _ _ => rfl))
  exact ⟨v, av, σo ++ σr, q1, ⟨σo, q2, rfl⟩, tr_widen ht (fun b hb => blks_mem_app.2 (.inl hb)), q4.mono fun b hb hA => ⟨hsub b hA, rfl⟩⟩
/-- Own slices lent as data: what comes back has no data in it. -/
theorem Fn.lent {args' : List AV} {σr : List Res} (h : Fn P f args' [] Φ) (hv : ∀ (A : Nat → Prop) (w : World) (us : List Value), Hd A σr w → RelL A w args us → RelL (fun b => A b ∨ b ∈ blks σr) w args' us)
    (hc : ∀ av σo, Φ av σo → Cl av ∧ ∀ r ∈ σo, ClR r) : Fn P f args σr (fun a s => ∃ so, Φ a so ∧ s = so ++ σr) := fun w A vs hrel hd0 hnd0 => by
  have hg := good_start hd0 hnd0
  generalize hC : (⟨w, A, blks σr⟩ : Cx) = C at hg ⊢
  have hal0 : ∀ b, A b → al C σr b := fun b hA => by
    subst hC; exact ⟨.inl hA, fun hx => hd0.2 b hx hA⟩
  have h3 := hv (al C σr) w vs hg.hd (hrel.mono fun b _ hA => ⟨hal0 b hA, rfl⟩)
  refine (h w _ vs h3 ⟨fun r hr => (by cases hr), fun b hb => (by cases hb)⟩ List.nodup_nil).mono fun e w' ⟨v, av, σo, q1, q2, q3, q4⟩ => ?_
  obtain ⟨c1, c2⟩ := hc av σo q2
  have ht := tr_call (σp := []) (σr := σr) hg (fun b hA _ => hA) q3 (fun r hr => c2 r hr _ _ w' (q3.good.res r hr))
  exact ⟨v, av, σo ++ σr, q1, ⟨σo, q2, rfl⟩, tr_widen (σ := σr) ht (fun b hb => by cases hb), c1 _ _ w' v q4⟩
end

/-! ### closed, and lent -/

/-- no names stand in it -/
noncomputable def cloC (n : Nat) : AV → Bool := idsC (fun _ => false) n
theorem cloC_sub (n : Nat) {d : AV} (h : cloC n d = true) (ρ : Gh) : d.sub ρ = d := by
  have h1 := idsC_ok n h
  have key : ∀ (d : AV), Lts (fun i => false = true) d → d.sub ρ = d := fun d h => by
    have keyL : ∀ cs : List AV, (∀ c ∈ cs, c.sub ρ = c) → cs.map (AVq.sub ρ) = cs := fun cs h => by
      have : cs.map (AVq.sub ρ) = cs.map id := List.map_congr_left h
      rw [this, List.map_id]
    induction h with
    | lit v => simp only [AVq.sub]
    | sl t l => simp only [AVq.sub]
    | fp cs _ ih => simp only [AVq.sub]; rw [keyL cs ih]
    | rp v k => simp only [AVq.sub]
    | agg cs _ ih => simp only [AVq.sub]; rw [keyL cs ih]
    | tup cs _ ih => simp only [AVq.sub]; rw [keyL cs ih]
    | fn f cs _ ih => simp only [AVq.sub]; rw [keyL cs ih]
    | own id h => cases h
    | ptr id off h => cases h
    | ra id t m off h => cases h
  exact key d h1
theorem cloC_ltd (n : Nat) {d : AV} (h : cloC n d = true) (m : Nat) : Ltd m d := (idsC_ok n h).mono fun _ h => by cases h

theorem fpInv {A : Nat → Prop} {w : World} {cs : List AV} {v : Value} (h : Rel A w (.fp cs) v) : ∃ (b o : Nat) (us : List Value), v = .pointer (some ⟨b, o, none⟩) ∧ b < w.heap.size ∧ A b ∧ (∀ j v, us[j]? = some v → w.cell? ⟨b, o + j, none⟩ = some v) ∧ RelL A w cs us := by
  generalize ha : AVq.fp cs = a at h
  cases h with
  | fp cs' b o us hb hA hl hc hr => cases ha; exact ⟨b, o, us, rfl, hb, hA, hc, hl, hr⟩
  | _ => cases ha

/-- rows owned by the caller are data to the called; so are its variables, if lb -/
noncomputable def lendC (lb : Bool) (rd : Nat → Option IR) (n : Nat) : AV → AV := Nat.rec (fun d => match d with
  | .own id => match rd id with
    | some (.row t l) => .sl t l
    | _ => .own id
  | d => d) (fun _ ih d => match d with
  | .own id => match rd id with
    | some (.row t l) => .sl t l
    | _ => .own id
  | .ptr id 0 => match lb with
    | true => match rd id with
      | some (.box _ cs) => .fp (cs.map ih)
      | _ => .ptr id 0
    | false => .ptr id 0
  | .agg cs => .agg (cs.map ih)
  | .fn f cs => .fn f (cs.map ih)
  | d => d) n
theorem lend_box {R : IRs} {ρ : Gh} {A : Nat → Prop} {w : World} {v : Value} {id T : Nat} {cs : List AV} (hd : Hd A (IRs.res ρ R) w) (hg : rget R id = some (.box T cs)) (hr : Rel A w ((AVq.ptr (Dat := U.Dat) id 0).sub ρ) v) :
    Rel (fun b => A b ∨ b ∈ blks (IRs.res ρ R)) w (.fp (cs.map (AVq.sub ρ))) v := by
  obtain ⟨i, hi, _⟩ := rget_idx hg
  have hres := res_get (ρ := ρ) hi
  rw [sub_ptr] at hr
  exact Vw.box i hres A w v hd hr
theorem lendC_rel {lb : Bool} {R : IRs} {ρ : Gh} {A : Nat → Prop} {w : World} (hd : Hd A (IRs.res ρ R) w) : ∀ (n : Nat) {d : AV} {v : Value}, Rel (fun b => A b ∨ b ∈ blks (IRs.res ρ R)) w (d.sub ρ) v → Rel (fun b => A b ∨ b ∈ blks (IRs.res ρ R)) w ((lendC lb (rget R) n d).sub ρ) v := by
  have hown : ∀ {id : Nat} {v : Value}, Rel (fun b => A b ∨ b ∈ blks (IRs.res ρ R)) w ((AVq.own (Dat := U.Dat) id).sub ρ) v → Rel (fun b => A b ∨ b ∈ blks (IRs.res ρ R)) w ((match rget R id with
    | some (.row t l) => AVq.sl t l
    | _ => .own id).sub ρ) v := fun {id v} h => by
    rw [sub_own] at h
    rw [h.litEq]
    exact lend_own hd (by rw [sub_own]; exact .lit _)
  intro n
  induction n with
  | zero =>
    intro d v h
    cases d <;> first | exact h | exact hown h
  | succ n ih =>
    have hL : ∀ {cs : List AV} {us : List Value}, RelL (fun b => A b ∨ b ∈ blks (IRs.res ρ R)) w (cs.map (AVq.sub ρ)) us → RelL (fun b => A b ∨ b ∈ blks (IRs.res ρ R)) w ((cs.map (lendC lb (rget R) n)).map (AVq.sub ρ)) us := fun {cs us} h =>
      ⟨by simpa using h.1, fun j a u q1 q2 => by
        rw [List.map_map, List.getElem?_map] at q1
        obtain ⟨c, hc, rfl⟩ := Option.map_eq_some_iff.1 q1
        exact ih (h.2 j _ u (by rw [List.getElem?_map, hc]; rfl) q2)⟩
    intro d v h
    cases d with
    | own id => exact hown h
    | agg cs =>
      show Rel _ w ((AVq.agg (cs.map (lendC lb (rget R) n))).sub ρ) v
      rw [sub_agg] at h ⊢
      obtain ⟨us, rfl, h2⟩ := h.aggInv
      exact Rel.aggL (hL h2)
    | fn f cs =>
      show Rel _ w ((AVq.fn f (cs.map (lendC lb (rget R) n))).sub ρ) v
      rw [sub_fn] at h ⊢
      obtain ⟨us, rfl, h2⟩ := h.fnInv
      have h3 := hL h2
      exact .fn f _ us h3.1 h3.2
    | ptr id off =>
      cases off with
      | succ o => exact h
      | zero =>
        cases lb with
        | false => exact h
        | true =>
          show Rel _ w (AVq.sub ρ (match rget R id with
            | some (.box _ cs) => .fp (cs.map (lendC true (rget R) n))
            | _ => .ptr id 0)) v
          split
          · rename_i T cs hg
            have h0 : Rel A w ((AVq.ptr (Dat := U.Dat) id 0).sub ρ) v := by
              rw [sub_ptr] at h ⊢
              rw [h.litEq]; exact .lit _
            obtain ⟨b, o, us, rfl, q1, q2, q3, q4⟩ := fpInv (lend_box hd hg h0)
            rw [sub_fp]
            have q5 := hL q4
            exact .fp _ b o us q1 q2 q5.1 q3 q5.2
          · exact h
    | _ => exact h

/-! ### entries -/

/-- the names below n0 are l's, the others are moved up to nx -/
noncomputable def backN (l : List Nat) (n0 nx : Nat) (i : Nat) : Nat := match Nat.blt i n0 with
  | true => l.getD i 0
  | false => nx + (i - n0)
noncomputable def Out.okB (n0 : Nat) (x : Out) : Bool := Nat.ble n0 x.c && idsC (fun i => Nat.blt i x.c) 4 x.d && x.R.all fun q => Nat.blt q.1 x.c && match q.2 with
  | .box _ cs => cs.all (idsC (fun i => Nat.blt i x.c) 4)
  | .row _ _ => true
noncomputable def entY3 {α γ β : Type} (q : List AV → IRs → Option γ) (t : γ → Option β) (out : β → Out) (n0 : Nat) (args : List AV) (nx : Nat) (k : AV → IRs → Nat → Option α) (F : Option α) (Rp Rr : IRs) (ns : List Nat) : Option α :=
  match Nat.beq Rp.length n0 && args.all (idsC (fun i => memB i ns) 4) && Rp.all (fun q => match q.2 with
    | .box _ cs => cs.all (idsC (fun i => memB i ns) 4)
    | .row _ _ => true) with
  | true => match q (args.map (renA (posN ns) 4)) (Rp.map fun q => (posN ns q.1, renR (posN ns) q.2)) with
    | some g => match t g with
      | some b => k (renA (backN ns n0 nx) 4 (out b).d) ((out b).R.map (fun q => (backN ns n0 nx q.1, renR (backN ns n0 nx) q.2)) ++ Rr) (nx + ((out b).c - n0))
      | none => none
    | none => F
  | false => F
noncomputable def entY2 {α γ β : Type} (q : List AV → IRs → Option γ) (t : γ → Option β) (out : β → Out) (n0 : Nat) (args : List AV) (nx : Nat) (k : AV → IRs → Nat → Option α) (F : Option α) (R2 : IRs × IRs) : Option α :=
  entY3 q t out n0 args nx k F R2.1 R2.2 (R2.1.map fun q => q.1)
/-- What is known of a function: from arguments and n0 things handed over that q reads, it comes to what t says, laid out as out says. -/
noncomputable def orY {γ β : Type} (f0 n0 : Nat) (q : List AV → IRs → Option γ) (t : γ → Option β) (out : β → Out) (F : Orc) : Orc := fun _ f args R nx k => match Nat.beq f f0 with
  | true => entY2 q t out n0 args nx k (F _ f args R nx k) (picks (reach R 3 (args.flatMap (idsN 4))) R)
  | false => F _ f args R nx k
/-- q reads arguments and what is handed over, and ca, cr are the same -/
def QY {γ : Type} (q : List AV → IRs → Option γ) (ca : γ → List AV) (cr : γ → IRs) : Prop := ∀ xs R g, q xs R = some g → (∀ (ρ : Gh) A w us, RelL A w (xs.map (AVq.sub ρ)) us → RelL A w ((ca g).map (AVq.sub ρ)) us) ∧ LeRs R (cr g)
theorem posN_lt {l : List Nat} {i : Nat} (h : i ∈ l) : posN l i < l.length := (List.getElem?_eq_some_iff.1 (posN_get h)).1

theorem Fn.pre {P : Program} {f : FuncId} {args args' : List AV} {R R' : IRs} {ρ : Gh} {Φ : AV → List Res → Prop} (h : Fn P f args' (IRs.res ρ R') Φ) (ha : ∀ A w us, RelL A w args us → RelL A w args' us) (hr : LeRs R R') : Fn P f args (IRs.res ρ R) Φ := fun w A vs h1 h2 h3 => by
  have hb : blks (IRs.res ρ R) = blks (IRs.res ρ R') := leR_blks hr
  rw [hb]
  refine (h w A vs (ha A w vs h1) ⟨leR_ok hr h2.1, fun b hb' => h2.2 b (by rw [hb]; exact hb')⟩ (by rw [← hb]; exact h3)).mono fun e w' ⟨v, av, σ', q1, q2, q3, q4⟩ => ⟨v, av, σ', q1, q2, ⟨q3.good, q3.kp, fun b hb' hA => ?_⟩, q4⟩
  refine q3.al b hb' ⟨hA.1, ?_⟩
  rw [← hb]; exact hA.2

theorem orY_ok {P : Program} {F : Orc} {γ β : Type} {f0 n0 : Nat} {q : List AV → IRs → Option γ} {ca : γ → List AV} {cr : γ → IRs} {t : γ → Option β} {out : β → Out} (hF : OrcOk P F) (hf : fnOk P f0) (hq : QY q ca cr) (hm : ∀ b, (out b).okB n0 = true)
    (h : ∀ g b, t g = some b → FnY P f0 (ca g) (cr g) n0 (out b)) : OrcOk P (orY f0 n0 q t out F) := fun α f args R nx k r hr hargs hR => by
  unfold orY at hr
  split at hr
  case h_2 => exact hF α f args R nx k r hr hargs hR
  rename_i hb
  have hb := beqT hb
  subst hb
  unfold entY2 at hr
  generalize hR2 : picks (reach R 3 (args.flatMap (idsN 4))) R = R2 at hr
  have hperm : List.Perm R (R2.1 ++ R2.2) := by rw [← hR2]; exact picks_perm _ _
  obtain ⟨Rp, Rr⟩ := R2
  dsimp only at hr hperm
  generalize hns : (Rp.map fun q => q.1) = ns at hr
  unfold entY3 at hr
  split at hr
  case h_2 => exact hF α f args R nx k r hr hargs hR
  rename_i hchk
  rw [Bool.and_eq_true, Bool.and_eq_true] at hchk
  obtain ⟨⟨hc0, hc1⟩, hc2⟩ := hchk
  have hc0 := beqT hc0
  split at hr
  case h_2 => exact hF α f args R nx k r hr hargs hR
  rename_i g hg
  split at hr
  case h_2 => cases hr
  rename_i b hb
  have hlen : ns.length = n0 := by rw [← hns, List.length_map, hc0]
  have hRs : ∀ p ∈ Rp ++ Rr, p.1 < nx ∧ p.2.Ltd nx := fun p hp => hR p (hperm.mem_iff.2 hp)
  have hnsl : ∀ i ∈ ns, i < nx := fun i hi => by
    rw [← hns] at hi
    obtain ⟨p, hp, rfl⟩ := List.mem_map.1 hi
    exact (hRs p (List.mem_append_left _ hp)).1
  obtain ⟨hqa, hqr⟩ := hq _ _ g hg
  have hok := hm b
  unfold Out.okB at hok
  rw [Bool.and_eq_true, Bool.and_eq_true] at hok
  obtain ⟨⟨ho0, ho1⟩, ho2⟩ := hok
  have ho0 : n0 ≤ (out b).c := by simpa using ho0
  refine ⟨hf, fun ρ => ?_⟩
  let ρ0 : Gh := ⟨fun j => ρ.v (ns.getD j 0), fun j => ρ.b (ns.getD j 0)⟩
  have hp : ∀ i, memB i ns = true → ρ0.v (posN ns i) = ρ.v i ∧ ρ0.b (posN ns i) = ρ.b i := fun i hi => by
    have := posN_get (memB_iff.1 hi)
    have e : ns.getD (posN ns i) 0 = i := by rw [List.getD_eq_getElem?_getD, this]; rfl
    exact ⟨by show ρ.v (ns.getD (posN ns i) 0) = _; rw [e], by show ρ.b (ns.getD (posN ns i) 0) = _; rw [e]⟩
  have ea : (args.map (renA (posN ns) 4)).map (AVq.sub ρ0) = args.map (AVq.sub ρ) := by
    rw [List.map_map]
    exact List.map_congr_left fun c hc => renA_sub hp 4 (List.all_eq_true.1 hc1 c hc)
  have er : IRs.res ρ0 (Rp.map fun q => (posN ns q.1, renR (posN ns) q.2)) = IRs.res ρ Rp := by
    unfold IRs.res
    rw [List.map_map]
    refine List.map_congr_left fun q hq => ?_
    have hm : memB q.1 ns = true := memB_iff.2 (by rw [← hns]; exact List.mem_map.2 ⟨q, hq, rfl⟩)
    have hbq := List.all_eq_true.1 hc2 q hq
    obtain ⟨i, rr⟩ := q
    cases rr with
    | row t l => show Res.row (ρ0.v (posN ns i)) t l = .row (ρ.v i) t l; rw [(hp i hm).1]
    | box T cs =>
      show Res.box (ρ0.b (posN ns i)) T ((cs.map (renA (posN ns) 4)).map (AVq.sub ρ0)) = .box (ρ.b i) T (cs.map (AVq.sub ρ))
      rw [(hp i hm).2, List.map_map]
      congr 1
      exact List.map_congr_left fun c hc => renA_sub hp 4 (List.all_eq_true.1 hbq c hc)
  have h1 := Fn.pre (h g b hb ρ0) (hqa ρ0) hqr
  rw [ea, er] at h1
  have h2 := Fn.besides (σr := IRs.res ρ Rr) h1
  rw [← res_app] at h2
  have hp2 : List.Perm (IRs.res ρ R) (IRs.res ρ (Rp ++ Rr)) := hperm.map _
  -- the same under the caller's order
  have h3 : Fn P f (args.map (AVq.sub ρ)) (IRs.res ρ R) (fun a s => ∃ so, (∃ ρ' : Gh, Agr n0 ρ0 ρ' ∧ a = (out b).d.sub ρ' ∧ List.Perm so (IRs.res ρ' (out b).R)) ∧ s = so ++ IRs.res ρ Rr) := fun w A vs q1 q2 q3 => by
    have hbm : ∀ x, x ∈ blks (IRs.res ρ (Rp ++ Rr)) ↔ x ∈ blks (IRs.res ρ R) := fun x => (hp2.symm.filterMap _).mem_iff
    refine (h2 w A vs q1 ⟨fun r hr => q2.1 r (hp2.mem_iff.2 hr), fun x hx => q2.2 x ((hbm x).1 hx)⟩ ((hp2.filterMap _).nodup_iff.1 q3)).mono fun e w' ⟨v, av, σ', g1, g2, g3, g4⟩ => ?_
    have hal : ∀ s x, al ⟨w, A, blks (IRs.res ρ (Rp ++ Rr))⟩ s x → al ⟨w, A, blks (IRs.res ρ R)⟩ s x := fun s x hx => ⟨hx.1.imp id (Or.imp (fun h => (hbm x).1 h) id), hx.2⟩
    refine ⟨v, av, σ', g1, g2, ⟨⟨⟨g3.kp.os, g3.kp.tape, g3.kp.output, g3.kp.size, fun k hk hn => g3.kp.block k hk fun hx => hn ((hbm k).1 hx)⟩, fun rr hrr => (g3.good.res rr hrr).mono (fun x _ hA => ⟨hal _ x hA, rfl⟩) (fun _ _ => rfl), g3.good.dis, fun x hx => (g3.good.own x hx).imp (fun h => (hbm x).1 h) id⟩, ⟨g3.kp.os, g3.kp.tape, g3.kp.output, g3.kp.size, fun k hk hn => g3.kp.block k hk fun hx => hn ((hbm k).1 hx)⟩, fun x hx hA => ?_⟩, g4.mono fun x _ hA => ⟨hal _ x hA, rfl⟩⟩
    have hA' : al ⟨w, A, blks (IRs.res ρ (Rp ++ Rr))⟩ (IRs.res ρ (Rp ++ Rr)) x := ⟨hA.1.imp id (Or.imp (fun h => (hbm x).2 h) id), fun h => hA.2 ((hbm x).1 h)⟩
    exact ⟨hal _ x (g3.al x hx hA').1, fun h => hA.2 h⟩
  refine Fn.mono h3 fun a s ⟨so, ⟨ρ1, g0, g1, g2⟩, g3⟩ => ?_
  let ρ2 : Gh := ⟨fun i => if i < nx then ρ.v i else ρ1.v (n0 + (i - nx)), fun i => if i < nx then ρ.b i else ρ1.b (n0 + (i - nx))⟩
  have hag : Agr nx ρ ρ2 := fun i hi => ⟨by simp only [ρ2, if_pos hi], by simp only [ρ2, if_pos hi]⟩
  have hb2 : ∀ i, Nat.blt i (out b).c = true → (ρ2.v (backN ns n0 nx i) = ρ1.v i ∧ ρ2.b (backN ns n0 nx i) = ρ1.b i) ∧ backN ns n0 nx i < nx + ((out b).c - n0) := fun i hi => by
    have hi : i < (out b).c := by simpa [Nat.blt_eq] using hi
    unfold backN
    split
    · rename_i hlt
      have hlt : i < n0 := by simpa [Nat.blt_eq] using hlt
      obtain ⟨e1, e2⟩ := g0 i hlt
      have hlt2 : i < ns.length := by rw [hlen]; exact hlt
      have hmem : ns.getD i 0 ∈ ns := by rw [List.getD_eq_getElem?_getD, List.getElem?_eq_getElem hlt2]; exact List.getElem_mem hlt2
      have h4 := hnsl _ hmem
      refine ⟨⟨?_, ?_⟩, by omega⟩
      · show (if ns.getD i 0 < nx then ρ.v (ns.getD i 0) else _) = _
        rw [if_pos h4]; exact e1
      · show (if ns.getD i 0 < nx then ρ.b (ns.getD i 0) else _) = _
        rw [if_pos h4]; exact e2
    · rename_i hlt
      have hlt : ¬ i < n0 := by
        intro hx
        have : Nat.blt i n0 = true := by rw [Nat.blt_eq]; exact hx
        rw [this] at hlt; cases hlt
      have h5 : ¬ nx + (i - n0) < nx := by omega
      have h6 : n0 + (nx + (i - n0) - nx) = i := by omega
      refine ⟨⟨?_, ?_⟩, by omega⟩
      · show (if nx + (i - n0) < nx then _ else ρ1.v (n0 + (nx + (i - n0) - nx))) = _
        rw [if_neg h5, h6]
      · show (if nx + (i - n0) < nx then _ else ρ1.b (n0 + (nx + (i - n0) - nx))) = _
        rw [if_neg h5, h6]
  have hres : IRs.res ρ2 ((out b).R.map fun q => (backN ns n0 nx q.1, renR (backN ns n0 nx) q.2)) = IRs.res ρ1 (out b).R := by
    unfold IRs.res
    rw [List.map_map]
    refine List.map_congr_left fun q hq => ?_
    have hbq := List.all_eq_true.1 ho2 q hq
    rw [Bool.and_eq_true] at hbq
    obtain ⟨i, rr⟩ := q
    cases rr with
    | row t l => show Res.row (ρ2.v (backN ns n0 nx i)) t l = .row (ρ1.v i) t l; rw [(hb2 i hbq.1).1.1]
    | box T cs =>
      show Res.box (ρ2.b (backN ns n0 nx i)) T ((cs.map (renA (backN ns n0 nx) 4)).map (AVq.sub ρ2)) = .box (ρ1.b i) T (cs.map (AVq.sub ρ1))
      rw [(hb2 i hbq.1).1.2, List.map_map]
      congr 1
      exact List.map_congr_left fun c hc => renA_sub (fun i hi => (hb2 i hi).1) 4 (List.all_eq_true.1 hbq.2 c hc)
  refine ⟨_, _, _, hr, by omega, renA_ltd (fun i hi => (hb2 i hi).2) 4 ho1, fun q hq => ?_, ρ2, hag, ?_, ?_⟩
  · rcases List.mem_append.1 hq with hq | hq
    · obtain ⟨q', h4, rfl⟩ := List.mem_map.1 hq
      have hbq := List.all_eq_true.1 ho2 q' h4
      rw [Bool.and_eq_true] at hbq
      refine ⟨(hb2 _ hbq.1).2, ?_⟩
      obtain ⟨i, rr⟩ := q'
      cases rr with
      | row t l => trivial
      | box T cs =>
        intro c hc
        obtain ⟨c', h5, rfl⟩ := List.mem_map.1 hc
        exact renA_ltd (fun i hi => (hb2 i hi).2) 4 (List.all_eq_true.1 hbq.2 c' h5)
    · have := hRs q (List.mem_append_right _ hq)
      exact ⟨by omega, this.2.mono (by omega)⟩
  · rw [g1]; exact (renA_sub (fun i hi => (hb2 i hi).1) 4 ho1).symm
  · rw [g3, res_app, hres, ← IRs.Ltd.res (R := Rr) (fun q hq => hRs q (List.mem_append_right _ hq)) hag]
    exact g2.append_right _

/-! ### entries that are lent what the caller owns -/

/-- no data in it -/
noncomputable def scD (n : Nat) : AV → Bool := Nat.rec (fun d => match d with
  | .lit _ => true
  | .own _ => true
  | .ptr _ _ => true
  | _ => false) (fun _ ih d => match d with
  | .lit _ => true
  | .own _ => true
  | .ptr _ _ => true
  | .agg cs => cs.all ih
  | .tup cs => cs.all ih
  | _ => false) n
theorem scD_cl {ρ : Gh} : ∀ (n : Nat) {d : AV}, scD n d = true → Cl (d.sub ρ) := fun n => by
  induction n with
  | zero =>
    intro d h
    cases d <;> first | (cases h; done) | (rw [sub_lit]; exact .lit _) | (rw [sub_own]; exact .lit _) | (rw [sub_ptr]; exact .lit _)
  | succ n ih =>
    have hL : ∀ {cs : List AV}, cs.all (scD n) = true → ClL (cs.map (AVq.sub ρ)) := fun {cs} h => by
      induction cs with
      | nil => exact .nil
      | cons c cs ihc =>
        rw [List.all_cons, Bool.and_eq_true] at h
        exact .cons (ih h.1) (ihc h.2)
    intro d h
    cases d <;> first | (cases h; done) | (rw [sub_lit]; exact .lit _) | (rw [sub_own]; exact .lit _) | (rw [sub_ptr]; exact .lit _) | skip
    · rw [sub_agg]; exact .agg (hL h)
    · rw [sub_tup]; exact .tup (hL h)
theorem scD_clL {n : Nat} {ρ : Gh} : ∀ cs : List AV, cs.all (scD n) = true → ClL (cs.map (AVq.sub ρ))
  | [], _ => .nil
  | c :: cs, h => by
    rw [List.all_cons, Bool.and_eq_true] at h
    exact .cons (scD_cl n h.1) (scD_clL cs h.2)
/-- no data in the answer: sc tells of which types no element has data in it -/
noncomputable def Out.scB (sc : Nat → Bool) (x : Out) : Bool := scD 4 x.d && x.R.all fun q => match q.2 with
  | .row t _ => sc t
  | .box _ cs => cs.all (scD 3)
theorem scB_clr {sc : Nat → Bool} (hsc : ∀ t, sc t = true → ∀ x, ClL (U.cells t x)) {x : Out} (h : x.scB sc = true) (ρ : Gh) : Cl (x.d.sub ρ) ∧ ∀ r ∈ IRs.res ρ x.R, ClR r := by
  unfold Out.scB at h
  rw [Bool.and_eq_true] at h
  refine ⟨scD_cl 4 h.1, fun r hr => ?_⟩
  obtain ⟨q, hq, rfl⟩ := List.mem_map.1 hr
  have hb := List.all_eq_true.1 h.2 q hq
  obtain ⟨i, rr⟩ := q
  cases rr with
  | row t l => exact ClR.row (hsc t hb)
  | box T cs =>
    exact ClR.box (scD_clL cs hb)

noncomputable def entL2 {α γ β : Type} (q : List AV → Option γ) (t : γ → Option β) (out : β → Out) (args : List AV) (R : IRs) (nx : Nat) (k : AV → IRs → Nat → Option α) (F : Option α) : Option α :=
  match args.all (cloC 4) with
  | true => match q args with
    | some g => match t g with
      | some b => k (renA (fun i => i + nx) 4 (out b).d) ((out b).R.map (fun q => (q.1 + nx, renR (fun i => i + nx) q.2)) ++ R) ((out b).c + nx)
      | none => none
    | none => F
  | false => F
/-- the same, lent what the caller owns; there is no data in the answer -/
noncomputable def orL {γ β : Type} (f0 : Nat) (lb : Bool) (q : List AV → Option γ) (t : γ → Option β) (out : β → Out) (F : Orc) : Orc := fun _ f args R nx k => match Nat.beq f f0 with
  | true => entL2 q t out (args.map (lendC lb (rget R) 3)) R nx k (F _ f args R nx k)
  | false => F _ f args R nx k
theorem orL_ok {P : Program} {F : Orc} {γ β : Type} {f0 : Nat} {lb : Bool} {q : List AV → Option γ} {ca : γ → List AV} {t : γ → Option β} {out : β → Out} {sc : Nat → Bool} (hF : OrcOk P F) (hsc : ∀ t, sc t = true → ∀ x, ClL (U.cells t x)) (hf : fnOk P f0) (hq : PkN q ca) (hm : ∀ b, (out b).okB 0 = true) (hs : ∀ b, (out b).scB sc = true)
    (h : ∀ g b, t g = some b → FnY P f0 (ca g) [] 0 (out b)) : OrcOk P (orL f0 lb q t out F) := fun α f args R nx k r hr hargs hR => by
  unfold orL at hr
  split at hr
  case h_2 => exact hF α f args R nx k r hr hargs hR
  rename_i hb
  have hb := beqT hb
  subst hb
  unfold entL2 at hr
  split at hr
  case h_2 => exact hF α f args R nx k r hr hargs hR
  rename_i hcl
  split at hr
  case h_2 => exact hF α f args R nx k r hr hargs hR
  rename_i g hg
  split at hr
  case h_2 => cases hr
  rename_i b hb
  obtain ⟨hqa, _⟩ := hq _ g hg
  have hok := hm b
  unfold Out.okB at hok
  rw [Bool.and_eq_true, Bool.and_eq_true] at hok
  obtain ⟨⟨_, ho1⟩, ho2⟩ := hok
  refine ⟨hf, fun ρ => ?_⟩
  have h1 : Fn P f ((ca g).map (AVq.sub ρ)) [] _ := h g b hb ρ
  have h2 := Fn.lent (args := args.map (AVq.sub ρ)) (σr := IRs.res ρ R) h1 (fun A w us hd hrel => by
    refine hqa ρ _ w us ⟨by simpa using hrel.1, fun j a v q1 q2 => ?_⟩
    rw [List.map_map, List.getElem?_map] at q1
    obtain ⟨c, hc, rfl⟩ := Option.map_eq_some_iff.1 q1
    exact lendC_rel hd 3 ((hrel.2 j _ v (by rw [List.getElem?_map, hc]; rfl) q2).mono fun b _ hA => ⟨.inl hA, rfl⟩)) (fun av σo ⟨ρ', _, e1, e2⟩ => by
      obtain ⟨c1, c2⟩ := scB_clr hsc (hs b) ρ'
      subst e1
      exact ⟨c1, fun r hr => c2 r (e2.mem_iff.1 hr)⟩)
  have hlt : ∀ i, Nat.blt i (out b).c = true → i + nx < (out b).c + nx := fun i hi => by rw [Nat.blt_eq] at hi; omega
  refine Fn.mono h2 fun a s ⟨s', ⟨ρ1, _, g1, g2⟩, g3⟩ => ?_
  let ρ2 : Gh := ⟨fun i => if i < nx then ρ.v i else ρ1.v (i - nx), fun i => if i < nx then ρ.b i else ρ1.b (i - nx)⟩
  have hag : Agr nx ρ ρ2 := fun i hi => ⟨by simp only [ρ2, if_pos hi], by simp only [ρ2, if_pos hi]⟩
  have hp : ∀ i, Nat.blt i (out b).c = true → ρ2.v (i + nx) = ρ1.v i ∧ ρ2.b (i + nx) = ρ1.b i := fun i _ => by
    have : ¬ i + nx < nx := by omega
    exact ⟨by simp only [ρ2, if_neg this, Nat.add_sub_cancel], by simp only [ρ2, if_neg this, Nat.add_sub_cancel]⟩
  have hres : IRs.res ρ2 ((out b).R.map fun q => (q.1 + nx, renR (fun i => i + nx) q.2)) = IRs.res ρ1 (out b).R := by
    unfold IRs.res
    rw [List.map_map]
    refine List.map_congr_left fun q hq => ?_
    have hbq := List.all_eq_true.1 ho2 q hq
    rw [Bool.and_eq_true] at hbq
    obtain ⟨i, rr⟩ := q
    cases rr with
    | row t l => show Res.row (ρ2.v (i + nx)) t l = .row (ρ1.v i) t l; rw [(hp i hbq.1).1]
    | box T cs =>
      show Res.box (ρ2.b (i + nx)) T ((cs.map (renA (fun i => i + nx) 4)).map (AVq.sub ρ2)) = .box (ρ1.b i) T (cs.map (AVq.sub ρ1))
      rw [(hp i hbq.1).2, List.map_map]
      congr 1
      exact List.map_congr_left fun c hc => renA_sub hp 4 (List.all_eq_true.1 hbq.2 c hc)
  refine ⟨_, _, _, hr, Nat.le_add_left _ _, renA_ltd hlt 4 ho1, fun q hq => ?_, ρ2, hag, ?_, ?_⟩
  · rcases List.mem_append.1 hq with hq | hq
    · obtain ⟨q', h4, rfl⟩ := List.mem_map.1 hq
      have hbq := List.all_eq_true.1 ho2 q' h4
      rw [Bool.and_eq_true] at hbq
      refine ⟨hlt _ hbq.1, ?_⟩
      obtain ⟨i, rr⟩ := q'
      cases rr with
      | row t l => trivial
      | box T cs =>
        intro c hc
        obtain ⟨c', h5, rfl⟩ := List.mem_map.1 hc
        exact renA_ltd hlt 4 (List.all_eq_true.1 hbq.2 c' h5)
    · exact (hR.mono (Nat.le_add_left _ _)) q hq
  · rw [g1]; exact (renA_sub hp 4 ho1).symm
  · rw [g3, res_app, hres, ← hR.res hag]
    exact g2.append_right _

theorem or0_g {P : Program} : OrcG P or0 := ⟨or0_ok, fun _ _ _ _ _ _ _ _ => rfl⟩
theorem orY_nat {γ δ : Type} {f0 n0 : Nat} {q : List AV → IRs → Option γ} {t : γ → Option δ} {out : δ → Out} {F : Orc} (hN : OrcNat F) : OrcNat (orY f0 n0 q t out F) := fun α β f args R nx k D => by
  unfold orY
  split
  · unfold entY2 entY3
    split
    · split
      · split <;> rfl
      · exact hN ..
    · exact hN ..
  · exact hN ..
theorem orL_nat {γ δ : Type} {f0 : Nat} {lb : Bool} {q : List AV → Option γ} {t : γ → Option δ} {out : δ → Out} {F : Orc} (hN : OrcNat F) : OrcNat (orL f0 lb q t out F) := fun α β f args R nx k D => by
  unfold orL
  split
  · unfold entL2
    split
    · split
      · split <;> rfl
      · exact hN ..
    · exact hN ..
  · exact hN ..
theorem orY_g {P : Program} {F : Orc} {γ β : Type} {f0 n0 : Nat} {q : List AV → IRs → Option γ} {ca : γ → List AV} {cr : γ → IRs} {t : γ → Option β} {out : β → Out} (hF : OrcG P F) (hf : fnOk P f0) (hq : QY q ca cr) (hm : ∀ b, (out b).okB n0 = true)
    (h : ∀ g b, t g = some b → FnY P f0 (ca g) (cr g) n0 (out b)) : OrcG P (orY f0 n0 q t out F) := ⟨orY_ok hF.ok hf hq hm h, orY_nat hF.nat⟩
theorem orL_g {P : Program} {F : Orc} {γ β : Type} {f0 : Nat} {lb : Bool} {q : List AV → Option γ} {ca : γ → List AV} {t : γ → Option β} {out : β → Out} {sc : Nat → Bool} (hF : OrcG P F) (hsc : ∀ t, sc t = true → ∀ x, ClL (U.cells t x)) (hf : fnOk P f0) (hq : PkN q ca) (hm : ∀ b, (out b).okB 0 = true) (hs : ∀ b, (out b).scB sc = true)
    (h : ∀ g b, t g = some b → FnY P f0 (ca g) [] 0 (out b)) : OrcG P (orL f0 lb q t out F) := ⟨orL_ok hF.ok hsc hf hq hm hs h, orL_nat hF.nat⟩

/-! ### entries that leave what is owned as it is -/

theorem or0_pure {f : FuncId} : PureF or0 f := fun _ _ _ _ _ _ h => by cases h
theorem orL_pure {γ β : Type} {f0 : Nat} {lb : Bool} {q : List AV → Option γ} {t : γ → Option β} {out : β → Out} {F : Orc} {f : FuncId} (h : PureF F f) (hm : ∀ b, (out b).R = []) : PureF (orL f0 lb q t out F) f := fun args R nx d R' nx' hr => by
  unfold orL at hr
  split at hr
  · unfold entL2 at hr
    split at hr
    · split at hr
      · split at hr
        · rw [hm] at hr
          cases hr
          rfl
        · cases hr
      · exact h _ _ _ _ _ _ hr
    · exact h _ _ _ _ _ _ hr
  · exact h _ _ _ _ _ _ hr
theorem orL_skip {γ β : Type} {f0 : Nat} {lb : Bool} {q : List AV → Option γ} {t : γ → Option β} {out : β → Out} {F : Orc} {f : FuncId} (hne : Nat.beq f f0 = false) (h : PureF F f) : PureF (orL f0 lb q t out F) f := fun args R nx d R' nx' hr => by
  unfold orL at hr
  rw [hne] at hr
  exact h _ _ _ _ _ _ hr
theorem orY_skip {γ β : Type} {f0 n0 : Nat} {q : List AV → IRs → Option γ} {t : γ → Option β} {out : β → Out} {F : Orc} {f : FuncId} (hne : Nat.beq f f0 = false) (h : PureF F f) : PureF (orY f0 n0 q t out F) f := fun args R nx d R' nx' hr => by
  unfold orY at hr
  rw [hne] at hr
  exact h _ _ _ _ _ _ hr

/-! ### for printed texts -/

theorem cond_some {α : Type} (b : Bool) (x y : α) : (bif b then some x else some y) = some (bif b then x else y) := by cases b <;> rfl
theorem ite_some {α : Type} (p : Prop) [Decidable p] (x y : α) : (if p then some x else some y) = some (if p then x else y) := by split <;> rfl

theorem ltd_of {n0 : Nat} {args : List AV} (h : args.all (idsC (fun i => Nat.blt i n0) 4) = true) : ∀ d ∈ args, Ltd n0 d := fun d hd => (idsC_ok 4 (List.all_eq_true.1 h d hd)).mono fun i hi => by rw [Nat.blt_eq] at hi; exact hi
theorem rltd_of {n0 : Nat} {R : IRs} (h : R.all (fun q => Nat.blt q.1 n0 && match q.2 with
    | .box _ cs => cs.all (idsC (fun i => Nat.blt i n0) 4)
    | .row _ _ => true) = true) : IRs.Ltd n0 R := fun q hq => by
  have hb := List.all_eq_true.1 h q hq
  rw [Bool.and_eq_true, Nat.blt_eq] at hb
  refine ⟨hb.1, ?_⟩
  obtain ⟨i, rr⟩ := q
  cases rr with
  | row t l => trivial
  | box T cs => exact ltd_of hb.2
def qy0 {γ : Type} (q : List AV → Option γ) (xs : List AV) (R : IRs) : Option γ := match R with
  | [] => q xs
  | _ => none
theorem qy0_ok {γ : Type} {q : List AV → Option γ} {ca : γ → List AV} (h : PkN q ca) : QY (qy0 q) ca (fun _ => []) := fun xs R g hg => by
  unfold qy0 at hg
  split at hg
  · exact ⟨(h xs g hg).1, .nil⟩
  · cases hg
def qyR {γ δ : Type} (q : List AV → Option γ) (r : IRs → Option δ) (xs : List AV) (R : IRs) : Option (γ × δ) := match q xs with
  | some g => match r R with
    | some h => some (g, h)
    | none => none
  | none => none
theorem qyR_ok {γ δ : Type} {q : List AV → Option γ} {ca : γ → List AV} {r : IRs → Option δ} {cr : δ → IRs} (hq : PkN q ca) (hr : RsOk r cr) : QY (qyR q r) (fun g => ca g.1) (fun g => cr g.2) := fun xs R g hg => by
  unfold qyR at hg
  split at hg
  · rename_i g' h1
    split at hg
    · rename_i h' h2
      cases hg
      exact ⟨(hq xs g' h1).1, hr R h' h2⟩
    · cases hg
  · cases hg
open Classical in
/-- what m says from some number on -/
noncomputable def lim {β : Type} (m : Nat → Option β) : Option β := if h : ∃ b N, ∀ n, N ≤ n → m n = some b then some (Classical.choose h) else none
theorem lim_some {β : Type} {m : Nat → Option β} {b : β} (h : lim m = some b) : ∃ n, m n = some b := by
  unfold lim at h
  split at h
  · rename_i hx
    cases h
    obtain ⟨N, hN⟩ := Classical.choose_spec hx
    exact ⟨N, hN N (Nat.le_refl _)⟩
  · cases h
theorem lim_eq {β : Type} {m : Nat → Option β} {b : β} (N : Nat) (h : ∀ n, N ≤ n → m n = some b) : lim m = some b := by
  have hx : ∃ b N, ∀ n, N ≤ n → m n = some b := ⟨b, N, h⟩
  unfold lim
  rw [dif_pos hx]
  obtain ⟨M, hM⟩ := Classical.choose_spec hx
  have h1 := hM (max M N) (Nat.le_max_left _ _)
  rw [h (max M N) (Nat.le_max_right _ _)] at h1
  exact h1.symm
/-- An empty slice is nil, or it is not. -/
theorem fnY_nil {P : Program} {f : FuncId} {t : Nat} {x : Out} (h1 : ∀ c, FnY P f [.lit (.slice none 0 c)] [] 0 x) (h2 : ∀ a c, FnY P f [.lit (.slice (some a) 0 c)] [] 0 x) : FnY P f [.sl t []] [] 0 x := fun ρ w A vs hr hd hn => by
  have hr' : RelL A w [(AVq.sl t [] : AV).sub ρ] vs := hr
  obtain ⟨v, us, rfl, h3, h4⟩ := hr'.head
  rw [sub_sl] at h3
  obtain ⟨p, c, g, hv, _⟩ := h3.slInv
  have hz : us = [] := List.eq_nil_of_length_eq_zero (by simpa using h4.1)
  subst hz hv
  cases p with
  | none => exact h1 c ρ w A _ (RelL.cons (by rw [sub_lit]; exact .lit _) RelL.nil) hd hn
  | some a => exact h2 a c ρ w A _ (RelL.cons (by rw [sub_lit]; exact .lit _) RelL.nil) hd hn
def litB : AV → Bool
  | .lit _ => true
  | _ => false
theorem clL_lit : ∀ (cs : List AV), cs.all litB = true → ClL cs
  | [], _ => .nil
  | c :: cs, h => by
    rw [List.all_cons, Bool.and_eq_true] at h
    refine .cons ?_ (clL_lit cs h.2)
    cases c <;> first | (cases h.1; done) | exact .lit _
end Go.Iv
