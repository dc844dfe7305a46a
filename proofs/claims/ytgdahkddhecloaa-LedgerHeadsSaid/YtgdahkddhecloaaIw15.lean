/- Functions of data: what is proved of a function once, used wherever it is called. Program-independent. -/
import Derived.Test.YtgdahkddhecloaaIw14
set_option linter.unusedSectionVars false
set_option linter.unusedVariables false
set_option linter.unusedSimpArgs false
namespace Go.Iv
variable [U : Uni] [L : UniL]
open Go Go.RowKit

/-! ### what a function does not own lies beside -/

theorem Fn.frame {P : Program} {f : FuncId} {args args' : List AV} {Φ : AV → List Res → Prop} (h : Fn P f args' [] Φ) (σ : List Res)
    (ha : ∀ (A : Nat → Prop) (w : World) (vs : List Value), Hd A σ w → RelL A w args vs → RelL (fun b => A b ∨ b ∈ blks σ) w args' vs)
    (hΦ : ∀ a s, Φ a s → s = [] ∧ ∀ (A A' : Nat → Prop) (w : World) v, Rel A w a v → Rel A' w a v) : Fn P f args σ (fun a s => Φ a [] ∧ s = σ) := fun w A vs hr hd hnd => by
  refine (h w (fun b => A b ∨ b ∈ blks σ) vs (ha A w vs hd hr) ⟨fun r hr => (by cases hr), fun b hb => (by cases hb)⟩ (by simp [blks])).mono fun e w' ⟨v, av, σ', h1, h2, h3, h4⟩ => ?_
  obtain ⟨hs, hrel⟩ := hΦ _ _ h2
  subst hs
  have hlt : ∀ b ∈ blks σ, b < w.heap.size := fun b hb => by
    obtain ⟨r, q1, q2⟩ := mem_blks.1 hb
    exact (hd.1 r q1).lt q2
  have hblk : ∀ b, b < w.heap.size → w'.heap[b]? = w.heap[b]? := fun b hb => h3.kp.block b hb (by simp [blks])
  have hal : ∀ b, A b → al ⟨w, A, blks σ⟩ σ b := fun b hA => ⟨.inl hA, fun hx => hd.2 b hx hA⟩
  refine ⟨v, av, σ, h1, ⟨h2, rfl⟩, ⟨⟨⟨h3.kp.os, h3.kp.tape, h3.kp.output, h3.kp.size, fun k hk _ => hblk k hk⟩, fun r hr => (hd.1 r hr).mono (fun b hb hA => ⟨hal b hA, hblk b hb⟩) (fun b hb => hblk b (hlt b (mem_blks.2 ⟨r, hr, hb⟩))), hnd, fun b hb => .inl hb⟩, ⟨h3.kp.os, h3.kp.tape, h3.kp.output, h3.kp.size, fun k hk _ => hblk k hk⟩, fun b hb hA => ⟨hA, hA.2⟩⟩, hrel _ _ _ _ h4⟩

/-! ### scalars, and what is lent -/

def scB : Nat → AV → Bool
  | _, .lit _ => true
  | n + 1, .agg cs => cs.all (scB n)
  | n + 1, .tup cs => cs.all (scB n)
  | _, _ => false
theorem scB_rel : ∀ (n : Nat) {d : AV} {A A' : Nat → Prop} {w : World} {v : Value}, scB n d = true → Rel A w d v → Rel A' w d v
  | n, d, A, A', w, v, h, hr => by
    have hL : ∀ {m : Nat} {cs : List AV} {us : List Value}, m < n → cs.all (scB m) = true → RelL A w cs us → RelL A' w cs us := fun {m cs us} hm h hr => ⟨hr.1, fun j a v q1 q2 => scB_rel m (List.all_eq_true.1 h _ (List.mem_of_getElem? q1)) (hr.2 j a v q1 q2)⟩
    cases n with
    | zero =>
      cases d <;> first | (cases h; done) | skip
      rw [hr.litEq]; exact .lit _
    | succ n =>
      cases d <;> first | (cases h; done) | skip
      · rw [hr.litEq]; exact .lit _
      · obtain ⟨us, rfl, h2⟩ := hr.aggInv
        exact Rel.aggL (hL (Nat.lt_succ_self n) h h2)
      · obtain ⟨us, rfl, h2⟩ := hr.tupInv
        exact Rel.tupL (hL (Nat.lt_succ_self n) h h2)
theorem scB_ltd : ∀ (n : Nat) {d : AV} {m : Nat}, scB n d = true → Ltd m d
  | 0, d, m, h => by cases d <;> first | (cases h; done) | exact .lit _
  | n + 1, d, m, h => by
    cases d <;> first | (cases h; done) | exact .lit _ | skip
    · exact .agg _ fun c hc => scB_ltd n (List.all_eq_true.1 h c hc)
    · exact .tup _ fun c hc => scB_ltd n (List.all_eq_true.1 h c hc)
theorem scB_sub : ∀ (n : Nat) {d : AV} {ρ : Gh}, scB n d = true → d.sub ρ = d
  | n, d, ρ, h => by
    have hL : ∀ {m : Nat} {cs : List AV}, m < n → cs.all (scB m) = true → cs.map (AVq.sub ρ) = cs := fun {m cs} hm h => by
      have : cs.map (AVq.sub ρ) = cs.map id := List.map_congr_left fun c hc => scB_sub m (List.all_eq_true.1 h c hc)
      rw [this, List.map_id]
    cases n with
    | zero => cases d <;> first | (cases h; done) | exact sub_lit ..
    | succ n =>
      cases d <;> first | (cases h; done) | exact sub_lit .. | skip
      · rw [sub_agg, hL (Nat.lt_succ_self n) h]
      · rw [sub_tup, hL (Nat.lt_succ_self n) h]

/-- no names stand in it -/
def cloB : Nat → AV → Bool
  | _, .lit _ => true
  | _, .sl _ _ => true
  | _, .rp _ _ => true
  | n + 1, .agg cs => cs.all (cloB n)
  | n + 1, .tup cs => cs.all (cloB n)
  | _, _ => false
theorem cloB_sub : ∀ (n : Nat) {d : AV} {ρ : Gh}, cloB n d = true → d.sub ρ = d
  | n, d, ρ, h => by
    have hL : ∀ {m : Nat} {cs : List AV}, m < n → cs.all (cloB m) = true → cs.map (AVq.sub ρ) = cs := fun {m cs} hm h => by
      have : cs.map (AVq.sub ρ) = cs.map id := List.map_congr_left fun c hc => cloB_sub m (List.all_eq_true.1 h c hc)
      rw [this, List.map_id]
    cases n with
    | zero => cases d <;> first | (cases h; done) | simp only [AVq.sub]
    | succ n =>
      cases d <;> first | (cases h; done) | (simp only [AVq.sub]; done) | skip
      · rw [sub_agg, hL (Nat.lt_succ_self n) h]
      · rw [sub_tup, hL (Nat.lt_succ_self n) h]

/-- rows owned by the caller are data to the called -/
noncomputable def lendA (rd : Nat → Option IR) (n : Nat) : AV → AV := Nat.rec (fun d => match d with
  | .own id => match rd id with
    | some (.row t l) => .sl t l
    | _ => .own id
  | d => d) (fun _ ih d => match d with
  | .own id => match rd id with
    | some (.row t l) => .sl t l
    | _ => .own id
  | .agg cs => .agg (cs.map ih)
  | d => d) n
theorem lend_own {R : IRs} {ρ : Gh} {A : Nat → Prop} {w : World} {v : Value} {id : Nat} (hd : Hd A (IRs.res ρ R) w) (hr : Rel A w ((AVq.own (Dat := U.Dat) id).sub ρ) v) : Rel (fun b => A b ∨ b ∈ blks (IRs.res ρ R)) w ((match rget R id with
    | some (.row t l) => AVq.sl t l
    | _ => .own id).sub ρ) v := by
  have base : Rel (fun b => A b ∨ b ∈ blks (IRs.res ρ R)) w ((AVq.own (Dat := U.Dat) id).sub ρ) v := hr.mono fun b _ hA => ⟨.inl hA, rfl⟩
  split
  · rename_i t l hg
    obtain ⟨i, hi, _⟩ := rget_idx hg
    have hres := res_get (ρ := ρ) hi
    have hm := List.mem_of_getElem? hres
    rw [sub_own] at hr
    rw [sub_sl]
    have hd1 : Hd A [.row (ρ.v id) t l] w := ⟨fun r hr => by
      rw [List.mem_singleton] at hr
      rw [hr]
      exact hd.1 _ hm, fun b hb => hd.2 b (by
        obtain ⟨r, h1, h2⟩ := mem_blks.1 hb
        rw [List.mem_singleton] at h1
        rw [h1] at h2
        exact mem_blks.2 ⟨_, hm, h2⟩)⟩
    refine (Vw.row 0 rfl A w v hd1 hr).mono fun b _ hA => ⟨hA.imp (fun h => h) fun hx => ?_, rfl⟩
    obtain ⟨r, h1, h2⟩ := mem_blks.1 hx
    rw [List.mem_singleton] at h1
    rw [h1] at h2
    exact mem_blks.2 ⟨_, hm, h2⟩
  · exact base
theorem lendA_rel {R : IRs} {ρ : Gh} {A : Nat → Prop} {w : World} (hd : Hd A (IRs.res ρ R) w) : ∀ (n : Nat) {d : AV} {v : Value}, Rel A w (d.sub ρ) v → Rel (fun b => A b ∨ b ∈ blks (IRs.res ρ R)) w ((lendA (rget R) n d).sub ρ) v
  | 0, d, v, h => by
    cases d <;> first | exact h.mono fun b _ hA => ⟨.inl hA, rfl⟩ | exact lend_own hd h
  | n + 1, d, v, h => by
    cases d <;> first | exact h.mono fun b _ hA => ⟨.inl hA, rfl⟩ | exact lend_own hd h | skip
    rename_i cs
    show Rel _ w ((AVq.agg (cs.map (lendA (rget R) n))).sub ρ) v
    rw [sub_agg] at h ⊢
    obtain ⟨us, rfl, h2⟩ := h.aggInv
    refine Rel.aggL ⟨by simpa using h2.1, fun j a u q1 q2 => ?_⟩
    rw [List.map_map, List.getElem?_map] at q1
    obtain ⟨c, hc, rfl⟩ := Option.map_eq_some_iff.1 q1
    exact lendA_rel hd n (h2.2 j _ u (by rw [List.getElem?_map, hc]; rfl) q2)

/-! ### entries -/

def asG (t : Nat) : AV → Option (U.Dat t)
  | .agg cs => L.parse t cs
  | _ => none
theorem P1.g (t : Nat) : P1 (asG t) (fun x => .agg (U.cells t x)) := fun a b h A w v hr => by
  unfold asG at h
  split at h
  · obtain ⟨us, rfl, h2⟩ := hr.aggInv
    exact Rel.aggL (L.parse_ok _ _ _ h A w us h2)
  · cases h

noncomputable def entK {γ : Type} (q : List AV → Option γ) (m : γ → AV) {α : Type} (R : IRs) (nx : Nat) (k : AV → IRs → Nat → Option α) (l : List AV) : Option α := match l.all (cloB 2) with
  | true => match q l with
    | some g => k (m g) R nx
    | none => none
  | false => none
/-- What is known of a function: from arguments that q reads, it comes to m of what was read. -/
noncomputable def ent {γ : Type} (q : List AV → Option γ) (m : γ → AV) {α : Type} (args : List AV) (R : IRs) (nx : Nat) (k : AV → IRs → Nat → Option α) : Option α := entK q m R nx k (args.map (lendA (rget R) 2))
noncomputable def orC {γ : Type} (f0 : Nat) (q : List AV → Option γ) (m : γ → AV) (F : Orc) : Orc := fun _ f args R nx k => match Nat.beq f f0 with
  | true => ent q m args R nx k
  | false => F _ f args R nx k

theorem orC_ok {P : Program} {F : Orc} {γ : Type} {f0 : Nat} {q : List AV → Option γ} {c : γ → List AV} {m : γ → AV} (hF : OrcOk P F) (hf : fnOk P f0) (hq : Pk q c) (hm : ∀ g, scB 2 (m g) = true)
    (h : ∀ g, Fn P f0 (c g) [] (fun a s => a = m g ∧ s = [])) : OrcOk P (orC f0 q m F) := fun α f args R nx k r hr hargs hR => by
  unfold orC at hr
  split at hr
  case h_2 => exact hF α f args R nx k r hr hargs hR
  rename_i hb
  have hb := beqT hb
  subst hb
  unfold ent entK at hr
  split at hr
  case h_2 => cases hr
  rename_i hcl
  split at hr
  case h_2 => cases hr
  rename_i g hg
  refine ⟨hf, fun ρ => Fn.mono (Fn.frame (h g) (IRs.res ρ R) (args := args.map (AVq.sub ρ)) (fun A w vs hd hrel => ?_) fun a s ⟨h1, h2⟩ => ⟨h2, fun A A' w v hrel => by subst h1; exact scB_rel 2 (hm g) hrel⟩) fun a s ⟨⟨h1, _⟩, h2⟩ => ⟨m g, R, nx, hr, Nat.le_refl _, scB_ltd 2 (hm g), hR, ρ, .refl _ _, by rw [h1, scB_sub 2 (hm g)], by rw [h2]⟩⟩
  refine hq _ g hg _ w vs ⟨by simpa using hrel.1, fun j a v q1 q2 => ?_⟩
  rw [List.getElem?_map] at q1
  obtain ⟨d, hd1, rfl⟩ := Option.map_eq_some_iff.1 q1
  have hcd : cloB 2 (lendA (rget R) 2 d) = true := List.all_eq_true.1 hcl _ (List.mem_map.2 ⟨d, List.mem_of_getElem? hd1, rfl⟩)
  have := lendA_rel hd 2 (hrel.2 j _ v (by rw [List.getElem?_map, hd1]; rfl) q2)
  rwa [cloB_sub 2 hcd] at this

/-- no function is known -/
def or0 : Orc := fun _ _ _ _ _ _ => none
theorem or0_ok {P : Program} : OrcOk P or0 := fun _ _ _ _ _ _ _ h => by cases h

/-- the end of a function whose result reads as x -/
def kRes {β : Type} (e : AV → Option β) (d : AV) (R : IRs) (_ : Nat) : Option β := match R with
  | [] => e d
  | _ => none
/-- e reads the result, and m is the result of what it reads -/
def P0 {β : Type} (e : AV → Option β) (m : β → AV) : Prop := ∀ d x, e d = some x → d = m x ∧ cloB 2 d = true
theorem P0.b : P0 asB AVq.b := fun d x h => by
  unfold asB at h
  split at h
  · cases h; exact ⟨rfl, rfl⟩
  · cases h
theorem P0.i (k : IntKind) : P0 (asI k) (AVq.n k) := fun d x h => by
  unfold asI at h
  split at h
  · split at h
    · rename_i hk; subst hk; cases h; exact ⟨rfl, rfl⟩
    · cases h
  · cases h

theorem fn_run {P : Program} {F : Orc} (hF : OrcOk P F) {f : FuncId} {args : List AV} {β : Type} {e : AV → Option β} {m : β → AV} {x : β} (he : P0 e m) (hc : args.all (cloB 2) = true) (hl : ∀ d ∈ args, Ltd 0 d) (h : F β f args [] 0 (kRes e) = some x) : fnOk P f ∧ Fn P f args [] (fun a s => a = m x ∧ s = []) := by
  obtain ⟨h1, h2⟩ := hF β f args [] 0 (kRes e) x h hl (fun q hq => by cases hq)
  refine ⟨h1, ?_⟩
  have := h2 ⟨fun _ => undef, fun _ => 0⟩
  have ea : args.map (AVq.sub ⟨fun _ => undef, fun _ => 0⟩) = args := by
    have : args.map (AVq.sub ⟨fun _ => undef, fun _ => 0⟩) = args.map id := List.map_congr_left fun c hcm => cloB_sub 2 (List.all_eq_true.1 hc c hcm)
    rw [this, List.map_id]
  rw [ea] at this
  refine Fn.mono this fun a s ⟨d, R', nx', q1, _, _, _, ρ', _, q2, q3⟩ => ?_
  unfold kRes at q1
  split at q1
  · obtain ⟨q4, q5⟩ := he _ _ q1
    rw [q2, cloB_sub 2 q5, q4]
    exact ⟨rfl, by simpa [IRs.res] using q3⟩
  · cases q1
end Go.Iv
