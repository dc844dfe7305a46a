/- States with their names numbered afresh, nil slices owned. Program-independent. -/
import Derived.Test.YtgdahkddhecloaaIx2
set_option linter.unusedSectionVars false
set_option linter.unusedVariables false
set_option linter.unusedSimpArgs false
namespace Go.Iv
variable [U : Uni] [L : UniL]
open Go Go.RowKit

/-- d with its names turned by f -/
noncomputable def renA (f : Nat → Nat) (n : Nat) : AV → AV := Nat.rec (fun d => match d with
  | .own i => .own (f i)
  | .ptr i o => .ptr (f i) o
  | .ra i t m o => .ra (f i) t m o
  | d => d) (fun _ ih d => match d with
  | .own i => .own (f i)
  | .ptr i o => .ptr (f i) o
  | .ra i t m o => .ra (f i) t m o
  | .agg cs => .agg (cs.map ih)
  | .tup cs => .tup (cs.map ih)
  | .fn g cs => .fn g (cs.map ih)
  | .fp cs => .fp (cs.map ih)
  | d => d) n
theorem renA_sub {f : Nat → Nat} {ρ ρ' : Gh} {p : Nat → Bool} (hp : ∀ i, p i = true → ρ'.v (f i) = ρ.v i ∧ ρ'.b (f i) = ρ.b i) : ∀ (n : Nat) {d : AV}, idsC p n d = true → (renA f n d).sub ρ' = d.sub ρ
  | 0, d, h => by
    cases d with
    | lit v => show AVq.sub ρ' (.lit v) = _; rw [sub_lit, sub_lit]
    | sl t l => show AVq.sub ρ' (.sl t l) = _; rw [sub_sl, sub_sl]
    | rp v k => show AVq.sub ρ' (.rp v k) = _; simp only [AVq.sub]
    | own i => show AVq.sub ρ' (.own (f i)) = _; rw [sub_own, sub_own, (hp _ h).1]
    | ptr i o => show AVq.sub ρ' (.ptr (f i) o) = _; rw [sub_ptr, sub_ptr, (hp _ h).2]
    | ra i t m o => show AVq.sub ρ' (.ra (f i) t m o) = _; rw [sub_ra, sub_ra, (hp _ h).1]
    | _ => cases h
  | n + 1, d, h => by
    have hL : ∀ {cs : List AV}, cs.all (idsC p n) = true → (cs.map (renA f n)).map (AVq.sub ρ') = cs.map (AVq.sub ρ) := fun {cs} h => by
      rw [List.map_map]
      exact List.map_congr_left fun c hc => renA_sub hp n (List.all_eq_true.1 h c hc)
    cases d with
    | lit v => show AVq.sub ρ' (.lit v) = _; rw [sub_lit, sub_lit]
    | sl t l => show AVq.sub ρ' (.sl t l) = _; rw [sub_sl, sub_sl]
    | rp v k => show AVq.sub ρ' (.rp v k) = _; simp only [AVq.sub]
    | own i => show AVq.sub ρ' (.own (f i)) = _; rw [sub_own, sub_own, (hp _ h).1]
    | ptr i o => show AVq.sub ρ' (.ptr (f i) o) = _; rw [sub_ptr, sub_ptr, (hp _ h).2]
    | ra i t m o => show AVq.sub ρ' (.ra (f i) t m o) = _; rw [sub_ra, sub_ra, (hp _ h).1]
    | fp cs => show AVq.sub ρ' (.fp (List.map (renA f n) cs)) = _; rw [sub_fp, sub_fp, hL h]
    | agg cs => show AVq.sub ρ' (.agg (List.map (renA f n) cs)) = _; rw [sub_agg, sub_agg, hL h]
    | tup cs => show AVq.sub ρ' (.tup (List.map (renA f n) cs)) = _; rw [sub_tup, sub_tup, hL h]
    | fn g cs => show AVq.sub ρ' (.fn g (List.map (renA f n) cs)) = _; rw [sub_fn, sub_fn, hL h]
theorem renA_ltd {f : Nat → Nat} {p : Nat → Bool} {m : Nat} (hp : ∀ i, p i = true → f i < m) : ∀ (n : Nat) {d : AV}, idsC p n d = true → Ltd m (renA f n d)
  | 0, d, h => by
    cases d <;> first | exact .lit _ | exact .sl _ _ | exact .rp _ _ | exact .own _ (hp _ h) | exact .ptr _ _ (hp _ h) | exact .ra _ _ _ _ (hp _ h) | (cases h; done)
  | n + 1, d, h => by
    have hL : ∀ {cs : List AV}, cs.all (idsC p n) = true → ∀ c ∈ cs.map (renA f n), Ltd m c := fun {cs} h c hc => by
      obtain ⟨c', h1, rfl⟩ := List.mem_map.1 hc
      exact renA_ltd hp n (List.all_eq_true.1 h c' h1)
    cases d <;> first | exact .lit _ | exact .sl _ _ | exact .rp _ _ | exact .own _ (hp _ h) | exact .ptr _ _ (hp _ h) | exact .ra _ _ _ _ (hp _ h) | exact .agg _ (hL h) | exact .tup _ (hL h) | exact .fn _ _ (hL h) | exact .fp _ (hL h)
noncomputable def renR (f : Nat → Nat) : IR → IR
  | .box T cs => .box T (cs.map (renA f 4))
  | r => r

/-- the place of name i among the names -/
noncomputable def posN (l : List Nat) (i : Nat) : Nat := List.rec 0 (fun j _ ih => match Nat.beq j i with
  | true => 0
  | false => ih + 1) l
theorem posN_get : ∀ {l : List Nat} {i : Nat}, i ∈ l → l[posN l i]? = some i
  | j :: l, i, h => by
    show (j :: l)[match Nat.beq j i with
      | true => 0
      | false => posN l i + 1]? = some i
    cases hb : Nat.beq j i with
    | true => have := beqT hb; subst this; rfl
    | false =>
      have hne : i ≠ j := fun e => by subst e; rw [Nat.beq_refl] at hb; cases hb
      exact posN_get ((List.mem_cons.1 h).resolve_left hne)


/-- The slots ts alone. -/
noncomputable def liveE (ts : List Nat) (E : ET) : Env := ts.filterMap fun t => (eget E t).map fun d => (t, d)
theorem liveE_get {E : ET} : ∀ (ts : List Nat) t d, Env.get (liveE ts E) t = some d → eget E t = some d := fun ts => by
  induction ts with
  | nil => intro t d h; cases h
  | cons u ts ih =>
    intro t d h
    unfold liveE at h
    rw [List.filterMap_cons] at h
    cases hu : eget E u with
    | none => rw [hu] at h; exact ih t d h
    | some x =>
      rw [hu] at h
      by_cases hut : u = t
      · subst hut
        have h : Env.get ((u, x) :: _) u = some d := h
        rw [Env.get_hit] at h
        rw [hu, h]
      · have h : Env.get ((u, x) :: _) t = some d := h
        rw [Env.get_miss _ _ hut] at h
        exact ih t d h

/-- the first of name i, and the others -/
noncomputable def pick (i : Nat) (R : IRs) : Option ((Nat × IR) × IRs) := List.rec none (fun p R ih => match Nat.beq p.1 i with
  | true => some (p, R)
  | false => match ih with
    | some x => some (x.1, p :: x.2)
    | none => none) R
theorem pick_perm {i : Nat} : ∀ {R : IRs} {x}, pick i R = some x → List.Perm R (x.1 :: x.2)
  | [], x, h => by cases h
  | p :: R, x, h => by
    have h : (match Nat.beq p.1 i with
      | true => some (p, R)
      | false => match pick i R with
        | some x => some (x.1, p :: x.2)
        | none => none) = some x := h
    split at h
    · cases h; exact .refl _
    · split at h
      · rename_i y hy
        cases h
        exact ((pick_perm hy).cons p).trans (.swap _ _ _)
      · cases h
/-- those named ns, in that order, and the others -/
noncomputable def picks (ns : List Nat) : IRs → IRs × IRs := List.rec (fun R => ([], R)) (fun i _ ih R => match pick i R with
  | some x => (x.1 :: (ih x.2).1, (ih x.2).2)
  | none => ih R) ns
theorem picks_perm : ∀ (ns : List Nat) (R : IRs), List.Perm R ((picks ns R).1 ++ (picks ns R).2)
  | [], R => .refl _
  | i :: ns, R => by
    show List.Perm R ((match pick i R with
      | some x => (x.1 :: (picks ns x.2).1, (picks ns x.2).2)
      | none => picks ns R).1 ++ (match pick i R with
      | some x => (x.1 :: (picks ns x.2).1, (picks ns x.2).2)
      | none => picks ns R).2)
    split
    · rename_i x hx
      exact (pick_perm hx).trans ((picks_perm ns x.2).cons _)
    · exact picks_perm ns R

noncomputable def upto (n : Nat) : List Nat := Nat.rec [] (fun i ih => ih ++ [i]) n
theorem upto_mem {n i : Nat} (h : i < n) : i ∈ upto n := by
  induction n with
  | zero => omega
  | succ n ih =>
    show i ∈ upto n ++ [n]
    by_cases hi : i = n
    · subst hi; simp
    · exact List.mem_append_left _ (ih (by omega))
theorem upto_get {n i : Nat} (h : i < n) : (upto n)[i]? = some i := by
  induction n with
  | zero => omega
  | succ n ih =>
    show (upto n ++ [n])[i]? = some i
    have hl : ∀ n, (upto n).length = n := fun n => by
      induction n with
      | zero => rfl
      | succ n ih => show (upto n ++ [n]).length = n + 1; simp [ih]
    by_cases hi : i = n
    · subst hi; rw [List.getElem?_append_right (by rw [hl]; exact Nat.le_refl _), hl, Nat.sub_self]; rfl
    · rw [List.getElem?_append_left (by rw [hl]; omega)]; exact ih (by omega)
theorem upto_len : ∀ n, (upto n).length = n := fun n => by
  induction n with
  | zero => rfl
  | succ n ih => show (upto n ++ [n]).length = n + 1; simp [ih]
theorem posN_upto {n i : Nat} (h : i < n) (l : List Nat) : posN (upto n ++ l) i = i := by
  have key : ∀ (l : List Nat) (k : Nat), (∀ j, j ≤ k → l[j]? = some (j + (i - k))) → k ≤ i → posN l i = k := by
    intro l k
    induction k generalizing l with
    | zero =>
      intro h0 _
      cases l with
      | nil => have := h0 0 (Nat.le_refl _); cases this
      | cons a l =>
        have h1 := h0 0 (Nat.le_refl _)
        simp at h1
        show (match Nat.beq a i with | true => 0 | false => posN l i + 1) = 0
        rw [h1, Nat.beq_refl]
    | succ k ih =>
      intro h0 hk
      cases l with
      | nil => have := h0 0 (Nat.zero_le _); cases this
      | cons a l =>
        have h1 := h0 0 (Nat.zero_le _)
        simp at h1
        have hne : Nat.beq a i = false := by
          cases hb : Nat.beq a i with
          | false => rfl
          | true => have := beqT hb; omega
        show (match Nat.beq a i with | true => 0 | false => posN l i + 1) = k + 1
        rw [hne]
        dsimp only
        rw [ih l (fun j hj => by have := h0 (j + 1) (by omega); rw [List.getElem?_cons_succ] at this; rw [this]; congr 1; omega) (by omega)]
  refine key _ i (fun j hj => ?_) (Nat.le_refl _)
  rw [Nat.sub_self, Nat.add_zero, List.getElem?_append_left (by rw [upto_len]; omega)]
  exact upto_get (by omega)
/-- the number of name i: those of dr are numbered afresh -/
noncomputable def numN (n0 : Nat) (dr rest : List Nat) (i : Nat) : Nat := match memB i dr with
  | true => n0 + posN rest i
  | false => posN (upto n0 ++ rest) i
noncomputable def canon2 (n0 : Nat) (dr : List Nat) (l : Env) (R : IRs) (rest : List Nat) : Option St := match l.all (fun q => idsC (fun i => memB i rest || !memB i dr && Nat.blt i n0) 4 q.2) && R.all (fun q => (memB q.1 rest || !memB q.1 dr && Nat.blt q.1 n0) && match q.2 with
    | .box _ cs => cs.all (idsC (fun i => memB i rest || !memB i dr && Nat.blt i n0) 4)
    | .row _ _ => true) with
  | true => some ⟨etOf (l.map fun q => (q.1, renA (numN n0 dr rest) 4 q.2)), R.map fun q => (numN n0 dr rest q.1, renR (numN n0 dr rest) q.2), n0 + rest.length⟩
  | false => none
noncomputable def canon1 (n0 : Nat) (dr : List Nat) (l : Env) (R : IRs) : Option St := canon2 n0 dr l R ((R.map fun q => q.1).filter fun i => memB i dr || !Nat.blt i n0)
/-- The slots ts alone, what they reach, named in the order in which it is met; the names below n0 stay, but those of dr. -/
noncomputable def canon (n0 : Nat) (dr : List Nat) (ts : List Nat) (s : St) : Option St := canon1 n0 dr (liveE ts s.E) (picks ((upto n0).filter (fun i => !memB i dr) ++ reach s.R 3 ((liveE ts s.E).flatMap fun q => idsN 4 q.2)) s.R).1

theorem canon_ok {n0 n : Nat} {dr ts : List Nat} {C : Cg} {s s' : St} {a : Act} {w : World} (hC : C.n = n0) (h : canon n0 dr ts s = some s') (hm : Mt C n s a w) : Mt C n s' a w := by
  unfold canon canon1 at h
  generalize hl : liveE ts s.E = l at h
  generalize hR : (picks ((upto n0).filter (fun i => !memB i dr) ++ reach s.R 3 (l.flatMap fun q => idsN 4 q.2)) s.R) = R2 at h
  have hperm : List.Perm s.R (R2.1 ++ R2.2) := by rw [← hR]; exact picks_perm _ _
  obtain ⟨R, Rr⟩ := R2
  dsimp only at h hperm
  generalize hns : ((R.map fun q => q.1).filter fun i => memB i dr || !Nat.blt i n0) = rest at h
  unfold canon2 at h
  split at h
  case h_2 => cases h
  rename_i hb
  cases h
  rw [Bool.and_eq_true] at hb
  obtain ⟨hb1, hb2⟩ := hb
  obtain ⟨E, hh, hE, hR0, ρ, hag, hsim⟩ := hm
  let ρ' : Gh := ⟨fun j => ρ.v ((upto n0 ++ rest).getD j 0), fun j => ρ.b ((upto n0 ++ rest).getD j 0)⟩
  have hget : ∀ i, (memB i rest || !memB i dr && Nat.blt i n0) = true → (upto n0 ++ rest)[numN n0 dr rest i]? = some i := fun i hi => by
    unfold numN
    cases hd : memB i dr with
    | true =>
      rw [hd] at hi
      have hi : memB i rest = true := by simpa using hi
      show (upto n0 ++ rest)[n0 + posN rest i]? = some i
      rw [List.getElem?_append_right (by rw [upto_len]; omega), upto_len, Nat.add_sub_cancel_left]
      exact posN_get (memB_iff.1 hi)
    | false =>
      rw [hd] at hi
      show (upto n0 ++ rest)[posN (upto n0 ++ rest) i]? = some i
      refine posN_get ?_
      rw [Bool.or_eq_true] at hi
      rcases hi with hi | hi
      · exact List.mem_append_right _ (memB_iff.1 hi)
      · refine List.mem_append_left _ (upto_mem ?_)
        simpa [Nat.blt_eq] using hi
  have hp : ∀ i, (memB i rest || !memB i dr && Nat.blt i n0) = true → ρ'.v (numN n0 dr rest i) = ρ.v i ∧ ρ'.b (numN n0 dr rest i) = ρ.b i := fun i hi => by
    have e : (upto n0 ++ rest).getD (numN n0 dr rest i) 0 = i := by rw [List.getD_eq_getElem?_getD, hget i hi]; rfl
    exact ⟨by show ρ.v ((upto n0 ++ rest).getD (numN n0 dr rest i) 0) = _; rw [e], by show ρ.b ((upto n0 ++ rest).getD (numN n0 dr rest i) 0) = _; rw [e]⟩
  have hll : (upto n0 ++ rest).length = n0 + rest.length := by rw [List.length_append, upto_len]
  have hlt : ∀ i, (memB i rest || !memB i dr && Nat.blt i n0) = true → numN n0 dr rest i < n0 + rest.length := fun i hi => by
    rw [← hll]; exact (List.getElem?_eq_some_iff.1 (hget i hi)).1
  have hres : IRs.res ρ' (R.map fun q => (numN n0 dr rest q.1, renR (numN n0 dr rest) q.2)) = IRs.res ρ R := by
    unfold IRs.res
    rw [List.map_map]
    refine List.map_congr_left fun q hq => ?_
    have hbq := List.all_eq_true.1 hb2 q hq
    rw [Bool.and_eq_true] at hbq
    have hm := hbq.1
    have hbq := hbq.2
    obtain ⟨i, r⟩ := q
    cases r with
    | row t l => show Res.row (ρ'.v (numN n0 dr rest i)) t l = .row (ρ.v i) t l; rw [(hp i hm).1]
    | box T cs =>
      show Res.box (ρ'.b (numN n0 dr rest i)) T ((cs.map (renA (numN n0 dr rest) 4)).map (AVq.sub ρ')) = .box (ρ.b i) T (cs.map (AVq.sub ρ))
      rw [(hp i hm).2, List.map_map]
      congr 1
      exact List.map_congr_left fun c hc => renA_sub hp 4 (List.all_eq_true.1 hbq c hc)
  have hp2 : List.Perm (IRs.res ρ s.R) (IRs.res ρ (R ++ Rr)) := hperm.map _
  have hsim2 := hsim.perm hp2
  rw [res_app] at hsim2
  have hless := hsim2.less (List.sublist_append_left _ _)
  refine ⟨l.map fun q => (q.1, renA (numN n0 dr rest) 4 q.2), etOf_hold _, fun q hq => ?_, fun q hq => ?_, ρ', ⟨fun i hi => ?_, ?_⟩, ?_⟩
  · obtain ⟨q', h1, rfl⟩ := List.mem_map.1 hq
    exact renA_ltd hlt 4 (List.all_eq_true.1 hb1 q' h1)
  · obtain ⟨q', h1, rfl⟩ := List.mem_map.1 hq
    have hbq := List.all_eq_true.1 hb2 q' h1
    rw [Bool.and_eq_true] at hbq
    have hm := hbq.1
    have hbq := hbq.2
    refine ⟨hlt _ hm, ?_⟩
    obtain ⟨i, r⟩ := q'
    cases r with
    | row t l => trivial
    | box T cs =>
      intro c hc
      obtain ⟨c', h3, rfl⟩ := List.mem_map.1 hc
      exact renA_ltd hlt 4 (List.all_eq_true.1 hbq c' h3)
  · rw [hC] at hi
    have e : (upto n0 ++ rest).getD i 0 = i := by
      rw [List.getD_eq_getElem?_getD, List.getElem?_append_left (by rw [upto_len]; exact hi), upto_get hi]; rfl
    have := hag.1 i (by rw [hC]; exact hi)
    exact ⟨by show C.ρ.v i = ρ.v ((upto n0 ++ rest).getD i 0); rw [e]; exact this.1, by show C.ρ.b i = ρ.b ((upto n0 ++ rest).getD i 0); rw [e]; exact this.2⟩
  · rw [hC]
    show n0 ≤ n0 + rest.length
    exact Nat.le_add_right _ _
  · rw [hres]
    refine ⟨hless.defers, hless.size, fun t av ht => ?_, hless.good⟩
    have e : ∀ (l : Env), (∀ q ∈ l, idsC (fun i => memB i rest || !memB i dr && Nat.blt i n0) 4 q.2 = true) → Env.sub ρ' (l.map fun q => (q.1, renA (numN n0 dr rest) 4 q.2)) = Env.sub ρ l := fun l hl => by
      unfold Env.sub
      rw [List.map_map]
      exact List.map_congr_left fun q hq => by
        show (q.1, (renA (numN n0 dr rest) 4 q.2).sub ρ') = _
        rw [renA_sub hp 4 (hl q hq)]
    rw [e l (fun q hq => List.all_eq_true.1 hb1 q hq), Env.sub_get] at ht
    obtain ⟨d, hd, rfl⟩ := Option.map_eq_some_iff.1 ht
    rw [← hl] at hd
    exact hless.slots t _ (by rw [Env.sub_get, hh t d (liveE_get ts t d hd)]; rfl)

/-- what rd reads of the state with its names numbered afresh -/
noncomputable def rdC {γ : Type} (n0 : Nat) (dr ts : List Nat) (rd : St → Option γ) (s : St) : Option γ := (canon n0 dr ts s).bind rd
theorem rdC_ok {γ : Type} {n0 n : Nat} {dr ts : List Nat} {rd : St → Option γ} {pat : γ → St} (h : RdOk n0 n rd pat) : RdOk n0 n (rdC n0 dr ts rd) pat := fun C s p a w hC hr hm => by
  obtain ⟨s', h1, h2⟩ := Option.bind_eq_some_iff.1 hr
  exact h C s' p a w hC h2 (canon_ok hC h1 hm)

/-! ### nil slices that are owned -/

noncomputable def modN {β : Type} (f : β → β) (j : Nat) (l : List β) : List β := List.rec (fun _ => []) (fun b l ih j => match Nat.beq j 0 with
  | true => f b :: l
  | false => b :: ih (j - 1)) l j
theorem modN_map {β γ : Type} {f : β → β} {g g' : β → γ} : ∀ (l : List β) (j : Nat), (∀ b ∈ l, g (f b) = g' b) → (∀ b ∈ l, g b = g' b) → (modN f j l).map g = l.map g'
  | [], _, _, _ => rfl
  | b :: l, j, h1, h2 => by
    show (match Nat.beq j 0 with
      | true => f b :: l
      | false => b :: modN f (j - 1) l).map g = _
    split
    · rw [List.map_cons, List.map_cons, h1 b List.mem_cons_self, List.map_congr_left fun c hc => h2 c (List.mem_cons_of_mem _ hc)]
    · rw [List.map_cons, List.map_cons, h2 b List.mem_cons_self, modN_map l (j - 1) (fun c hc => h1 c (List.mem_cons_of_mem _ hc)) (fun c hc => h2 c (List.mem_cons_of_mem _ hc))]
theorem modN_mem {β : Type} {f : β → β} {p : β → Prop} : ∀ (l : List β) (j : Nat), (∀ b ∈ l, p (f b)) → (∀ b ∈ l, p b) → ∀ b ∈ modN f j l, p b
  | [], _, _, _, b, hb => by cases hb
  | c :: l, j, h1, h2, b, hb => by
    have hb : b ∈ (match Nat.beq j 0 with
      | true => f c :: l
      | false => c :: modN f (j - 1) l) := hb
    split at hb
    · rcases List.mem_cons.1 hb with rfl | hb
      · exact h1 c List.mem_cons_self
      · exact h2 b (List.mem_cons_of_mem _ hb)
    · rcases List.mem_cons.1 hb with rfl | hb
      · exact h2 b List.mem_cons_self
      · exact modN_mem l (j - 1) (fun c hc => h1 c (List.mem_cons_of_mem _ hc)) (fun c hc => h2 c (List.mem_cons_of_mem _ hc)) b hb
/-- the nil slice at path p is what nx names -/
noncomputable def ownA (nx : Nat) (p : List Nat) : AV → AV := List.rec (fun d => match d with
  | .lit (.slice none 0 0) => .own nx
  | d => d) (fun j _ ih d => match d with
  | .agg cs => .agg (modN ih j cs)
  | .tup cs => .tup (modN ih j cs)
  | d => d) p
theorem ownA_sub {ρ : Gh} {nx : Nat} : ∀ (p : List Nat) (d : AV), Ltd nx d → (ownA nx p d).sub (ρ.putV nx (.slice none 0 0)) = d.sub ρ
  | [], d, h => by
    show AVq.sub _ (match d with
      | .lit (.slice none 0 0) => .own nx
      | d => d) = _
    split
    · rw [sub_own, sub_lit]; simp [Gh.putV]
    · exact (h.sub (.putV ρ nx _)).symm
  | j :: p, d, h => by
    show AVq.sub _ (match d with
      | .agg cs => .agg (modN (ownA nx p) j cs)
      | .tup cs => .tup (modN (ownA nx p) j cs)
      | d => d) = _
    split
    · rw [sub_agg, sub_agg, modN_map _ j (fun b hb => ownA_sub p b (h.aggL b hb)) (fun b hb => ((h.aggL b hb).sub (.putV ρ nx _)).symm)]
    · rw [sub_tup, sub_tup, modN_map _ j (fun b hb => ownA_sub p b (h.tupL b hb)) (fun b hb => ((h.tupL b hb).sub (.putV ρ nx _)).symm)]
    · exact (h.sub (.putV ρ nx _)).symm
theorem ownA_ltd {nx : Nat} : ∀ (p : List Nat) (d : AV), Ltd nx d → Ltd (nx + 1) (ownA nx p d)
  | [], d, h => by
    show Ltd (nx + 1) (match d with
      | .lit (.slice none 0 0) => .own nx
      | d => d)
    split
    · exact .own _ (Nat.lt_succ_self _)
    · exact h.mono (Nat.le_succ _)
  | j :: p, d, h => by
    show Ltd (nx + 1) (match d with
      | .agg cs => .agg (modN (ownA nx p) j cs)
      | .tup cs => .tup (modN (ownA nx p) j cs)
      | d => d)
    split
    · exact .agg _ (modN_mem _ j (fun b hb => ownA_ltd p b (h.aggL b hb)) (fun b hb => (h.aggL b hb).mono (Nat.le_succ _)))
    · exact .tup _ (modN_mem _ j (fun b hb => ownA_ltd p b (h.tupL b hb)) (fun b hb => (h.tupL b hb).mono (Nat.le_succ _)))
    · exact h.mono (Nat.le_succ _)
/-- the nil slice at path p of slot t is an own row of e's -/
noncomputable def ownS (t : Nat) (p : List Nat) (e : Nat) (s : St) : St := match eget s.E t with
  | some d => ⟨eput t (ownA s.nx p d) s.E, (s.nx, .row e []) :: s.R, s.nx + 1⟩
  | none => s
/-- the nil slice at path p of cell j of box id is an own row of e's -/
noncomputable def ownC (id j : Nat) (p : List Nat) (e : Nat) (s : St) : St := match rget s.R id with
  | some (.box T cs) => ⟨s.E, (s.nx, .row e []) :: rset id (.box T (modN (ownA s.nx p) j cs)) s.R, s.nx + 1⟩
  | _ => s
theorem res_new {ρ : Gh} {R : IRs} {nx e : Nat} : IRs.res (ρ.putV nx (.slice none 0 0)) ((nx, IR.row e []) :: R) = Res.row (.slice none 0 0) e [] :: IRs.res (ρ.putV nx (.slice none 0 0)) R := by
  show Res.row ((ρ.putV nx (.slice none 0 0)).v nx) e [] :: _ = _
  simp [Gh.putV, IRs.res]
theorem ownS_ok {C : Cg} {n t e : Nat} {p : List Nat} {s : St} {a : Act} {w : World} (hm : Mt C n s a w) : Mt C n (ownS t p e s) a w := by
  unfold ownS
  split
  case h_2 => exact hm
  rename_i d hg
  obtain ⟨E, hh, hE, hR, ρ, hag, hsim⟩ := hm
  have ht := tr_own (C := C.C) none e hsim.good
  have hs := hsim.tr ht
  have hs1 : E.sub ρ = E.sub (ρ.putV s.nx (.slice none 0 0)) := hE.sub (.putV ρ s.nx _)
  have hr1 : IRs.res ρ s.R = IRs.res (ρ.putV s.nx (.slice none 0 0)) s.R := hR.res (.putV ρ s.nx _)
  have hd : Ltd s.nx d := hE _ (Env.get_mem (hh t d hg))
  refine ⟨(t, ownA s.nx p d) :: E, hh.put t _, Env.cons_ltd (hE.mono (Nat.le_succ _)) (ownA_ltd p d hd), fun q hq => ?_, ρ.putV s.nx (.slice none 0 0), ⟨hag.1.trans (.putV ρ s.nx _) hag.2, Nat.le_trans hag.2 (Nat.le_succ _)⟩, ?_⟩
  · rcases List.mem_cons.1 hq with rfl | hq
    · exact ⟨Nat.lt_succ_self _, trivial⟩
    · exact (hR.mono (Nat.le_succ _)) q hq
  · show Sim C.C n ((t, AVq.sub _ (ownA s.nx p d)) :: E.sub _) (IRs.res _ ((s.nx, IR.row e []) :: s.R)) a w
    rw [res_new, ← hr1, ← hs1, ownA_sub p d hd]
    refine ⟨hs.defers, hs.size, fun u av hu => ?_, hs.good⟩
    by_cases htu : t = u
    · subst htu
      rw [Env.get_hit] at hu
      cases hu
      exact hs.slots t _ (by rw [Env.sub_get, hh t _ hg, Option.map_some])
    · rw [Env.get_miss _ _ htu] at hu
      exact hs.slots u av hu
theorem ownC_ok {C : Cg} {n id j e : Nat} {p : List Nat} {s : St} {a : Act} {w : World} (hm : Mt C n s a w) : Mt C n (ownC id j p e s) a w := by
  unfold ownC
  split
  case h_2 => exact hm
  rename_i T cs hg
  obtain ⟨E, hh, hE, hR, ρ, hag, hsim⟩ := hm
  have ht := tr_own (C := C.C) none e hsim.good
  have hs := hsim.tr ht
  have hs1 : E.sub ρ = E.sub (ρ.putV s.nx (.slice none 0 0)) := hE.sub (.putV ρ s.nx _)
  have hr1 : IRs.res ρ s.R = IRs.res (ρ.putV s.nx (.slice none 0 0)) s.R := hR.res (.putV ρ s.nx _)
  obtain ⟨hid, hcs⟩ := rget_ltd hg hR
  have hr2 : IRs.res (ρ.putV s.nx (.slice none 0 0)) (rset id (.box T (modN (ownA s.nx p) j cs)) s.R) = IRs.res ρ s.R := by
    obtain ⟨i, h1, h2, _⟩ := rget_idx hg
    rw [h2, res_set, ← hr1]
    have e1 : IR.res (ρ.putV s.nx (.slice none 0 0)) id (.box T (modN (ownA s.nx p) j cs)) = IR.res ρ id (.box T cs) := by
      show Res.box ((ρ.putV s.nx (.slice none 0 0)).b id) T ((modN (ownA s.nx p) j cs).map (AVq.sub _)) = .box (ρ.b id) T (cs.map (AVq.sub ρ))
      rw [modN_map cs j (fun b hb => ownA_sub p b (hcs b hb)) (fun b hb => ((hcs b hb).sub (.putV ρ s.nx _)).symm)]
      rfl
    rw [e1]
    have h3 := res_get (ρ := ρ) h1
    exact List.ext_getElem? fun k => by
      by_cases hk : i = k
      · subst hk
        rw [List.getElem?_set_self (List.getElem?_eq_some_iff.1 h3).1, h3]
      · rw [List.getElem?_set_ne hk]
  refine ⟨E, hh, hE.mono (Nat.le_succ _), fun q hq => ?_, ρ.putV s.nx (.slice none 0 0), ⟨hag.1.trans (.putV ρ s.nx _) hag.2, Nat.le_trans hag.2 (Nat.le_succ _)⟩, ?_⟩
  · rcases List.mem_cons.1 hq with rfl | hq
    · exact ⟨Nat.lt_succ_self _, trivial⟩
    · refine rset_ltd hg (hR.mono (Nat.le_succ _)) ?_ q hq
      exact modN_mem cs j (fun b hb => ownA_ltd p b (hcs b hb)) (fun b hb => (hcs b hb).mono (Nat.le_succ _))
  · show Sim C.C n (E.sub _) (IRs.res _ ((s.nx, IR.row e []) :: rset id (.box T (modN (ownA s.nx p) j cs)) s.R)) a w
    rw [res_new, hr2, ← hs1]
    exact hs
/-- the row named at path p -/
noncomputable def atA (p : List Nat) : AV → Option Nat := List.rec (fun d => match d with
  | .own i => some i
  | _ => none) (fun j _ ih d => match d with
  | .agg cs => (cs[j]?).bind ih
  | .tup cs => (cs[j]?).bind ih
  | _ => none) p
/-- the row at path p of slot t becomes data -/
noncomputable def frzS (t : Nat) (p : List Nat) (s : St) : St := match eget s.E t with
  | some d => match atA p d with
    | some i => s.frz i
    | none => s
  | none => s
/-- the row at path p of cell j of box id becomes data -/
noncomputable def frzC (id j : Nat) (p : List Nat) (s : St) : St := match rget s.R id with
  | some (.box _ cs) => match (cs[j]?).bind (atA p) with
    | some i => s.frz i
    | none => s
  | _ => s
/-- what rd reads of a state that f has turned -/
def rdF {γ : Type} (f : St → St) (rd : St → Option γ) (s : St) : Option γ := rd (f s)
def TurnOk (f : St → St) : Prop := ∀ (C : Cg) n s a w, Mt C n s a w → Mt C n (f s) a w
theorem TurnOk.s (t : Nat) (p : List Nat) (e : Nat) : TurnOk (ownS t p e) := fun _ _ _ _ _ h => ownS_ok h
theorem TurnOk.c (id j : Nat) (p : List Nat) (e : Nat) : TurnOk (ownC id j p e) := fun _ _ _ _ _ h => ownC_ok h
theorem TurnOk.frz (id : Nat) : TurnOk (fun s => s.frz id) := fun _ _ _ _ _ h => h.frz id
theorem TurnOk.fs (t : Nat) (p : List Nat) : TurnOk (frzS t p) := fun _ _ _ _ _ h => by
  unfold frzS
  split
  · split
    · exact h.frz _
    · exact h
  · exact h
theorem TurnOk.fc (id j : Nat) (p : List Nat) : TurnOk (frzC id j p) := fun _ _ _ _ _ h => by
  unfold frzC
  split
  · split
    · exact h.frz _
    · exact h
  · exact h
theorem rdF_ok {γ : Type} {n0 n : Nat} {f : St → St} {rd : St → Option γ} {pat : γ → St} (hf : TurnOk f) (h : RdOk n0 n rd pat) : RdOk n0 n (rdF f rd) pat := fun C s p a w hC hr hm => h C (f s) p a w hC hr (hf C n s a w hm)
end Go.Iv
