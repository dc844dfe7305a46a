/- A byte that lies in new memory is written: what reads there as data reads on, with other bytes. -/
import Derived.Test.YtfipaakafcjjhaaTy
import Derived.Test.YtfipaakafcjjhaaFr
set_option linter.unusedSectionVars false
set_option linter.unusedVariables false
set_option linter.unusedSimpArgs false
namespace Go.Proofs.Ytfipaakafcjjhaa
open Go Go.RowKit Go.Ab Go.Proofs

def U8 (u u' : Value) : Prop := u' = u ∨ ∃ z z', u = .int .u8 z ∧ u' = .int .u8 z'

structure W8 (g : Nat) (w w' : World) : Prop where
  size : w'.heap.size = w.heap.size
  uf : ∀ b, Uf w b → Uf w' b
  cell : ∀ a u, w.cell? a = some u → ∃ u', w'.cell? a = some u' ∧ U8 u u'
  kp : Kp [g] w w'

theorem W8.of {w : World} {g of : Nat} {cur : Array Value} {T : TypeId} {z z' : Int} (hB : Blk w g cur T) (hc : cur[of]? = some (.int .u8 z)) : W8 g w (w.setRow g (cur.toList.take of ++ [Value.int .u8 z'] ++ cur.toList.drop (of + 1)).toArray) := by
  have hlt : of < cur.size := (Array.getElem?_eq_some_iff.1 hc).1
  have hset : cur.toList.take of ++ [Value.int .u8 z'] ++ cur.toList.drop (of + 1) = cur.toList.set of (.int .u8 z') := by
    rw [List.set_eq_take_append_cons_drop, if_pos (by simpa using hlt)]; simp
  rw [hset]
  have hg := setRow_heap w g cur (cur.toList.set of (.int .u8 z')).toArray T (0, 0) hB
  refine ⟨by simp, fun b hb => ?_, fun a u hu => ?_, kp_setRow w g _⟩
  · by_cases hbg : b = g
    · subst hbg; exact ⟨_, _, hg⟩
    · obtain ⟨cs, T, h⟩ := hb
      exact ⟨cs, T, (setRow_other w g b _ hbg).trans h⟩
  · by_cases hbg : a.block = g
    · have hB' : w.heap[a.block]? = some (.cells cur T (0, 0)) := by rw [hbg]; exact hB
      have hg' : (w.setRow g (cur.toList.set of (.int .u8 z')).toArray).heap[a.block]? = some (.cells (cur.toList.set of (.int .u8 z')).toArray T (0, 0)) := by rw [hbg]; exact hg
      simp only [World.cell?, hB'] at hu
      simp only [World.cell?, hg']
      by_cases hs : a.spot.isSome
      · rw [if_pos hs] at hu; cases hu
      · rw [if_neg hs] at hu ⊢
        by_cases ho : a.off = of
        · refine ⟨.int .u8 z', ?_, .inr ⟨z, z', ?_, rfl⟩⟩
          · rw [ho]; simp [hlt]
          · rw [ho, hc] at hu; cases hu; rfl
        · refine ⟨u, ?_, .inl rfl⟩
          simp only [List.getElem?_toArray, List.getElem?_set]
          rw [if_neg (fun e => ho e.symm)]
          simpa using hu
    · exact ⟨u, by rw [World.cell?_of_block (setRow_other w g a.block _ hbg)]; exact hu, .inl rfl⟩

section
variable {A : Nat → Prop} {w w' : World} {g : Nat}

theorem slStep (W : W8 g w w') {α : Type} [Inhabited α] {sz : Nat} {c : α → List AV} {l : List α} {v : Value} (h : Rel A w (.sl sz c l) v)
    (he : ∀ x us us', RelL A w (c x) us → us'.length = us.length → (∀ (j : Nat) u, us[j]? = some u → ∃ u', us'[j]? = some u' ∧ U8 u u') → ∃ x', (c x').length = (c x).length ∧ RelL A w' (c x') us') :
    ∃ l' : List α, l'.length = l.length ∧ Rel A w' (.sl sz c l') v := by
  obtain ⟨p, cap, u, rfl, hl, hcap, hz, hc, hr⟩ := h.slInv
  obtain ⟨cl, hcl⟩ : ∃ cl : Nat → Nat → Value, cl = fun i j => ((p.bind fun a => w'.cell? ⟨a.block, a.off + i * sz + j, none⟩)).getD undef := ⟨_, rfl⟩
  have hx : ∀ i, ∃ x' : α, i < l.length → (c x').length = sz ∧ (∀ b off, p = some ⟨b, off, none⟩ → ∀ j, j < sz → w'.cell? ⟨b, off + i * sz + j, none⟩ = some (cl i j)) ∧ RelL A w' (c x') ((List.range sz).map (cl i)) := fun i => by
    by_cases hi : i < l.length
    · obtain ⟨b, off, us, hp, hb, hA, hlen, hcell, hL⟩ := h.slAt hi
      have hcw : ∀ j, j < sz → ∃ u, us[j]? = some u ∧ w'.cell? ⟨b, off + i * sz + j, none⟩ = some (cl i j) ∧ U8 u (cl i j) := fun j hj => by
        have h1 : us[j]? = some us[j] := List.getElem?_eq_getElem (by omega)
        obtain ⟨u', h2, h3⟩ := W.cell _ _ (hcell j _ h1)
        have h4 : cl i j = u' := by rw [hcl, hp]; simp [h2]
        exact ⟨_, h1, by rw [h4]; exact h2, by rw [h4]; exact h3⟩
      obtain ⟨x', q1, q2⟩ := he _ us ((List.range sz).map (cl i)) hL (by simp [hlen]) (fun j u hj => by
        have hj' : j < sz := by rw [← hlen]; exact (List.getElem?_eq_some_iff.1 hj).1
        obtain ⟨u2, h1, h2, h3⟩ := hcw j hj'
        rw [hj] at h1; cases h1
        exact ⟨cl i j, by simp [hj'], h3⟩)
      refine ⟨x', fun _ => ⟨q1.trans (hz i hi), fun b' off' hp' j hj => ?_, q2⟩⟩
      rw [hp] at hp'; cases hp'
      exact (hcw j hj).choose_spec.2.1
    · exact ⟨default, fun h => absurd h hi⟩
  obtain ⟨f, hf⟩ := Classical.axiomOfChoice hx
  have hget : ∀ i, i < l.length → ((List.range l.length).map f)[i]! = f i := fun i hi => by
    rw [getElem!_pos _ i (by simpa using hi)]; simp
  obtain ⟨L, hL⟩ : ∃ L, L = (List.range l.length).map f := ⟨_, rfl⟩
  rw [← hL] at hget
  have hln : L.length = l.length := by rw [hL]; simp
  refine ⟨L, hln, ?_⟩
  rw [← hln]
  refine .sl sz c _ p cap cl (by omega) (by omega) (fun i hi => ?_) (fun i hi => ?_) (fun i j a hi ha => ?_)
  · rw [hln] at hi; rw [hget i hi]; exact (hf i hi).1
  · rw [hln] at hi
    obtain ⟨b, off, hp, hb, hA, _⟩ := hc i hi
    exact ⟨b, off, hp, by rw [W.size]; exact hb, ⟨hA.1, hA.2.imp id (W.uf b)⟩, (hf i hi).2.1 b off hp⟩
  · rw [hln] at hi
    rw [hget i hi] at ha
    obtain ⟨v, h1, h2⟩ := (hf i hi).2.2.get ha
    have hj : j < sz := by
      have := (List.getElem?_eq_some_iff.1 h1).1
      simpa using this
    rw [List.getElem?_map, List.getElem?_range hj] at h1
    cases h1
    exact h2

theorem U8.lit {v u' : Value} (h : U8 v u') (hv : ∀ z, v ≠ .int .u8 z) : u' = v := h.elim id fun ⟨z, _, e, _⟩ => absurd e (hv z)

/-- two cells, one after the other -/
theorem cells_head {P : Value → Value → Prop} {u : Value} {us us' : List Value} (hl : us'.length = (u :: us).length) (h : ∀ (j : Nat) x, (u :: us)[j]? = some x → ∃ x', us'[j]? = some x' ∧ P x x') :
    ∃ u' r, us' = u' :: r ∧ P u u' ∧ r.length = us.length ∧ ∀ (j : Nat) x, us[j]? = some x → ∃ x', r[j]? = some x' ∧ P x x' := by
  cases us' with
  | nil => simp at hl
  | cons u' r =>
    obtain ⟨x', h1, h2⟩ := h 0 u rfl
    cases h1
    exact ⟨u', r, rfl, h2, by simpa using hl, fun j x hj => h (j + 1) x hj⟩

theorem byStep (W : W8 g w w') {l : List Int} {v : Value} (h : Rel A w (.sl 1 (cN .u8) l) v) : ∃ l' : List Int, l'.length = l.length ∧ Rel A w' (.sl 1 (cN .u8) l') v :=
  slStep W h fun x us us' h1 h2 h3 => by
    obtain ⟨u, us, rfl, e1, e2⟩ := h1.head
    obtain rfl : us = [] := List.eq_nil_of_length_eq_zero (by simpa using e2.1)
    obtain rfl := e1.litEq
    obtain ⟨u', r, rfl, q1, q2, _⟩ := cells_head h2 h3
    obtain rfl : r = [] := List.eq_nil_of_length_eq_zero q2
    rcases q1 with rfl | ⟨z, z', _, rfl⟩
    · exact ⟨x, rfl, RelL.cons (.lit _) RelL.nil⟩
    · exact ⟨z', rfl, RelL.cons (.lit _) RelL.nil⟩

theorem sl_cell {α : Type} [Inhabited α] {sz : Nat} {c : α → List AV} {l : List α} {v u' : Value} (h : Rel A w (.sl sz c l) v) (hu : U8 v u') : u' = v := hu.lit fun z e => by
  obtain ⟨p, cap, u, hv, _⟩ := h.slInv
  rw [hv] at e; cases e

theorem bysStep (W : W8 g w w') {l : List (List Int)} {v : Value} (h : Rel A w (.sl 1 (cL 1 (cN .u8)) l) v) : ∃ l' : List (List Int), l'.length = l.length ∧ Rel A w' (.sl 1 (cL 1 (cN .u8)) l') v :=
  slStep W h fun x us us' h1 h2 h3 => by
    obtain ⟨u, us, rfl, e1, e2⟩ := h1.head
    obtain rfl : us = [] := List.eq_nil_of_length_eq_zero (by simpa using e2.1)
    obtain ⟨u', r, rfl, q1, q2, _⟩ := cells_head h2 h3
    obtain rfl : r = [] := List.eq_nil_of_length_eq_zero q2
    obtain rfl := sl_cell e1 q1
    obtain ⟨l', _, h4⟩ := byStep W e1
    exact ⟨l', rfl, RelL.cons h4 RelL.nil⟩

theorem wrStep (W : W8 g w w') {x : Write} {us us' : List Value} (h1 : RelL A w (Write.cells x) us) (h2 : us'.length = us.length) (h3 : ∀ (j : Nat) u, us[j]? = some u → ∃ u', us'[j]? = some u' ∧ U8 u u') : ∃ x', (Write.cells x').length = (Write.cells x).length ∧ RelL A w' (Write.cells x') us' := by
  obtain ⟨u, us, rfl, e1, e2⟩ := RelL.head h1
  obtain ⟨v, us, rfl, e3, e4⟩ := e2.head
  obtain rfl : us = [] := List.eq_nil_of_length_eq_zero (by simpa using e4.1)
  obtain rfl := e1.litEq
  obtain ⟨u', r, rfl, q1, q2, q3⟩ := cells_head h2 h3
  obtain ⟨v', r, rfl, q4, q5, _⟩ := cells_head q2 q3
  obtain rfl : r = [] := List.eq_nil_of_length_eq_zero q5
  obtain rfl := q1.lit (fun z e => by cases e)
  obtain rfl := sl_cell e3 q4
  obtain ⟨l', _, h4⟩ := byStep W e3
  exact ⟨⟨x.fAt, l'⟩, rfl, RelL.cons (.lit _) (RelL.cons h4 RelL.nil)⟩

theorem wrsStep (W : W8 g w w') {l : List Write} {v : Value} (h : Rel A w (.sl 2 Write.cells l) v) : ∃ l' : List Write, l'.length = l.length ∧ Rel A w' (.sl 2 Write.cells l') v :=
  slStep W h fun _ _ _ h1 h2 h3 => wrStep W h1 h2 h3

theorem dkStep (W : W8 g w w') {x : Disk} {us us' : List Value} (h1 : RelL A w (Disk.cells x) us) (h2 : us'.length = us.length) (h3 : ∀ (j : Nat) u, us[j]? = some u → ∃ u', us'[j]? = some u' ∧ U8 u u') : ∃ x', (Disk.cells x').length = (Disk.cells x).length ∧ RelL A w' (Disk.cells x') us' := by
  obtain ⟨u, us, rfl, e1, h1⟩ := RelL.head h1
  obtain ⟨v, us, rfl, e2, h1⟩ := h1.head
  obtain ⟨n, us, rfl, e3, h1⟩ := h1.head
  obtain ⟨b, us, rfl, e4, h1⟩ := h1.head
  obtain rfl : us = [] := List.eq_nil_of_length_eq_zero (by simpa using h1.1)
  obtain rfl := e3.litEq
  obtain rfl := e4.litEq
  obtain ⟨u', r, rfl, q1, h2, h3⟩ := cells_head h2 h3
  obtain ⟨v', r, rfl, q2, h2, h3⟩ := cells_head h2 h3
  obtain ⟨n', r, rfl, q3, h2, h3⟩ := cells_head h2 h3
  obtain ⟨b', r, rfl, q4, h2, h3⟩ := cells_head h2 h3
  obtain rfl : r = [] := List.eq_nil_of_length_eq_zero h2
  obtain rfl := sl_cell e1 q1
  obtain rfl := sl_cell e2 q2
  obtain rfl := q3.lit (fun z e => by cases e)
  obtain rfl := q4.lit (fun z e => by cases e)
  obtain ⟨l1, _, h4⟩ := bysStep W e1
  obtain ⟨l2, _, h5⟩ := wrsStep W e2
  exact ⟨⟨l1, l2, x.fLeft, x.fDown⟩, rfl, RelL.cons h4 (RelL.cons h5 (RelL.cons (.lit _) (RelL.cons (.lit _) RelL.nil)))⟩

theorem dksStep (W : W8 g w w') {l : List Disk} {v : Value} (h : Rel A w (.sl 4 Disk.cells l) v) : ∃ l' : List Disk, l'.length = l.length ∧ Rel A w' (.sl 4 Disk.cells l') v :=
  slStep W h fun _ _ _ h1 h2 h3 => dkStep W h1 h2 h3
end

/-- what slots and cells hold where bytes are written -/
inductive Kd
  | lit (v : Value)
  | byt (l : List Int)
  | bys (l : List (List Int))
  | wrs (l : List Write)
  | dks (l : List Disk)
def Kd.av : Kd → AV
  | .lit v => .lit v
  | .byt l => .sl 1 (cN .u8) l
  | .bys l => .sl 1 (cL 1 (cN .u8)) l
  | .wrs l => .sl 2 Write.cells l
  | .dks l => .sl 4 Disk.cells l
def Kd.same : Kd → Kd → Prop
  | .lit v, k => k = .lit v
  | .byt l, k => ∃ l', k = .byt l' ∧ l'.length = l.length
  | .bys l, k => ∃ l', k = .bys l' ∧ l'.length = l.length
  | .wrs l, k => ∃ l', k = .wrs l' ∧ l'.length = l.length
  | .dks l, k => ∃ l', k = .dks l' ∧ l'.length = l.length
theorem Kd.step {A : Nat → Prop} {w w' : World} {g : Nat} (W : W8 g w w') {k : Kd} {v : Value} (h : Rel A w k.av v) : ∃ k', k.same k' ∧ Rel A w' k'.av v := by
  cases k with
  | lit u => obtain rfl := Rel.litEq h; exact ⟨.lit v, rfl, .lit _⟩
  | byt l => obtain ⟨l', h1, h2⟩ := byStep W h; exact ⟨.byt l', ⟨l', rfl, h1⟩, h2⟩
  | bys l => obtain ⟨l', h1, h2⟩ := bysStep W h; exact ⟨.bys l', ⟨l', rfl, h1⟩, h2⟩
  | wrs l => obtain ⟨l', h1, h2⟩ := wrsStep W h; exact ⟨.wrs l', ⟨l', rfl, h1⟩, h2⟩
  | dks l => obtain ⟨l', h1, h2⟩ := dksStep W h; exact ⟨.dks l', ⟨l', rfl, h1⟩, h2⟩

def kenv (ks : List (Nat × Kd)) : Env := ks.map fun p => (p.1, p.2.av)
def sameE : List (Nat × Kd) → List (Nat × Kd) → Prop
  | [], r => r = []
  | (t, k) :: ks, r => ∃ k' r', r = (t, k') :: r' ∧ k.same k' ∧ sameE ks r'
def sameL : List Kd → List Kd → Prop
  | [], r => r = []
  | k :: ks, r => ∃ k' r', r = k' :: r' ∧ k.same k' ∧ sameL ks r'
def kres (bs : List (Nat × Nat × List Kd)) : List Res := bs.map fun q => .box q.1 q.2.1 (q.2.2.map Kd.av)
def sameB : List (Nat × Nat × List Kd) → List (Nat × Nat × List Kd) → Prop
  | [], r => r = []
  | (b, T, ks) :: bs, r => ∃ ks' r', r = (b, T, ks') :: r' ∧ sameL ks ks' ∧ sameB bs r'

section
variable {A : Nat → Prop} {w w' : World} {g : Nat}
theorem sameL.step (W : W8 g w w') : ∀ {ks : List Kd} {us : List Value}, RelL A w (ks.map Kd.av) us → ∃ ks', sameL ks ks' ∧ RelL A w' (ks'.map Kd.av) us
  | [], us, h => ⟨[], rfl, by
    obtain rfl : us = [] := List.eq_nil_of_length_eq_zero (by simpa using h.1)
    exact RelL.nil⟩
  | k :: ks, us, h => by
    obtain ⟨u, us, rfl, h1, h2⟩ := RelL.head h
    obtain ⟨k', h3, h4⟩ := Kd.step W h1
    obtain ⟨r, h5, h6⟩ := sameL.step W h2
    exact ⟨k' :: r, ⟨k', r, rfl, h3, h5⟩, RelL.cons h4 h6⟩

theorem kenv_fst : ∀ (ks : List (Nat × Kd)) (t : Nat) (av : AV), Env.get (kenv ks) t = some av → t ∈ ks.map Prod.fst
  | [], t, av, h => by cases h
  | (s, k) :: ks, t, av, h => by
    by_cases hst : s = t
    · subst hst; simp
    · have h' : Env.get (kenv ks) t = some av := by rw [← h]; exact (Env.get_miss _ _ hst).symm
      exact List.mem_cons_of_mem _ (kenv_fst ks t av h')

theorem sameE.step (W : W8 g w w') {tmps : Array Value} : ∀ {ks : List (Nat × Kd)}, (ks.map Prod.fst).Nodup → Slots A w (kenv ks) tmps → ∃ ks', sameE ks ks' ∧ Slots A w' (kenv ks') tmps
  | [], _, _ => ⟨[], rfl, fun t av h => by cases h⟩
  | (s, k) :: ks, hn, h => by
    rw [List.map_cons, List.nodup_cons] at hn
    obtain ⟨v, h1, h2⟩ := h s k.av (Env.get_hit _ _ _)
    obtain ⟨k', h3, h4⟩ := Kd.step W h2
    obtain ⟨r, h5, h6⟩ := sameE.step W (ks := ks) hn.2 (fun t av ht => h t av (by
      have hst : s ≠ t := fun e => hn.1 (e ▸ kenv_fst ks t av ht)
      rw [← ht]; exact Env.get_miss _ _ hst))
    refine ⟨(s, k') :: r, ⟨k', r, rfl, h3, h5⟩, fun t av ht => ?_⟩
    by_cases hst : s = t
    · subst hst
      have : Env.get (kenv ((s, k') :: r)) s = some k'.av := Env.get_hit _ _ _
      rw [this] at ht; cases ht
      exact ⟨v, h1, h4⟩
    · exact h6 t av (by rw [← ht]; exact (Env.get_miss _ _ hst).symm)

theorem sameB.step (W : W8 g w w') : ∀ {bs : List (Nat × Nat × List Kd)}, (∀ q ∈ bs, q.1 ≠ g) → (∀ r ∈ kres bs, r.ok A w) → ∃ bs', sameB bs bs' ∧ bs'.map Prod.fst = bs.map Prod.fst ∧ ∀ r ∈ kres bs', r.ok A w'
  | [], _, _ => ⟨[], rfl, rfl, fun r hr => by cases hr⟩
  | (b, T, ks) :: bs, hg, h => by
    obtain ⟨us, h1, h2⟩ := h _ (List.mem_cons_self ..)
    obtain ⟨ks', h3, h4⟩ := sameL.step W h2
    obtain ⟨r, h5, h7, h6⟩ := sameB.step W (bs := bs) (fun q hq => hg q (List.mem_cons_of_mem _ hq)) (fun r hr => h r (List.mem_cons_of_mem _ hr))
    refine ⟨(b, T, ks') :: r, ⟨ks', r, rfl, h3, h5⟩, by simp [h7], fun x hx => ?_⟩
    rcases List.mem_cons.1 hx with rfl | hx
    · exact ⟨us, (W.kp.block b h1.lt (by have := hg _ (List.mem_cons_self ..); simpa using this)).trans h1, h4⟩
    · exact h6 x hx

theorem blks_kres (bs : List (Nat × Nat × List Kd)) : blks (kres bs) = bs.map Prod.fst := by
  induction bs with
  | nil => rfl
  | cons q bs ih => show blks (.box q.1 q.2.1 (q.2.2.map Kd.av) :: kres bs) = _; rw [blks_cons, ih]; rfl
end

theorem Sim.u8 {C : Cx} {n : Nat} {ks : List (Nat × Kd)} {bs : List (Nat × Nat × List Kd)} {a : Act} {w w' : World} {g : Nat} (h : Sim C n (kenv ks) (kres bs) a w) (W : W8 g w w') (hg : C.w0.heap.size ≤ g) (hn : (ks.map Prod.fst).Nodup) (hgb : g ∉ blks (kres bs)) (hgc : ∃ cs T, w.heap[g]? = some (.cells cs T (0, 0))) :
    ∃ ks' bs', sameE ks ks' ∧ sameB bs bs' ∧ Sim C n (kenv ks') (kres bs') a w' := by
  obtain ⟨ks', h1, h2⟩ := sameE.step W hn h.slots
  obtain ⟨bs', h3, h5, h4⟩ := sameB.step W (fun q hq e => hgb (by rw [blks_kres]; exact e ▸ List.mem_map_of_mem hq)) h.good.res
  have hb : blks (kres bs') = blks (kres bs) := by rw [blks_kres, blks_kres, h5]
  have hal : al C (kres bs') = al C (kres bs) := funext fun b => by simp only [al, hb]
  refine ⟨ks', bs', h1, h3, ?_, h.size, by rw [hal]; exact h2, ⟨h.good.kept.trans W.kp (fun b hb hl => by rw [List.mem_singleton] at hb; omega), by rw [hal]; exact h4, by rw [hb]; exact h.good.dis, by rw [hb]; exact h.good.own⟩⟩
  obtain ⟨Ds, q1, q2, q3⟩ := h.defers
  refine ⟨Ds, q1, q2, fun D hD => ?_⟩
  obtain ⟨r1, r2, r3, r4⟩ := q3 D hD
  refine ⟨by rw [W.size]; exact r1, r2, by rw [hb]; exact r3, ?_⟩
  rw [W.kp.block D r1 (fun e => ?_)]
  · exact r4
  · rw [List.mem_singleton] at e
    subst e
    obtain ⟨cs, T, hc⟩ := hgc
    rw [hc] at r4; cases r4

/-- A byte is written in a region. -/
theorem RW.u8 {P : Program} {C : Cx} {n : Nat} {ops : Array Oper} {K : Env → List Res → Prop} {rest : List Oper} {E : Env} {o : Oper} {T : TypeId} {x y : Operand} {z z' : Int} (ks : List (Nat × Kd)) (bs : List (Nat × Nat × List Kd)) (hA : ∀ b, ¬ C.A0 b) (hO : C.O0 = []) (h0 : 0 < C.w0.heap.size)
    (hw : Wants E o ops = some true) (hd : o.dst = none) (ho : o.op = .store T x y) (hx : E.ev x = some (.fp [.n .u8 z])) (hy : E.ev y = some (.n .u8 z')) (hz : (P.info? T).map (·.size) = some 1) (hn : (ks.map Prod.fst).Nodup) (hs : Sub (kenv ks) E)
    (next : ∀ ks' bs', sameE ks ks' → sameB bs bs' → RW P C n ops K rest (kenv ks') (kres bs')) : RW P C n ops K (o :: rest) E (kres bs) := by
  intro a w ha
  refine wpList_step fun K' hK => ?_
  rw [if_pos (Wants.spec ha.slots hw)]
  unfold Oper.wp
  obtain ⟨g, of, us, h1, hb, hAF, hc, hr⟩ := (ha.slots.ops _ _ hx).fpInv
  have hy' := (ha.slots.ops _ _ hy).litEq
  obtain ⟨u, us, rfl, e1, e2⟩ := hr.head
  obtain rfl := e1.litEq
  have hc0 := hc 0 _ rfl
  have hal : ∀ b, al C (kres bs) b → C.w0.heap.size ≤ b := fun b hb => by
    rcases hb.1 with h | h | h
    · exact (hA b h).elim
    · rw [hO] at h; cases h
    · exact h
  have huf : Uf w g := hAF.2.elim (fun h => by have := hal 0 h; omega) id
  obtain ⟨cur, T0, hB⟩ := huf
  have hcell : cur[of]? = some (.int .u8 z) := by
    have := hc0
    simp only [World.cell?, hB, Nat.add_zero] at this
    simpa using this
  have hlt : of < cur.size := (Array.getElem?_eq_some_iff.1 hcell).1
  have hrun := Ab.run_store (P := P) (T := T) (of := of) (a := a.eval y) (sz := 1) hz hB (by rw [hy']; rfl) (by rw [hy']; intro u hu; simp [Value.cells] at hu; subst hu; rfl) (by omega)
  rw [hy'] at hrun
  have hrun' : (execOp a.eval o).run P w = .ok .skip (w.setRow g (cur.toList.take of ++ [Value.int .u8 z'] ++ cur.toList.drop (of + 1)).toArray) := by
    have hrun2 : (Instr.storeAt T (.pointer (some ⟨g, of, none⟩)) (.int .u8 z')).run P w = .ok () (w.setRow g (cur.toList.take of ++ [Value.int .u8 z'] ++ cur.toList.drop (of + 1)).toArray) := hrun
    generalize w.setRow g (cur.toList.take of ++ [Value.int .u8 z'] ++ cur.toList.drop (of + 1)).toArray = W1 at hrun2 ⊢
    simp [execOp, ho, h1, hy', hrun2]
  rw [hrun']
  show K' (a.put o.dst undef) _
  rw [hd]
  obtain ⟨ks', bs', q1, q2, q3⟩ := Sim.u8 (ha.sub hs) (W8.of (z' := z') hB hcell) (hal g hAF.1) hn hAF.1.2 ⟨_, _, hB⟩
  exact hK _ _ (next ks' bs' q1 q2 _ _ q3)
end Go.Proofs.Ytfipaakafcjjhaa
