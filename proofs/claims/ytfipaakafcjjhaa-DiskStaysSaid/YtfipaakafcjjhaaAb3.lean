/- The operations that change memory. Program-independent. -/
import Derived.Test.YtfipaakafcjjhaaAb2
import Derived.Great.BuildSlice
import Derived.Laws.MakeOwn
set_option linter.unusedSectionVars false
set_option linter.unusedVariables false
set_option linter.unusedSimpArgs false
namespace Go.Ab
open Go Go.RowKit

theorem blks_cons (r : Res) (σ : List Res) : blks (r :: σ) = r.blk.toList ++ blks σ := by
  unfold blks
  rw [List.filterMap_cons]
  cases r.blk <;> simp
theorem blks_app (σ τ : List Res) : blks (σ ++ τ) = blks σ ++ blks τ := by simp [blks]

theorem tr_new {C : Cx} {σ : List Res} {w w' : World} {r : Res} (h : Good C σ w) (hk : Kp [] w w') (hr : r.blk = none ∨ r.blk = some w.heap.size) (hok : r.ok (al C (r :: σ)) w') : Tr C [] σ w (r :: σ) w' := by
  have hlt : ∀ b ∈ blks σ, b < w.heap.size := fun b hb => by
    obtain ⟨s, h1, h2⟩ := mem_blks.1 hb
    exact (h.res s h1).lt h2
  have hal : ∀ b, b < w.heap.size → al C σ b → al C (r :: σ) b := fun b hb hA => ⟨hA.1, fun hx => by
    rw [blks_cons] at hx
    rcases List.mem_append.1 hx with hx | hx
    · rcases hr with hr | hr <;> rw [hr] at hx <;> simp at hx
      omega
    · exact hA.2 hx⟩
  have hsame : ∀ b, b < w.heap.size → w'.heap[b]? = w.heap[b]? := fun b hb => hk.block b hb (by simp)
  refine ⟨⟨h.kept.trans hk (by simp), fun s hs => ?_, ?_, fun b hb => ?_⟩, hk, fun b hb hA => ⟨hal b hb hA, by simp⟩⟩
  · rcases List.mem_cons.1 hs with rfl | hs
    · exact hok
    · exact (h.res s hs).mono (fun b hb hA => ⟨hal b hb hA, hsame b hb⟩) (fun b hb => hsame b ((h.res s hs).lt hb))
  · rw [blks_cons]
    rcases hr with hr | hr
    · rw [hr]; simpa using h.dis
    · rw [hr]
      simp only [Option.toList_some, List.cons_append, List.nil_append, List.nodup_cons]
      exact ⟨fun hx => by have := hlt _ hx; omega, h.dis⟩
  · rw [blks_cons] at hb
    rcases List.mem_append.1 hb with hx | hx
    · rcases hr with hr | hr <;> rw [hr] at hx <;> simp at hx
      exact .inr (by rw [hx]; exact h.kept.size)
    · exact h.own b hx

theorem set_split {σ : List Res} {i : Nat} {r r' : Res} (h : σ[i]? = some r) : σ = σ.take i ++ r :: σ.drop (i + 1) ∧ σ.set i r' = σ.take i ++ r' :: σ.drop (i + 1) := by
  obtain ⟨hi, hr⟩ := List.getElem?_eq_some_iff.1 h
  refine ⟨?_, List.set_eq_take_append_cons_drop .. |>.trans (by rw [if_pos hi])⟩
  rw [← hr, ← List.drop_eq_getElem_cons hi, List.take_append_drop]

theorem blks_set {σ : List Res} {i : Nat} {r r' : Res} (h : σ[i]? = some r) (hb : r'.blk = r.blk) : blks (σ.set i r') = blks σ := by
  obtain ⟨q1, q2⟩ := set_split (r' := r') h
  have e : blks σ = blks (σ.take i ++ r :: σ.drop (i + 1)) := congrArg blks q1
  rw [q2, e]
  simp [blks_app, blks_cons, hb]

/-- Resource i is another one now: in the same block, in a new one, or in none. -/
theorem tr_upd {C : Cx} {σ : List Res} {w w' : World} {r r' : Res} {i : Nat} (h : Good C σ w) (hi : σ[i]? = some r) (hk : Kp r.blk.toList w w') (hr : r'.blk = r.blk ∨ r'.blk = some w.heap.size) (hok : r'.ok (al C (σ.set i r')) w') : Tr C r.blk.toList σ w (σ.set i r') w' := by
  obtain ⟨h1, h2⟩ := set_split (r' := r') hi
  generalize σ.take i = σ1 at h1 h2
  generalize σ.drop (i + 1) = σ2 at h1 h2
  rw [h2] at hok ⊢
  clear h2 hi
  subst h1
  have hlt : ∀ b ∈ blks (σ1 ++ r :: σ2), b < w.heap.size := fun b hb => by
    obtain ⟨s, h1, h2⟩ := mem_blks.1 hb
    exact (h.res s h1).lt h2
  have hb0 : blks (σ1 ++ r :: σ2) = blks σ1 ++ (r.blk.toList ++ blks σ2) := by rw [blks_app, blks_cons]
  have hb1 : blks (σ1 ++ r' :: σ2) = blks σ1 ++ (r'.blk.toList ++ blks σ2) := by rw [blks_app, blks_cons]
  have hmem : ∀ b, b ∈ blks (σ1 ++ r' :: σ2) → b ∈ blks (σ1 ++ r :: σ2) ∨ b = w.heap.size := fun b hb => by
    rw [hb1] at hb
    rw [hb0]
    simp only [List.mem_append] at hb ⊢
    rcases hb with hb | hb | hb
    · exact .inl (.inl hb)
    · rcases hr with hr | hr <;> rw [hr] at hb
      · exact .inl (.inr (.inl hb))
      · simp at hb; exact .inr hb
    · exact .inl (.inr (.inr hb))
  have hal : ∀ b, b < w.heap.size → al C (σ1 ++ r :: σ2) b → al C (σ1 ++ r' :: σ2) b := fun b hb hA => ⟨hA.1, fun hx => by
    rcases hmem b hx with h | h
    · exact hA.2 h
    · omega⟩
  have hnr : ∀ b, al C (σ1 ++ r :: σ2) b → b ∉ r.blk.toList := fun b hA hx => hA.2 (by rw [hb0]; simp [List.mem_append, hx])
  have hother : ∀ s, s ∈ σ1 ∨ s ∈ σ2 → ∀ b, s.blk = some b → b ∉ r.blk.toList := fun s hs b hb hx => by
    have hd := h.dis
    rw [hb0] at hd
    rcases hs with hs | hs
    · exact (List.nodup_append.1 hd).2.2 b (mem_blks.2 ⟨s, hs, hb⟩) b (List.mem_append_left _ hx) rfl
    · exact (List.nodup_append.1 (List.nodup_append.1 hd).2.1).2.2 b hx b (mem_blks.2 ⟨s, hs, hb⟩) rfl
  refine ⟨⟨h.kept.trans hk (fun b hb hlt0 => ?_), fun s hs => ?_, ?_, fun b hb => ?_⟩, hk, fun b hb hA => ⟨hal b hb hA, hnr b hA⟩⟩
  · have : b ∈ blks (σ1 ++ r :: σ2) := by rw [hb0]; simp [List.mem_append, hb]
    rcases h.own b this with h | h
    · exact h
    · omega
  · have hs' : s = r' ∨ s ∈ σ1 ∨ s ∈ σ2 := by
      simp only [List.mem_append, List.mem_cons] at hs
      rcases hs with h | h | h
      · exact .inr (.inl h)
      · exact .inl h
      · exact .inr (.inr h)
    rcases hs' with rfl | hs'
    · exact hok
    · have hm : s ∈ σ1 ++ r :: σ2 := by rcases hs' with h | h <;> simp [h]
      exact (h.res s hm).mono (fun b hb hA => ⟨hal b hb hA, hk.block b hb (hnr b hA)⟩) (fun b hb => hk.block b ((h.res s hm).lt hb) (hother s hs' b hb))
  · have hd := h.dis
    rcases hr with hr | hr
    · rw [hb1, hr, ← hb0]; exact hd
    · rw [hb1, hr]
      rw [hb0] at hd
      have hn1 : w.heap.size ∉ blks σ1 := fun hx => by have := hlt w.heap.size (by rw [hb0]; simp [List.mem_append, hx]); omega
      have hn2 : w.heap.size ∉ blks σ2 := fun hx => by have := hlt w.heap.size (by rw [hb0]; simp [List.mem_append, hx]); omega
      obtain ⟨d1, d2, d3⟩ := List.nodup_append.1 hd
      obtain ⟨d4, d5, d6⟩ := List.nodup_append.1 d2
      refine List.nodup_append.2 ⟨d1, ?_, fun a ha b hb hab => ?_⟩
      · simp only [Option.toList_some, List.cons_append, List.nil_append, List.nodup_cons]
        exact ⟨hn2, d5⟩
      · subst hab
        simp only [Option.toList_some, List.cons_append, List.nil_append, List.mem_cons] at hb
        rcases hb with rfl | hb
        · exact hn1 ha
        · exact d3 a ha a (List.mem_append_right _ hb) rfl
  · rcases hmem b hb with h1 | h1
    · exact h.own b h1
    · exact .inr (by rw [h1]; exact h.kept.size)

theorem al_new {C : Cx} {σ : List Res} {w : World} {r : Res} (h : r.blk = none ∨ r.blk = some w.heap.size) : ∀ b, b < w.heap.size → al C σ b → al C (r :: σ) b := fun b hb hA => ⟨hA.1, fun hx => by
  rw [blks_cons] at hx
  rcases List.mem_append.1 hx with hx | hx
  · rcases h with h | h <;> rw [h] at hx <;> simp at hx
    omega
  · exact hA.2 hx⟩

theorem kp_alloc (w : World) (x : Obj) : Kp [] w (w.alloc x) := ⟨rfl, rfl, rfl, by simp, fun k hk _ => heap_alloc_old w x hk⟩
theorem kp_alloc' (w : World) (x : Obj) : Kp [] w (w.drew.alloc x) := ⟨rfl, rfl, rfl, by simp, fun k hk _ => heap_alloc_old w.drew x hk⟩

theorem relL_new {C : Cx} {σ : List Res} {w w' : World} {r : Res} {as : List AV} {us : List Value} (hr : RelL (al C σ) w as us) (h : r.blk = none ∨ r.blk = some w.heap.size) (hk : Kp [] w w') : RelL (al C (r :: σ)) w' as us :=
  hr.mono fun b hb hA => ⟨al_new h b hb hA, hk.block b hb (by simp)⟩

/-- the cells of what an operand holds -/
def acells : AV → List AV
  | .agg cs => cs
  | a => [a]
def acell1 : AV → Bool
  | .lit v => v.oneCell'
  | .tup _ => false
  | .agg _ => false
  | _ => true
def aplain : AV → Bool
  | .agg cs => cs.all acell1
  | a => acell1 a

theorem oneCell_cells {v : Value} (h : v.oneCell' = true) : v.cells = #[v] := by cases v <;> first | rfl | cases h
theorem Rel.one {A : Nat → Prop} {w : World} {a : AV} {v : Value} (h : Rel A w a v) (h1 : acell1 a = true) : v.oneCell' = true := by
  cases h with
  | lit v => exact h1
  | agg => cases h1
  | tup => cases h1
  | _ => rfl
theorem RelL.one {A : Nat → Prop} {w : World} {as : List AV} {us : List Value} (h : RelL A w as us) (h1 : as.all acell1 = true) : ∀ v ∈ us, v.oneCell' = true := fun v hv => by
  obtain ⟨j, hj, rfl⟩ := List.getElem_of_mem hv
  have hlt : j < as.length := by rw [← h.1]; exact hj
  exact (h.2 j as[j] us[j] (List.getElem?_eq_getElem hlt) (List.getElem?_eq_getElem hj)).one (List.all_eq_true.1 h1 _ (List.getElem_mem hlt))
theorem Rel.cells {A : Nat → Prop} {w : World} {a : AV} {v : Value} (h : Rel A w a v) (h1 : aplain a = true) : RelL A w (acells a) v.cells.toList ∧ ∀ u ∈ v.cells.toList, u.oneCell' = true := by
  by_cases ha : ∃ cs, a = .agg cs
  · obtain ⟨cs, rfl⟩ := ha
    obtain ⟨us, rfl, h2⟩ := h.aggInv
    exact ⟨by simpa [Value.cells, acells] using h2, by simpa [Value.cells] using h2.one h1⟩
  · have hc : acell1 a = true := by
      cases a <;> first | exact h1 | (exact absurd ⟨_, rfl⟩ ha)
    have hac : acells a = [a] := by
      cases a <;> first | rfl | (exact absurd ⟨_, rfl⟩ ha)
    have h2 := h.one hc
    rw [hac, oneCell_cells h2]
    refine ⟨⟨rfl, fun j x y hx hy => ?_⟩, fun u hu => by simp at hu; rw [hu]; exact h2⟩
    cases j with
    | zero => simp at hx hy; subst hx hy; exact h
    | succ j => simp at hx

/-- what can be stored -/
def Pw (σ : List Res) (a : AV) : Prop := ∀ (A : Nat → Prop) (w : World) (v : Value), Hd A σ w → Rel A w a v → RelL A w (acells a) v.cells.toList ∧ ∀ u ∈ v.cells.toList, u.oneCell' = true
def PwL (σ : List Res) (as : List AV) : Prop := ∀ (A : Nat → Prop) (w : World) (us : List Value), Hd A σ w → RelL A w as us → ∀ u ∈ us, u.oneCell' = true
theorem Pw.p {σ : List Res} {a : AV} (h : aplain a = true) : Pw σ a := fun _ _ _ _ hr => hr.cells h
theorem own_one {σ : List Res} {A : Nat → Prop} {w : World} {v : Value} {T : TypeId} {sz : Nat} {α : Type} [Inhabited α] {c : α → List AV} {l : List α} (i : Nat) (hσ : σ[i]? = some (.row v T sz c l)) (hd : Hd A σ w) : v.oneCell' = true := by
  obtain ⟨us, h1, _⟩ := hd.1 _ (List.mem_of_getElem? hσ)
  obtain ⟨p, cap, rfl, _⟩ := h1.len
  rfl
theorem Pw.own {σ : List Res} {v : Value} {T : TypeId} {sz : Nat} {α : Type} [Inhabited α] {c : α → List AV} {l : List α} (i : Nat) (hσ : σ[i]? = some (.row v T sz c l)) : Pw σ (.lit v) := fun A w u hd hr => by
  have h1 := own_one i hσ hd
  rw [hr.litEq, oneCell_cells h1]
  exact ⟨RelL.cons (.lit v) RelL.nil, fun x hx => by simp at hx; rw [hx]; exact h1⟩
theorem PwL.nil {σ : List Res} : PwL σ [] := fun A w us _ hr u hu => by
  have : us = [] := List.eq_nil_of_length_eq_zero (by simpa using hr.1)
  subst this; simp at hu
theorem PwL.p {σ : List Res} {a : AV} {as : List AV} (h : acell1 a = true) (hs : PwL σ as) : PwL σ (a :: as) := fun A w us hd hr u hu => by
  obtain ⟨v, us', rfl, h1, h2⟩ := hr.head
  rcases List.mem_cons.1 hu with rfl | hu
  · exact h1.one h
  · exact hs A w us' hd h2 u hu
theorem PwL.own {σ : List Res} {v : Value} {T : TypeId} {sz : Nat} {α : Type} [Inhabited α] {c : α → List AV} {l : List α} {as : List AV} (i : Nat) (hσ : σ[i]? = some (.row v T sz c l)) (hs : PwL σ as) : PwL σ (.lit v :: as) := fun A w us hd hr u hu => by
  obtain ⟨v', us', rfl, h1, h2⟩ := hr.head
  rcases List.mem_cons.1 hu with rfl | hu
  · rw [h1.litEq]; exact own_one i hσ hd
  · exact hs A w us' hd h2 u hu
theorem Pw.agg {σ : List Res} {as : List AV} (h : PwL σ as) : Pw σ (.agg as) := fun A w v hd hr => by
  obtain ⟨us, rfl, h2⟩ := hr.aggInv
  exact ⟨by simpa [Value.cells, acells] using h2, by simpa [Value.cells] using h A w us hd h2⟩

section
variable {P : Program} {E : Env} {σ : List Res} {o : Oper} {T T' e : TypeId} {x y z : Operand} {av bv : AV} {v u : Value} {m n : Int} {b : Bool} {k : IntKind} {C : Cx} {X : List Nat}

/-! ### new variables -/

theorem Yv.alloc {zs : List Value} (ho : o.op = .alloc T) (hz : (P.info? T).bind (fun i => i.zero.map (·.cells)) = some zs.toArray) : Yv P E σ o C [] (fun a σ' => ∃ b, a = .lit (.pointer (some ⟨b, 0, none⟩)) ∧ σ' = .box b T (zs.map .lit) :: σ) := fun w ρ hg _ => by
  obtain ⟨i, h1, h2⟩ := Option.bind_eq_some_iff.1 hz
  obtain ⟨zv, h3, h4⟩ := Option.map_eq_some_iff.1 h2
  refine ⟨_, w.alloc (.cells zs.toArray T), _, _, ⟨w.heap.size, rfl, rfl⟩, tr_new hg (kp_alloc w _) (.inr rfl) ⟨zs, heap_alloc_new w _, RelL.lits _⟩, ?_, .lit _⟩
  simp [execOp, ho, Instr.alloc, zeroValue, typeInfo, h1, h3, newVar, newRow, h4]

theorem Yv.box (ho : o.op = .box T x) (hx : E.ev x = some av) (h1 : Pw σ av) : Yv P E σ o C [] (fun a σ' => ∃ b, a = .lit (.pointer (some ⟨b, 0, none⟩)) ∧ σ' = .box b T (acells av) :: σ) := fun w ρ hg hρ => by
  have hr := (h1 _ _ _ hg.hd (hρ _ _ hx)).1
  refine ⟨_, w.alloc (.cells (ρ x).cells T), _, _, ⟨w.heap.size, rfl, rfl⟩, tr_new hg (kp_alloc w _) (.inr rfl) ⟨(ρ x).cells.toList, heap_alloc_new w _, relL_new hr (.inr rfl) (kp_alloc w _)⟩, ?_, .lit _⟩
  simp [execOp, ho, Instr.box, newVar, newRow]

/-! ### stores -/

theorem run_store {w : World} {g of : Nat} {cur : Array Value} {t : TypeId} {a : Value} {sz : Nat} (hs : (P.info? T).map (·.size) = some sz) (hb : Blk w g cur t) (hsz : a.cells.size = sz) (h1 : ∀ u ∈ a.cells.toList, u.oneCell' = true) (hlt : of + sz ≤ cur.size) :
    (Instr.storeAt T (.pointer (some ⟨g, of, none⟩)) a).run P w = .ok () (w.setRow g (cur.toList.take of ++ a.cells.toList ++ cur.toList.drop (of + sz)).toArray) := by
  obtain ⟨j, hj, hj'⟩ := Option.map_eq_some_iff.1 hs
  have := run_storeCells_at P g of t a.cells.toList 0 cur w hb (by rw [Array.length_toList, hsz]; omega) h1
  rw [Array.length_toList, hsz, Nat.add_zero] at this
  simp only [Instr.storeAt, Instr.sureAddr, storeVar, Sem.run_bind, sizeOf, typeInfo]
  simp [hj, hj', hsz, this]

theorem kp_setRow (w : World) (g : Nat) (cs : Array Value) : Kp [g] w (w.setRow g cs) := ⟨rfl, rfl, rfl, by simp, fun k _ hk => setRow_other w g k _ (fun e => hk (by simp [e]))⟩

theorem Yu.storeB {g of sz : Nat} {cs : List AV} {t : TypeId} (i : Nat) (ho : o.op = .store T x y) (hx : E.ev x = some (.lit (.pointer (some ⟨g, of, none⟩)))) (hy : E.ev y = some av) (hσ : σ[i]? = some (.box g t cs)) (hs : (P.info? T).map (·.size) = some sz) (hp : Pw σ av) (hsz : (acells av).length = sz) (hlt : of + sz ≤ cs.length) :
    Yu P E σ o C [g] (σ.set i (.box g t (cs.take of ++ acells av ++ cs.drop (of + sz)))) := fun w ρ hg hρ => by
  obtain ⟨us, h1, h2⟩ := hg.res _ (List.mem_of_getElem? hσ)
  obtain ⟨h3, h4⟩ := hp _ _ _ hg.hd (hρ _ _ hy)
  have hx' := (hρ _ _ hx).litEq
  have h5 : (ρ y).cells.size = sz := by rw [← Array.length_toList, h3.1, hsz]
  have hrun := run_store (P := P) (T := T) (of := of) (a := ρ y) hs h1 h5 h4 (by simp; rw [h2.1]; exact hlt)
  refine ⟨w.setRow g (us.take of ++ (ρ y).cells.toList ++ us.drop (of + sz)).toArray, tr_upd hg hσ (kp_setRow w g _) (.inl rfl) ⟨us.take of ++ (ρ y).cells.toList ++ us.drop (of + sz), ?_, ?_⟩, ?_⟩
  · have := setRow_heap w g us.toArray (us.take of ++ (ρ y).cells.toList ++ us.drop (of + sz)).toArray t (0, 0) h1
    exact this
  · have hal : ∀ b, b < w.heap.size → al C σ b → al C (σ.set i (.box g t (cs.take of ++ acells av ++ cs.drop (of + sz)))) b ∧ (w.setRow g (us.take of ++ (ρ y).cells.toList ++ us.drop (of + sz)).toArray).heap[b]? = w.heap[b]? := fun b hb hA => by
      have hbk := blks_set (r' := Res.box g t (cs.take of ++ acells av ++ cs.drop (of + sz))) hσ rfl
      refine ⟨⟨hA.1, by rw [hbk]; exact hA.2⟩, setRow_other w g b _ (fun e => hA.2 (mem_blks.2 ⟨_, List.mem_of_getElem? hσ, by rw [← e]; rfl⟩))⟩
    exact (((h2.take of).app h3).app (h2.drop (of + sz))).mono hal
  · simp [execOp, ho, hx', hrun]

theorem take_drop_app {α : Type} (a b c : List α) (i n : Nat) (hi : i + n ≤ a.length) : ((a ++ b ++ c).drop i).take n = (a.drop i).take n := by
  rw [List.append_assoc, List.drop_append_of_le_length (by omega), List.take_append_of_le_length (by rw [List.length_drop]; omega)]

theorem Yu.storeR {α : Type} [Inhabited α] {kk of sz n m : Nat} {c : α → List AV} {l : List α} {t : TypeId} (i : Nat) (q : α) (ho : o.op = .store T x y) (hx : E.ev x = some (.rp v kk)) (hy : E.ev y = some av) (hσ : σ[i]? = some (.row v t sz c l)) (hs : (P.info? T).map (·.size) = some n) (hp : aplain av = true) (hn : (acells av).length = n)
    (hk : kk = m * sz + of) (hm : m < l.length) (hlt : of + n ≤ sz) (hq : c q = (c l[m]!).take of ++ acells av ++ (c l[m]!).drop (of + n)) :
    Yu P E σ o C (Option.toList (rblk v)) (σ.set i (.row v t sz c (l.set m q))) := fun w ρ hg hρ => by
  obtain ⟨us, h1, h2, h3⟩ := hg.res _ (List.mem_of_getElem? hσ)
  obtain ⟨h4, h5⟩ := (hρ _ _ hy).cells hp
  obtain ⟨g, hgb, hv⟩ := (hρ _ _ hx).rpInv
  obtain ⟨g', cap, cur, hv', hgb', hB, q1, q2, q3, q4⟩ := h1.at (by omega)
  have hgg : g' = g := by rw [hgb'] at hgb; exact Option.some.inj hgb
  subst hgg
  have h6' : (ρ y).cells.toList.length = n := by rw [h4.1, hn]
  have h6 : (ρ y).cells.size = n := by rw [← Array.length_toList, h6']
  have hmz : m * sz + sz ≤ l.length * sz := by rw [← Nat.succ_mul]; exact Nat.mul_le_mul_right _ hm
  have hcz : l.length * sz ≤ (cap + 1) * sz := Nat.mul_le_mul_right _ q1
  have hul := h1.1
  have hrun := run_store (P := P) (T := T) (of := kk) (a := ρ y) hs hB h6 h5 (by rw [q3, hk]; omega)
  have hlen : us.length = l.length * sz := h1.1
  have hmz2 : ∀ j, j < l.length → j * sz + sz ≤ us.length := fun j hj => by rw [hlen, ← Nat.succ_mul]; exact Nat.mul_le_mul_right _ hj
  have hpart : ∀ b, al C (σ.set i (.row v t sz c (l.set m q))) b ↔ al C σ b := fun b => by
    have hbk := blks_set (r' := Res.row v t sz c (l.set m q)) hσ rfl
    unfold al
    rw [hbk]
  have hal : ∀ b, b < w.heap.size → al C σ b → al C (σ.set i (.row v t sz c (l.set m q))) b ∧ (w.setRow g' (cur.toList.take kk ++ (ρ y).cells.toList ++ cur.toList.drop (kk + n)).toArray).heap[b]? = w.heap[b]? := fun b hb hA =>
    ⟨(hpart b).2 hA, setRow_other w g' b _ (fun e => hA.2 (mem_blks.2 ⟨_, List.mem_of_getElem? hσ, by rw [e]; exact hgb⟩))⟩
  refine ⟨w.setRow g' (cur.toList.take kk ++ (ρ y).cells.toList ++ cur.toList.drop (kk + n)).toArray, tr_upd (r := .row v t sz c l) hg hσ (by show Kp (Option.toList (rblk v)) _ _; rw [hgb]; exact kp_setRow w g' _) (.inl rfl) ⟨us.take kk ++ (ρ y).cells.toList ++ us.drop (kk + n), ⟨?_, .inr ⟨g', cap, (cur.toList.take kk ++ (ρ y).cells.toList ++ cur.toList.drop (kk + n)).toArray, ?_, ?_, ?_, q2, ?_, ?_⟩⟩, ?_, ?_⟩, by simp [execOp, ho, hv, hrun]⟩
  · have := hmz2 m hm
    rw [List.length_append, List.length_append, List.length_take, List.length_drop, List.length_set, h6', hlen]
    omega
  · rw [List.length_set]; exact hv'
  · exact setRow_heap w g' cur _ t (0, 0) hB
  · rw [List.length_set]; exact q1
  · have := hmz2 m hm
    rw [List.size_toArray, List.length_append, List.length_append, List.length_take, List.length_drop, h6', Array.length_toList, q3]
    omega
  · have hk' : kk + n ≤ l.length * sz := by omega
    have hc2 : l.length * sz ≤ cur.toList.length := by rw [show cur.toList.length = cur.size from Array.length_toList, q3]; exact hcz
    rw [← q4, List.length_set]
    apply List.ext_getElem?
    intro j
    simp only [List.getElem?_take, List.getElem?_append, List.length_append, List.length_take, List.getElem?_drop, h6', Array.length_toList]
    have hcl : cur.size = (cap + 1) * sz := q3
    by_cases e1 : j < l.length * sz
    · rw [if_pos e1]
      by_cases e2 : j < kk
      · rw [if_pos (by omega), if_pos (by omega), if_pos (by omega), if_pos (by omega), if_pos (by omega), if_pos (by omega)]
        rw [if_pos (by omega)]
      · by_cases e3 : j < kk + n
        · rw [if_pos (by omega), if_neg (by omega), if_pos (by omega), if_neg (by omega)]
          congr 1
          omega
        · rw [if_neg (by omega), if_neg (by omega), if_pos (by omega)]
          congr 1
          omega
    · rw [if_neg e1]
      rw [if_neg (by omega), if_neg (by omega)]
  · intro j hj
    rw [List.length_set] at hj
    by_cases hjm : j = m
    · subst hjm
      rw [getElem!_pos _ j (by rw [List.length_set]; exact hj), List.getElem_set_self, hq]
      have := h2 j hj
      rw [List.length_append, List.length_append, List.length_take, List.length_drop, this, hn]
      omega
    · rw [getElem!_pos _ j (by rw [List.length_set]; exact hj), List.getElem_set_ne (Ne.symm hjm), ← getElem!_pos l j hj]
      exact h2 j hj
  · intro j hj
    rw [List.length_set] at hj
    have hb := hmz2 j hj
    have hbm := hmz2 m hm
    by_cases hjm : j = m
    · subst hjm
      rw [getElem!_pos _ j (by rw [List.length_set]; exact hj), List.getElem_set_self, hq]
      have hL := h3 j hj
      have hz := h2 j hj
      have hR := (((hL.take of).app h4).app (hL.drop (of + n))).mono hal
      have e : ((us.take kk ++ (ρ y).cells.toList ++ us.drop (kk + n)).drop (j * sz)).take sz = ((us.drop (j * sz)).take sz).take of ++ (ρ y).cells.toList ++ ((us.drop (j * sz)).take sz).drop (of + n) := by
        apply List.ext_getElem?
        intro a
        simp only [List.getElem?_take, List.getElem?_append, List.length_append, List.length_take, List.getElem?_drop, h6', List.length_drop]
        by_cases e1 : a < sz
        · rw [if_pos e1]
          by_cases e2 : a < of
          · rw [if_pos (by omega), if_pos (by omega), if_pos (by omega), if_pos (by omega), if_pos (by omega), if_pos (by omega)]
            rw [if_pos (by omega)]
          · by_cases e3 : a < of + n
            · rw [if_pos (by omega), if_neg (by omega), if_pos (by omega), if_neg (by omega)]
              congr 1
              omega
            · rw [if_neg (by omega), if_neg (by omega), if_pos (by omega)]
              congr 1
              omega
        · rw [if_neg e1, if_neg (by omega), if_neg (by omega)]
      rw [e]
      exact hR
    · rw [getElem!_pos _ j (by rw [List.length_set]; exact hj), List.getElem_set_ne (Ne.symm hjm), ← getElem!_pos l j hj]
      have e : ((us.take kk ++ (ρ y).cells.toList ++ us.drop (kk + n)).drop (j * sz)).take sz = (us.drop (j * sz)).take sz := by
        have hcase : j * sz + sz ≤ m * sz ∨ m * sz + sz ≤ j * sz := by
          rcases Nat.lt_or_gt_of_ne hjm with h | h
          · left; rw [← Nat.succ_mul]; exact Nat.mul_le_mul_right _ h
          · right; rw [← Nat.succ_mul]; exact Nat.mul_le_mul_right _ h
        apply List.ext_getElem?
        intro a
        simp only [List.getElem?_take, List.getElem?_append, List.length_append, List.length_take, List.getElem?_drop, h6', Array.length_toList]
        by_cases e1 : a < sz
        · rw [if_pos e1, if_pos e1]
          rcases hcase with hc | hc
          · rw [if_pos (by omega), if_pos (by omega), if_pos (by omega)]
          · rw [if_neg (by omega)]
            congr 1
            omega
        · rw [if_neg e1, if_neg e1]
      rw [e]
      exact (h3 j hj).mono hal
end
end Go.Ab
