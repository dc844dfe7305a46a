/- Slices made, appended to, cut; literals. Program-independent. -/
import Derived.Test.YtfipaakafcjjhaaAb3
set_option linter.unusedSectionVars false
set_option linter.unusedVariables false
set_option linter.unusedSimpArgs false
namespace Go.Ab
open Go Go.RowKit

inductive F2 {α : Type 1} {β : Type} (R : α → β → Prop) : List α → List β → Prop
  | nil : F2 R [] []
  | cons {a : α} {b : β} {as : List α} {bs : List β} (h : R a b) (hs : F2 R as bs) : F2 R (a :: as) (b :: bs)

/-! ### literals of structs and arrays -/

def afill (place : Nat → Option (Nat × Nat)) (cells : List AV) : List (Nat × AV) → Option (List AV)
  | [] => some cells
  | (i, a) :: rest =>
    match place i with
    | none => none
    | some (off, size) =>
      match Nat.beq (acells a).length size && Nat.ble (off + size) cells.length && aplain a with
      | true => afill place (cells.take off ++ acells a ++ cells.drop (off + size)) rest
      | false => none

theorem foldl_set (us : List Value) : ∀ (k off : Nat) (init : Array Value), off + k + us.length ≤ init.size →
    ((us.zipIdx k).foldl (fun cs (p : Value × Nat) => cs.setIfInBounds (off + p.2) p.1) init).toList = init.toList.take (off + k) ++ us ++ init.toList.drop (off + k + us.length) := by
  induction us with
  | nil => intro k off init h; simp
  | cons u us ih =>
    intro k off init h
    simp only [List.length_cons] at h
    rw [List.zipIdx_cons, List.foldl_cons, ih (k + 1) off _ (by simp; omega)]
    have h1 : off + k < init.toList.length := by simp; omega
    rw [Array.toList_setIfInBounds]
    have e1 : (init.toList.set (off + k) u).take (off + (k + 1)) = init.toList.take (off + k) ++ [u] := by
      rw [List.set_eq_take_append_cons_drop, if_pos h1]
      have e : off + (k + 1) = (init.toList.take (off + k)).length + 1 := by rw [List.length_take]; omega
      rw [e, List.take_length_add_append]
      simp
    have e2 : (init.toList.set (off + k) u).drop (off + (k + 1) + us.length) = init.toList.drop (off + k + (us.length + 1)) := by
      rw [List.drop_set_of_lt (by omega)]
      congr 1
      omega
    rw [e1, e2]
    simp

theorem fill_rel {A : Nat → Prop} {w : World} {place : Nat → Option (Nat × Nat)} : ∀ {ps : List (Nat × AV)} {qs : List (Nat × Value)} {cs cs' : List AV} {init : Array Value}, RelL A w cs init.toList →
    F2 (fun (p : Nat × AV) (q : Nat × Value) => p.1 = q.1 ∧ Rel A w p.2 q.2) ps qs → afill place cs ps = some cs' → ∃ us : Array Value, Instr.fill place init qs = some us ∧ RelL A w cs' us.toList
  | [], _, cs, cs', init, hi, hp, hf => by
    cases hp
    cases hf
    exact ⟨init, rfl, hi⟩
  | (i, a) :: ps, _, cs, cs', init, hi, hp, hf => by
    cases hp with
    | @cons _ q _ qs h1 h2 =>
      obtain ⟨j, v⟩ := q
      obtain ⟨h3, h4⟩ := h1
      simp only at h3 h4
      subst h3
      unfold afill at hf
      unfold Instr.fill
      cases hpl : place i with
      | none => rw [hpl] at hf; cases hf
      | some os =>
        obtain ⟨off, size⟩ := os
        rw [hpl] at hf
        simp only at hf ⊢
        split at hf
        · rename_i hc
          simp only [Bool.and_eq_true, Nat.ble_eq] at hc
          obtain ⟨⟨hc1, hc2⟩, hc3⟩ := hc
          have hc1 := Nat.eq_of_beq_eq_true hc1
          obtain ⟨h5, h6⟩ := h4.cells hc3
          have hvs : v.cells.size = size := by rw [← Array.length_toList, h5.1, hc1]
          have his : init.size = cs.length := by rw [← Array.length_toList, hi.1]
          rw [if_neg (by simp [hvs]; omega)]
          refine fill_rel (cs := cs.take off ++ acells a ++ cs.drop (off + size)) ?_ h2 hf
          have hvl : v.cells.toList.length = size := by rw [Array.length_toList, hvs]
          have e : (v.cells.zipIdx.foldl (fun cs (x : Value × Nat) => match x with | (c, j) => cs.setIfInBounds (off + j) c) init).toList = init.toList.take off ++ v.cells.toList ++ init.toList.drop (off + size) := by
            have := foldl_set v.cells.toList 0 off init (by rw [hvl]; omega)
            rw [hvl, Nat.add_zero] at this
            rw [← this, ← Array.foldl_toList, Array.toList_zipIdx]
          show RelL A w _ (v.cells.zipIdx.foldl _ init).toList
          rw [e]
          exact ((hi.take off).app h5).app (hi.drop (off + size))
        · cases hf

def Env.evp (E : Env) : List (Nat × Operand) → Option (List (Nat × AV))
  | [] => some []
  | (i, x) :: xs => match E.ev x, Env.evp E xs with
    | some a, some as => some ((i, a) :: as)
    | _, _ => none
theorem Env.evp_rel {A : Nat → Prop} {w : World} {E : Env} {ρ : Operand → Value} (h : Ops A w E ρ) : ∀ {xs : List (Nat × Operand)} {as : List (Nat × AV)}, E.evp xs = some as →
    F2 (fun (p : Nat × AV) (q : Nat × Value) => p.1 = q.1 ∧ Rel A w p.2 q.2) as (xs.map fun p => (p.1, ρ p.2))
  | [], as, he => by cases he; exact .nil
  | (i, x) :: xs, as, he => by
    unfold Env.evp at he
    cases h1 : E.ev x with
    | none => rw [h1] at he; cases he
    | some a =>
      cases h2 : E.evp xs with
      | none => rw [h1, h2] at he; cases he
      | some as' =>
        rw [h1, h2] at he
        cases he
        exact .cons ⟨rfl, h x a h1⟩ (Env.evp_rel h h2)

/-- where the fields of a struct lie; where the elements of an array lie -/
def placesOf (P : Program) (T : TypeId) : Option (List (Nat × Nat)) := match P.underlying T with
  | some (.struct fields) => fields.toList.mapM fun f => (P.info? f.type).map fun i => (f.offset, i.size)
  | _ => none
def zerosOf (P : Program) (T : TypeId) : Option (List Value) := (P.info? T).bind fun i => i.zero.map (·.cells.toList)

section
variable {P : Program} {E : Env} {σ : List Res} {o : Oper} {T T' e : TypeId} {x y z : Operand} {av bv : AV} {v u : Value} {m n : Int} {b : Bool} {k : IntKind} {C : Cx} {X : List Nat}

theorem map_pair {ps : Array (Nat × Operand)} {ρ : Operand → Value} : (ps.map fun (i, x) => (i, ρ x)).toList = ps.toList.map fun p => (p.1, ρ p.2) := by
  rw [Array.toList_map]

theorem Yp.build {ps : Array (Nat × Operand)} {as : List (Nat × AV)} {places : List (Nat × Nat)} {zs : List Value} {cs : List AV} (ho : o.op = .build T ps) (hp : placesOf P T = some places) (hz : zerosOf P T = some zs) (he : E.evp ps.toList = some as) (hf : afill (places.toArray[·]?) (zs.map .lit) as = some cs) : Yp P E σ o (.agg cs) := fun A w ρ _ hρ => by
  obtain ⟨it, hit, hz1⟩ := Option.bind_eq_some_iff.1 hz
  obtain ⟨zv, hz2, hz3⟩ := Option.map_eq_some_iff.1 hz1
  have hzr : RelL A w (zs.map .lit) zv.cells.toList := by rw [hz3]; exact RelL.lits _
  obtain ⟨us, h1, h2⟩ := fill_rel hzr (Env.evp_rel hρ he) hf
  refine ⟨.agg us, by simpa using Rel.aggL h2, fun w' _ => ?_⟩
  have hb : P.built T (ps.map fun (i, x) => (i, ρ x)).toList = some us := by
    unfold Program.built placesOf at *
    rw [hit]
    cases hu : P.underlying T with
    | none => rw [hu] at hp; cases hp
    | some d =>
      rw [hu] at hp
      cases d <;> simp only at hp <;> first | (cases hp; done) | skip
      rw [map_pair]
      simp only [hz2, hp]
      exact h1
  have := run_build (P := P) w' T _ us hb
  simp [execOp, ho, this]

theorem Yp.buildA {ps : Array (Nat × Operand)} {as : List (Nat × AV)} {sz n' : Nat} {zs : List Value} {cs : List AV} (ho : o.op = .build T ps) (hT : P.underlying T = some (.array n' e)) (hs : (P.info? e).map (·.size) = some sz) (hz : zerosOf P T = some zs) (he : E.evp ps.toList = some as) (hf : afill (fun i => some (i * sz, sz)) (zs.map .lit) as = some cs) : Yp P E σ o (.agg cs) := fun A w ρ _ hρ => by
  obtain ⟨it, hit, hz1⟩ := Option.bind_eq_some_iff.1 hz
  obtain ⟨zv, hz2, hz3⟩ := Option.map_eq_some_iff.1 hz1
  obtain ⟨ie, hie, hse⟩ := Option.map_eq_some_iff.1 hs
  have hzr : RelL A w (zs.map .lit) zv.cells.toList := by rw [hz3]; exact RelL.lits _
  obtain ⟨us, h1, h2⟩ := fill_rel hzr (Env.evp_rel hρ he) hf
  refine ⟨.agg us, by simpa using Rel.aggL h2, fun w' _ => ?_⟩
  have hb : P.built T (ps.map fun (i, x) => (i, ρ x)).toList = some us := by
    unfold Program.built
    rw [hit, hT, map_pair]
    simp only [hz2, hie, hse]
    exact h1
  have := run_build (P := P) w' T _ us hb
  simp [execOp, ho, this]

/-! ### rows -/

/-- the cells of a list of elements, element by element -/
theorem flat_block {α : Type} [Inhabited α] {c : α → List AV} {sz : Nat} : ∀ (l : List α), (∀ i, i < l.length → (c l[i]!).length = sz) → (l.flatMap c).length = l.length * sz ∧ ∀ i, i < l.length → ((l.flatMap c).drop (i * sz)).take sz = c l[i]!
  | [], _ => ⟨by simp, fun i hi => by cases hi⟩
  | x :: l, h => by
    have h0 : (c x).length = sz := h 0 (by simp)
    obtain ⟨h1, h2⟩ := flat_block l fun i hi => by
      have := h (i + 1) (by simpa using hi)
      rwa [show (x :: l)[i + 1]! = l[i]! from by rw [getElem!_pos _ (i + 1) (by simpa using hi), getElem!_pos l i hi]; rfl] at this
    refine ⟨by rw [List.flatMap_cons, List.length_append, h0, h1, List.length_cons, Nat.succ_mul]; omega, fun i hi => ?_⟩
    rw [List.flatMap_cons]
    cases i with
    | zero => rw [Nat.zero_mul, List.drop_zero, ← h0, List.take_left']
              · rfl
              · rfl
    | succ i =>
      have hi' : i < l.length := by simpa using hi
      rw [show (x :: l)[i + 1]! = l[i]! from by rw [getElem!_pos _ (i + 1) (by simpa using hi'), getElem!_pos l i hi']; rfl, ← h2 i hi']
      rw [show (i + 1) * sz = (c x).length + i * sz from by rw [h0, Nat.succ_mul]; omega, ← List.drop_drop, List.drop_left']
      rfl

theorem row_ok {A : Nat → Prop} {w : World} {α : Type} [Inhabited α] {c : α → List AV} {sz : Nat} {l : List α} {us : List Value} {T : TypeId} (hr : RowIs w v T sz l.length us) (hz : ∀ i, i < l.length → (c l[i]!).length = sz) (h : RelL A w (l.flatMap c) us) : Res.ok A w (.row v T sz c l) :=
  ⟨us, hr, hz, fun i hi => by rw [← (flat_block l hz).2 i hi]; exact (h.drop _).take _⟩
theorem row_flat {A : Nat → Prop} {w : World} {α : Type} [Inhabited α] {c : α → List AV} {sz : Nat} {l : List α} {T : TypeId} (h : Res.ok A w (.row v T sz c l)) : ∃ us, RowIs w v T sz l.length us ∧ (∀ i, i < l.length → (c l[i]!).length = sz) ∧ RelL A w (l.flatMap c) us := by
  obtain ⟨us, h1, h2, h3⟩ := h
  refine ⟨us, h1, h2, ?_⟩
  obtain ⟨f1, f2⟩ := flat_block l h2
  refine ⟨by rw [f1, h1.1], fun j a u ha hu => ?_⟩
  have hj : j < l.length * sz := by rw [← f1]; exact (List.getElem?_eq_some_iff.1 ha).1
  have hsz : 0 < sz := by
    rcases Nat.eq_zero_or_pos sz with h | h
    · rw [h] at hj; omega
    · exact h
  have hi : j / sz < l.length := by rw [Nat.div_lt_iff_lt_mul hsz]; exact hj
  have hm : j % sz < sz := Nat.mod_lt _ hsz
  have he : j / sz * sz + j % sz = j := by rw [Nat.mul_comm]; exact Nat.div_add_mod j sz
  refine (h3 _ hi).2 (j % sz) a u ?_ ?_
  · rw [← f2 _ hi, List.getElem?_take, if_pos hm, List.getElem?_drop, he]; exact ha
  · rw [List.getElem?_take, if_pos hm, List.getElem?_drop, he]; exact hu

theorem get_append_left! {α : Type} [Inhabited α] (l l2 : List α) (i : Nat) (h : i < l.length) : (l ++ l2)[i]! = l[i]! := by
  rw [getElem!_pos _ i (by rw [List.length_append]; omega), List.getElem_append_left h, ← getElem!_pos l i h]
theorem get_append_right! {α : Type} [Inhabited α] (l l2 : List α) (i : Nat) (h : l.length ≤ i) (h2 : i < l.length + l2.length) : (l ++ l2)[i]! = l2[i - l.length]! := by
  rw [getElem!_pos _ i (by rw [List.length_append]; exact h2), List.getElem_append_right h, ← getElem!_pos l2 (i - l.length) (by omega)]
theorem unif_app {α : Type} [Inhabited α] {c : α → List AV} {sz : Nat} {l l2 : List α} (h : ∀ i, i < l.length → (c l[i]!).length = sz) (h2 : ∀ i, i < l2.length → (c l2[i]!).length = sz) : ∀ i, i < (l ++ l2).length → (c (l ++ l2)[i]!).length = sz := fun i hi => by
  rw [List.length_append] at hi
  by_cases hlt : i < l.length
  · rw [get_append_left! _ _ _ hlt]; exact h i hlt
  · rw [get_append_right! _ _ _ (by omega) hi]; exact h2 _ (by omega)

theorem zeros_flat {zs : List Value} {sz n : Nat} (hsz : zs.length = sz) (hpos : 0 < sz) : ((Array.range (n * sz)).map (zs.toArray[· % zs.toArray.size]!)).toList = (List.replicate n zs).flatten := by
  apply List.ext_getElem?
  intro j
  have hfl : (List.replicate n zs).flatten.length = n * sz := by simp [hsz]
  have hq : ∀ (q : Nat) (j : Nat), j < q * sz → (List.replicate q zs).flatten[j]? = zs[j % sz]? := by
    intro q
    induction q with
    | zero => intro j hj; simp at hj
    | succ q ih =>
      intro j hj
      rw [List.replicate_succ, List.flatten_cons, List.getElem?_append]
      split
      · rename_i h; rw [hsz] at h; rw [Nat.mod_eq_of_lt h]
      · rename_i h
        rw [hsz] at h
        rw [hsz, ih _ (by rw [Nat.succ_mul] at hj; omega), Nat.mod_eq_sub_mod (by omega : sz ≤ j)]
  by_cases hj : j < n * sz
  · rw [hq n j hj]
    have hmod : j % sz < sz := Nat.mod_lt _ hpos
    simp [hj, hsz, hmod]
  · rw [List.getElem?_eq_none (l := (List.replicate n zs).flatten) (by rw [hfl]; omega)]
    simp [hj]

theorem Yv.lit {len sz : Nat} {ps : Array (Nat × Operand)} {as : List (Nat × AV)} {zs : List Value} {cs : List AV} {α : Type} [Inhabited α] (c : α → List AV) (l : List α) (ho : o.op = .buildSlice T len ps) (hT : P.underlying T = some (.slice e)) (hs : (P.info? e).map (·.size) = some sz) (hz : zerosOf P e = some zs) (he : E.evp ps.toList = some as)
    (hzl : zs.length = sz) (hf : afill (fun i => some (i * sz, sz)) ((List.replicate len zs).flatten.map .lit) as = some cs) (hl : l.length = len) (hc : l.flatMap c = cs) (hu : ∀ i, i < l.length → (c l[i]!).length = sz) (hpos : 0 < len * sz) (hsm : len * sz ≤ 2 ^ 24) :
    Yv P E σ o C [] (fun a σ' => ∃ v, a = .lit v ∧ σ' = .row v e sz c l :: σ) := fun w ρ hg hρ => by
  obtain ⟨it, hit, hz1⟩ := Option.bind_eq_some_iff.1 hz
  obtain ⟨zv, hz2, hz3⟩ := Option.map_eq_some_iff.1 hz1
  obtain ⟨ie, hie, hse⟩ := Option.map_eq_some_iff.1 hs
  have hee : it = ie := by rw [hit] at hie; exact Option.some.inj hie
  subst hee
  have hzc : zv.cells = zs.toArray := by rw [← hz3]
  obtain ⟨us, h1, h2⟩ := fill_rel (init := (List.replicate len zs).flatten.toArray) (RelL.lits _) (Env.evp_rel hρ he) hf
  have hrun := run_buildSlice (P := P) w T e len (ps.map fun (i, x) => (i, ρ x)) us it zv hT hit hz2 (by rw [hse]; omega) (by rw [hse]; omega) (by
    rw [hse, hzc, map_pair, ← h1]
    congr 1
    apply Array.ext'
    exact zeros_flat hzl (Nat.pos_of_mul_pos_left hpos))
  have hlp : 0 < len := Nat.pos_of_mul_pos_right hpos
  have hlen : us.toList.length = len * sz := by rw [h2.1, ← hc, (flat_block l hu).1, hl]
  refine ⟨_, w.alloc (.cells us e), _, _, ⟨.slice (some ⟨w.heap.size, 0, none⟩) len len, rfl, rfl⟩, ?_, by simp [execOp, ho, hrun], .lit _⟩
  obtain ⟨ln, rfl⟩ : ∃ ln, len = ln + 1 := ⟨len - 1, by omega⟩
  refine tr_new (r := .row (.slice (some ⟨w.heap.size, 0, none⟩) (ln + 1) (ln + 1)) e sz c l) hg (kp_alloc w _) (.inr rfl) (row_ok (us := us.toList) ?_ hu ?_)
  · rw [hl]
    refine ⟨hlen, .inr ⟨w.heap.size, ln, us, rfl, heap_alloc_new w _, Nat.le_refl _, ?_, by rw [← Array.length_toList, hlen], by rw [← hlen, List.take_length]⟩⟩
    have : ln + 1 ≤ (ln + 1) * sz := Nat.le_mul_of_pos_right _ (Nat.pos_of_mul_pos_left hpos)
    unfold maxLen
    omega
  · rw [hc]
    exact relL_new (r := .row (.slice (some ⟨w.heap.size, 0, none⟩) (ln + 1) (ln + 1)) e sz c l) h2 (.inr rfl) (kp_alloc w _)

theorem Yv.lit0 {s : Nat} {α : Type} [Inhabited α] (c : α → List AV) (sz : Nat) (ho : o.op = .buildSlice T 0 #[]) (hT : P.underlying T = some (.slice e)) (hs : (P.info? e).map (·.size) = some s) : Yv P E σ o C [] (fun a σ' => ∃ v, a = .lit v ∧ σ' = .row v e sz c ([] : List α) :: σ) := fun w ρ hg hρ => by
  obtain ⟨j, hj, hj'⟩ := Option.map_eq_some_iff.1 hs
  refine ⟨_, w.alloc (.cells #[] e), _, _, ⟨.slice (some ⟨w.heap.size, 0, none⟩) 0 0, rfl, rfl⟩, tr_new hg (kp_alloc w _) (.inl rfl) ⟨[], ⟨by simp, .inl ⟨_, rfl, rfl⟩⟩, fun i hi => by simp at hi, fun i hi => by simp at hi⟩, ?_, .lit _⟩
  simp [execOp, ho, Instr.buildSlice, run_underlying hT, sizeOf, typeInfo, hj, Instr.fill, newRow]
  rw [show Array.range 0 = #[] from rfl, Array.map_empty]

/-- make([]T, m, n) -/
theorem Yv.make {sz by' : Nat} {zs : List Value} {α : Type} [Inhabited α] (c : α → List AV) (d : α) (ho : o.op = .makeSlice T x y) (hx : E.ev x = some (.i m)) (hy : E.ev y = some (.i n)) (hT : P.underlying T = some (.slice e)) (hs : (P.info? e).map (fun i => (i.size, i.bytes)) = some (sz, by')) (hz : zerosOf P e = some zs) (hb : Nat.ble by' 4096 = true) (hsz : zs.length = sz) (hd : c d = zs.map .lit) (hpos : 0 < sz)
    (hm : 0 ≤ m ∧ m ≤ n ∧ n ≤ 1073741824) : Yv P E σ o C [] (fun a σ' => ∃ v, a = .lit v ∧ σ' = .row v e sz c (List.replicate m.toNat d) :: σ) := fun w ρ hg hρ => by
  obtain ⟨it, hit, hz1⟩ := Option.bind_eq_some_iff.1 hz
  obtain ⟨zv, hz2, hz3⟩ := Option.map_eq_some_iff.1 hz1
  obtain ⟨ie, hie, hse⟩ := Option.map_eq_some_iff.1 hs
  have hee : it = ie := by rw [hit] at hie; exact Option.some.inj hie
  subst hee
  simp only [Prod.mk.injEq] at hse
  obtain ⟨s1, s2⟩ := hse
  have hzc : zv.cells = zs.toArray := by rw [← hz3]
  have hby : by' ≤ 4096 := by simpa using hb
  obtain ⟨mm, rfl⟩ : ∃ mm : Nat, m = mm := ⟨m.toNat, by omega⟩
  obtain ⟨nn, rfl⟩ : ∃ nn : Nat, n = nn := ⟨n.toNat, by omega⟩
  have hbb : (it.bytes : Int) * (nn : Int) ≤ 281474976710656 := by
    have h1 : it.bytes * nn ≤ 4096 * 1073741824 := Nat.mul_le_mul (by omega) (by omega)
    have h' : ((it.bytes * nn : Nat) : Int) ≤ 281474976710656 := by omega
    rwa [Int.natCast_mul] at h'
  have hrun := run_make (P := P) w T e it zv hT hit hz2 .i64 .i64 mm nn (by omega) (by omega) hbb (by omega)
  rw [Int.toNat_natCast, Int.toNat_natCast] at hrun
  have hx' := (hρ _ _ hx).litEq
  have hy' := (hρ _ _ hy).litEq
  refine ⟨.slice (some ⟨w.heap.size, 0, none⟩) mm nn, w.alloc (.cells (madeCells zv.cells (nn * it.size)) e), _, _, ⟨.slice (some ⟨w.heap.size, 0, none⟩) mm nn, rfl, rfl⟩, ?_, ?_, .lit _⟩
  · rw [Int.toNat_natCast]
    have hcells : (madeCells zv.cells (nn * it.size)).toList = (List.replicate nn zs).flatten := by
      rw [hzc, s1]
      unfold madeCells
      apply List.ext_getElem?
      intro j
      have hfl : (List.replicate nn zs).flatten.length = nn * sz := by simp [hsz]
      have hq : ∀ (q : Nat) (j : Nat), j < q * sz → (List.replicate q zs).flatten[j]? = zs[j % sz]? := by
        intro q
        induction q with
        | zero => intro j hj; simp at hj
        | succ q ih =>
          intro j hj
          rw [List.replicate_succ, List.flatten_cons, List.getElem?_append]
          split
          · rename_i h; rw [hsz] at h; rw [Nat.mod_eq_of_lt h]
          · rename_i h
            rw [hsz] at h
            rw [hsz, ih _ (by rw [Nat.succ_mul] at hj; omega), Nat.mod_eq_sub_mod (by omega : sz ≤ j)]
      by_cases hj : j < nn * sz
      · rw [hq nn j hj]
        have hmod : j % sz < sz := Nat.mod_lt _ hpos
        simp [hj, hsz, hmod]
      · rw [List.getElem?_eq_none (l := (List.replicate nn zs).flatten) (by rw [hfl]; omega)]
        simp [hj]
    by_cases hn0 : nn = 0
    · have hm0 : mm = 0 := by omega
      subst hn0 hm0
      exact tr_new hg (kp_alloc w _) (.inl rfl) ⟨[], ⟨by simp, .inl ⟨_, rfl, rfl⟩⟩, fun i hi => by simp at hi, fun i hi => by simp at hi⟩
    · obtain ⟨nk, rfl⟩ : ∃ nk, nn = nk + 1 := ⟨nn - 1, by omega⟩
      have hu : ∀ i, i < (List.replicate mm d).length → (c (List.replicate mm d)[i]!).length = sz := fun i hi => by
        rw [getElem!_pos _ i hi, List.getElem_replicate, hd, List.length_map, hsz]
      have hfl : ∀ q, (List.replicate q zs).flatten.length = q * sz := fun q => by simp [hsz]
      have hfl2 : ∀ q : Nat, (List.replicate q d).flatMap c = ((List.replicate q zs).flatten).map .lit := fun q => by
        induction q with
        | zero => rfl
        | succ q ih => rw [List.replicate_succ, List.replicate_succ, List.flatMap_cons, List.flatten_cons, List.map_append, ih, hd]
      have htk : ∀ q q' : Nat, q ≤ q' → ((List.replicate q' zs).flatten).take (q * sz) = (List.replicate q zs).flatten := fun q q' h => by
        obtain ⟨r, rfl⟩ : ∃ r, q' = q + r := ⟨q' - q, by omega⟩
        rw [← List.replicate_append_replicate, List.flatten_append, ← hfl q]
        exact List.take_left
      refine tr_new (r := .row (.slice (some ⟨w.heap.size, 0, none⟩) mm (nk + 1)) e sz c (List.replicate mm d)) hg (kp_alloc w _) (.inr rfl) (row_ok (us := (List.replicate mm zs).flatten) ?_ hu ?_)
      · rw [List.length_replicate]
        refine ⟨hfl mm, .inr ⟨w.heap.size, nk, _, rfl, heap_alloc_new w _, by omega, by unfold maxLen; omega, ?_, by rw [hcells]; exact htk _ _ (by omega)⟩⟩
        rw [← Array.length_toList, hcells, hfl]
      · rw [hfl2]
        exact RelL.lits _
  · simp [execOp, ho, hx', hy', hrun]

/-! ### append -/

theorem run_append_row {w : World} {ty : TypeId} {i : TypeInfo} {zz : Value} {sz by' nn mm : Nat} {us news : List Value} {xs : Value} (ht : P.underlying T = some (.slice e)) (hi : P.info? e = some i) (hz : i.zero = some zz) (hs : i.size = sz) (hby : i.bytes = by') (hzs : zz.cells.size = sz)
    (hrow : RowIs w v e sz nn us) (hx : ∃ p c, xs = .slice p mm c ∧ (mm = 0 ∨ ∃ a, p = some a ∧ ∀ j u, news[j]? = some u → w.cell? (a.add j) = some u)) (hl : news.length = mm * sz) (h1 : ∀ u ∈ news, u.oneCell' = true) (h63 : nn + mm ≤ maxLen) (hb : (nn + mm) * by' ≤ 140737488355328) :
    ∃ v' w', (Builtin.append_ #[T, T] ty #[v, xs]).run P w = .ok v' w' ∧ RowIs w' v' e sz (nn + mm) (us ++ news) ∧ Kp (rblk v).toList w w' ∧ (rblk v' = rblk v ∨ rblk v' = some w.heap.size) := by
  subst hs hby
  obtain ⟨p, cx, rfl, hx⟩ := hx
  by_cases hm : mm = 0
  · subst hm
    have hn : news = [] := List.eq_nil_of_length_eq_zero (by simpa using hl)
    subst hn
    obtain ⟨q, cap, rfl, hcap⟩ := hrow.len
    have hf : ∀ w, (Builtin.firstCells i.size 0 (.slice p 0 cx)).run P w = .ok #[] w := fun w => by
      cases p <;> simp [Builtin.firstCells, loadCells, loadCellsFrom]
    have hrun : (Builtin.append_ #[T, T] ty #[.slice q nn cap, .slice p 0 cx]).run P w = .ok (.slice q nn cap) w := by
      cases q <;> simp [Builtin.append_, run_underlying ht, sizeOf, typeInfo, hi, Builtin.lenOf, hf, hcap, storeCells]
    exact ⟨_, w, hrun, by simpa using hrow, Kp.refl _ _, .inl rfl⟩
  · obtain ⟨a, rfl, hc⟩ := hx.resolve_left hm
    have grown : ∀ (olds : List Value) (old : Nat), olds.length = nn * i.size → old < nn + mm → us = olds →
        RowIs (w.drew.alloc (.cells (olds.toArray ++ news.toArray ++ Builtin.zeroCells zz.cells (grownCap w (nn + mm) old e - (nn + mm))) e)) (.slice (some ⟨w.heap.size, 0, none⟩) (nn + mm) (grownCap w (nn + mm) old e)) e i.size (nn + mm) (us ++ news) := by
      intro olds old hol hlt hus
      subst hus
      have hge := grownCap_ge w (nn + mm) old e
      have hcm := grownCap_le_maxLen w (nn + mm) old e h63
      obtain ⟨ck, hck⟩ : ∃ ck, grownCap w (nn + mm) old e = ck + 1 := ⟨grownCap w (nn + mm) old e - 1, by omega⟩
      refine ⟨by rw [List.length_append, hol, hl, Nat.add_mul], .inr ⟨w.heap.size, ck, _, by rw [hck], heap_alloc_new w.drew _, by omega, by omega, ?_, ?_⟩⟩
      · rw [← hck]
        simp only [Array.size_append, List.size_toArray, size_zeroCells, hzs, hol, hl, ← Nat.add_mul]
        congr 1
        omega
      · simp only [Array.toList_append, List.append_assoc]
        rw [← List.append_assoc, show (nn + mm) * i.size = (us ++ news).length from by rw [List.length_append, hol, hl, Nat.add_mul]]
        exact List.take_left
    rcases hrow.2 with ⟨q, rfl, rfl⟩ | ⟨g, cap, cur, rfl, hg, hnc, hcm, hcs, htake⟩
    · have hu : us = [] := List.eq_nil_of_length_eq_zero (by simpa using hrow.1)
      have hgr := grown [] 0 (by simp) (by omega) hu
      rw [Nat.zero_add] at hgr hb h63
      have hgc := grownCap_ge w mm 0 e
      have hrb : rblk (.slice (some ⟨w.heap.size, 0, none⟩) mm (grownCap w mm 0 e)) = some w.heap.size := by
        obtain ⟨ck, hck⟩ : ∃ ck, grownCap w mm 0 e = ck + 1 := ⟨grownCap w mm 0 e - 1, by omega⟩
        rw [hck]; rfl
      have h63' : (mm : Int) ≤ 9223372036854775807 := by unfold maxLen at h63; omega
      cases q with
      | none =>
        have hr := run_append_nil (P := P) w T ty e i zz ht hi hz a mm cx news hl hc (by omega) h63' (by omega)
        refine ⟨_, _, hr, ?_, kp_alloc' w _, .inr hrb⟩
        rw [Nat.zero_add]
        simpa using hgr
      | some b =>
        have hr := run_append_grow (P := P) w T ty e i zz ht hi hz b 0 0 [] (by simp) (fun j v hj => by cases hj) a mm cx news hl hc (by omega) (by simpa using h63') (growslice_fits (by omega) (by rw [Nat.zero_add]; exact hb))
        refine ⟨_, _, hr, ?_, kp_alloc' w _, .inr (by rw [Nat.zero_add]; exact hrb)⟩
        rw [Nat.zero_add]
        exact hgr
    · by_cases hroom : nn + mm ≤ cap + 1
      · have hfit : nn * i.size + news.length ≤ cur.size := by rw [hl, hcs, ← Nat.add_mul]; exact Nat.mul_le_mul_right _ hroom
        have hr := run_append_room (P := P) w T ty e i ht hi g nn (cap + 1) cur hg a mm cx news hl hc h1 hroom hfit
        refine ⟨_, _, hr, ⟨by rw [List.length_append, hrow.1, hl, Nat.add_mul], .inr ⟨g, cap, _, rfl, setRow_heap w g cur _ e _ hg, hroom, hcm, ?_, ?_⟩⟩, kp_setRow w g _, .inl rfl⟩
        · simp only [List.size_toArray, List.length_append, List.length_take, List.length_drop, Array.length_toList]
          omega
        · rw [htake, show (nn + mm) * i.size = (us ++ news).length from by rw [List.length_append, hrow.1, hl, Nat.add_mul]]
          exact List.take_left
      · have holds : ∀ j v, us[j]? = some v → w.cell? ((⟨g, 0, none⟩ : Addr).add j) = some v := fun j v hj => by
          rw [add0, Nat.zero_add]; exact hrow.cells rfl j v hj
        have h63' : ((nn + mm : Nat) : Int) ≤ 9223372036854775807 := by unfold maxLen at h63; omega
        have hr := run_append_grow (P := P) w T ty e i zz ht hi hz ⟨g, 0, none⟩ nn (cap + 1) us hrow.1 holds a mm cx news hl hc (by omega) h63' (growslice_fits (by omega) hb)
        have hgr := grown us (cap + 1) hrow.1 (by omega) rfl
        have hgc := grownCap_ge w (nn + mm) (cap + 1) e
        refine ⟨_, _, hr, hgr, ⟨rfl, rfl, rfl, by simp, fun k hk _ => heap_alloc_old w.drew _ hk⟩, .inr ?_⟩
        obtain ⟨ck, hck⟩ : ∃ ck, grownCap w (nn + mm) (cap + 1) e = ck + 1 := ⟨grownCap w (nn + mm) (cap + 1) e - 1, by omega⟩
        rw [hck]; rfl

/-- the elements of an operand, as append and copy take them -/
def Src {α : Type} [Inhabited α] (σ : List Res) (E : Env) (x : Operand) (e : TypeId) (sz : Nat) (c : α → List AV) (l : List α) : Prop :=
  (E.ev x = some (.lit (.slice none 0 0)) ∧ l = []) ∨ E.ev x = some (.sl sz c l) ∨ ∃ (i : Nat) (v : Value), E.ev x = some (.lit v) ∧ σ[i]? = some (.row v e sz c l)

theorem Src.spec {α : Type} [Inhabited α] {sz : Nat} {c : α → List AV} {l : List α} {A : Nat → Prop} {w : World} {ρ : Operand → Value} (h : Src σ E x e sz c l) (hd : Hd A σ w) (hρ : Ops A w E ρ) : ∃ p cap news, ρ x = .slice p l.length cap ∧ (l.length = 0 ∨ ∃ a, p = some a ∧ ∀ j u, news[j]? = some u → w.cell? (a.add j) = some u) ∧ news.length = l.length * sz ∧ (∀ i, i < l.length → (c l[i]!).length = sz) ∧ RelL A w (l.flatMap c) news ∧ l.length ≤ 9223372036854775807 := by
  rcases h with ⟨h, rfl⟩ | h | ⟨i, v, h, hσ⟩
  · exact ⟨none, 0, [], (hρ _ _ h).litEq, .inl rfl, by simp, fun i hi => by simp at hi, RelL.nil, by simp⟩
  · have hr := hρ _ _ h
    obtain ⟨p, cap, u, hv, hl, _, hz, hc, hcr⟩ := hr.slInv
    rw [hv] at hr
    let news : List Value := (List.range l.length).flatMap fun i => (List.range sz).map fun j => u i j
    have hnl : ∀ (q : List Nat), (q.flatMap fun i => (List.range sz).map fun j => u i j).length = q.length * sz := fun q => by
      induction q with
      | nil => simp
      | cons a q ih => rw [List.flatMap_cons, List.length_append, ih, List.length_map, List.length_range, List.length_cons, Nat.succ_mul]; omega
    have hnews : news.length = l.length * sz := by rw [hnl, List.length_range]
    have hget : ∀ n i j, i < n → j < sz → ((List.range n).flatMap fun i => (List.range sz).map fun j => u i j)[i * sz + j]? = some (u i j) := by
      intro n
      induction n with
      | zero => intro i j hi _; omega
      | succ n ih =>
        intro i j hi hj
        rw [List.range_succ, List.flatMap_append, List.getElem?_append, hnl, List.length_range]
        by_cases hin : i < n
        · have : i * sz + sz ≤ n * sz := by rw [← Nat.succ_mul]; exact Nat.mul_le_mul_right _ hin
          rw [if_pos (by omega)]
          exact ih i j hin hj
        · have : i = n := by omega
          subst this
          rw [if_neg (by omega)]
          simp [hj]
    refine ⟨p, cap, news, hv, ?_, hnews, hz, ?_, hl⟩
    · by_cases h0 : l.length = 0
      · exact .inl h0
      · obtain ⟨b, off, hp, hb, hA, hcc⟩ := hc 0 (by omega)
        refine .inr ⟨⟨b, off, none⟩, hp, fun j v hj => ?_⟩
        have hjl : j < l.length * sz := by rw [← hnews]; exact (List.getElem?_eq_some_iff.1 hj).1
        have hsz : 0 < sz := by
          rcases Nat.eq_zero_or_pos sz with h | h
          · rw [h] at hjl; omega
          · exact h
        have hi : j / sz < l.length := by rw [Nat.div_lt_iff_lt_mul hsz]; exact hjl
        have hm : j % sz < sz := Nat.mod_lt _ hsz
        have he : j / sz * sz + j % sz = j := by rw [Nat.mul_comm]; exact Nat.div_add_mod j sz
        have h2 := hget l.length (j / sz) (j % sz) hi hm
        rw [he] at h2
        have h3 : some v = some (u (j / sz) (j % sz)) := by rw [← hj, ← h2]
        cases h3
        obtain ⟨b', off', hp', _, _, hcc'⟩ := hc (j / sz) hi
        rw [hp] at hp'
        cases hp'
        have h4 := hcc' (j % sz) hm
        rw [add0, show off + j = off + j / sz * sz + j % sz from by omega]
        exact h4
    · obtain ⟨f1, f2⟩ := flat_block l hz
      refine ⟨by rw [f1, hnews], fun j a w' ha hw' => ?_⟩
      have hjl : j < l.length * sz := by rw [← hnews]; exact (List.getElem?_eq_some_iff.1 hw').1
      have hsz : 0 < sz := by
        rcases Nat.eq_zero_or_pos sz with h | h
        · rw [h] at hjl; omega
        · exact h
      have hi : j / sz < l.length := by rw [Nat.div_lt_iff_lt_mul hsz]; exact hjl
      have hm : j % sz < sz := Nat.mod_lt _ hsz
      have he : j / sz * sz + j % sz = j := by rw [Nat.mul_comm]; exact Nat.div_add_mod j sz
      have h2 := hget l.length (j / sz) (j % sz) hi hm
      rw [he] at h2
      have h3 : some w' = some (u (j / sz) (j % sz)) := by rw [← hw', ← h2]
      cases h3
      refine hcr (j / sz) (j % sz) a hi ?_
      rw [← f2 _ hi, List.getElem?_take, if_pos hm, List.getElem?_drop, he]
      exact ha
  · obtain ⟨us, h1, h2, h3⟩ := row_flat (hd.1 _ (List.mem_of_getElem? hσ))
    obtain ⟨p, cap, hv, _⟩ := h1.len
    have hx' := (hρ _ _ h).litEq
    have hlm : l.length ≤ 9223372036854775807 := by
      rcases h1.2 with ⟨_, _, h⟩ | ⟨_, _, _, _, _, q1, q2, _⟩
      · omega
      · unfold maxLen at q2; omega
    refine ⟨p, cap, us, by rw [hx', hv], ?_, h1.1, h2, h3, hlm⟩
    by_cases h0 : l.length = 0
    · exact .inl h0
    · obtain ⟨g, ck, cur, hv2, hgb, _⟩ := h1.at (by omega)
      rw [hv2] at hv
      cases hv
      refine .inr ⟨_, rfl, fun j u hj => ?_⟩
      rw [add0, Nat.zero_add]
      exact h1.cells hgb j u hj

/-- append(v, l2...) onto an own slice -/
theorem Yv.app {sz by' : Nat} {α : Type} [Inhabited α] {c : α → List AV} {l l2 : List α} {zs : List Value} (i : Nat) (ho : o.op = .call { callee := .builtin .append, args := #[x, y], argTypes := #[T, T] }) (hx : E.ev x = some (.lit v)) (hσ : σ[i]? = some (.row v e sz c l)) (hy : Src σ E y e sz c l2) (hT : P.underlying T = some (.slice e)) (hs : (P.info? e).map (fun i => (i.size, i.bytes)) = some (sz, by')) (hz : zerosOf P e = some zs) (hzl : zs.length = sz) (hb : Nat.ble by' 4096 = true)
    (h1 : ∀ x : α, (c x).all acell1 = true) (hlen : (l ++ l2).length ≤ 1073741824) : Yv P E σ o C (Option.toList (rblk v)) (fun a σ' => ∃ v', a = .lit v' ∧ σ' = σ.set i (.row v' e sz c (l ++ l2))) := fun w ρ hg hρ => by
  obtain ⟨it, hit, hz1⟩ := Option.bind_eq_some_iff.1 hz
  obtain ⟨zv, hz2, hz3⟩ := Option.map_eq_some_iff.1 hz1
  obtain ⟨ie, hie, hse⟩ := Option.map_eq_some_iff.1 hs
  have hee : it = ie := by rw [hit] at hie; exact Option.some.inj hie
  subst hee
  simp only [Prod.mk.injEq] at hse
  obtain ⟨s1, s2⟩ := hse
  have hby : by' ≤ 4096 := by simpa using hb
  obtain ⟨us, g1, g2, g3⟩ := row_flat (hg.res _ (List.mem_of_getElem? hσ))
  obtain ⟨p, cap, news, q1, q2, q3, q4, q5, q6⟩ := hy.spec hg.hd hρ
  have hx' := (hρ _ _ hx).litEq
  have hone : ∀ u ∈ news, u.oneCell' = true := q5.one (by
    rw [List.all_eq_true]
    intro a ha
    obtain ⟨x, _, hx⟩ := List.mem_flatMap.1 ha
    exact List.all_eq_true.1 (h1 x) a hx)
  rw [List.length_append] at hlen
  have hbytes : (l.length + l2.length) * by' ≤ 140737488355328 := by
    have : (l.length + l2.length) * by' ≤ 1073741824 * 4096 := Nat.mul_le_mul hlen hby
    omega
  obtain ⟨v', w', r1, r2, r3, r4⟩ := run_append_row (P := P) (T := T) (ty := o.type) (xs := ρ y) hT hit hz2 s1 s2 (by rw [← Array.length_toList, hz3, hzl]) g1 ⟨p, cap, q1, q2⟩ q3 hone (by unfold maxLen; omega) hbytes
  refine ⟨v', w', _, _, ⟨v', rfl, rfl⟩, tr_upd (r := .row v e sz c l) hg hσ r3 r4 (row_ok (by rw [List.length_append]; exact r2) (unif_app g2 q4) ?_), ?_, .lit _⟩
  · rw [List.flatMap_append]
    refine (g3.app q5).mono fun b hb hA => ⟨⟨hA.1, fun hx => ?_⟩, r3.block b hb (fun hx => hA.2 (mem_blks.2 ⟨_, List.mem_of_getElem? hσ, by simpa [Res.blk] using hx⟩))⟩
    obtain ⟨s, hs1, hs2⟩ := mem_blks.1 hx
    rcases List.mem_or_eq_of_mem_set hs1 with h | h
    · exact hA.2 (mem_blks.2 ⟨s, h, hs2⟩)
    · rw [h] at hs2
      rcases r4 with r4 | r4
      · exact hA.2 (mem_blks.2 ⟨_, List.mem_of_getElem? hσ, r4.symm.trans hs2⟩)
      · have : some w.heap.size = some b := r4.symm.trans hs2
        cases this
        omega
  · simp [execOp, ho, resolve, invoke, builtin, hx', r1]
end
end Go.Ab
