/- An interpreter over names of what is owned: aggregates, conversions, cuts. Program-independent. -/
import Derived.Test.YtgdahkddhecloaaIw2
set_option linter.unusedSectionVars false
set_option linter.unusedVariables false
set_option linter.unusedSimpArgs false
namespace Go.Iv
variable [U : Uni] [L : UniL]
open Go Go.RowKit

section
variable {P : Program} {E : Env} {σ : List Res} {o : Oper} {T T' e : TypeId} {x y z : Operand} {av : AV} {m : Int} {k : IntKind}
theorem Yp.indexA {n' : Nat} {cs : List AV} (ho : o.op = .index T x y) (hx : E.ev x = some (.agg cs)) (hy : E.ev y = some (.n k m)) (hT : P.underlying T = some (.array n' e)) (h1 : isOne P e) (hs : (P.info? e).map (·.size) = some 1) (hm : 0 ≤ m ∧ m < n') (ha : cs[m.toNat]? = some av) : Yp P E σ o av := fun A w ρ _ hρ => by
  obtain ⟨j, hj, hj'⟩ := Option.map_eq_some_iff.1 hs
  obtain ⟨us, q1, q2⟩ := (hρ _ _ hx).aggInv
  have hy' := (hρ _ _ hy).litEq
  obtain ⟨v, q3, q4⟩ := q2.get ha
  refine ⟨v, q4, fun w' _ => ?_⟩
  have hp : (part e us.toArray m.toNat).run P w' = .ok v w' := by
    unfold part
    rw [Sem.run_bind, run_isAgg_one h1]
    simp [q3]
  simp [execOp, ho, Instr.index, q1, hy', run_underlying hT, sizeOf, typeInfo, hj, hj', asIntOf, hm, hp]

end


section
variable {α : Type} {r : α} {P : Program} {o : Oper} {E : Env} {R : IRs} {nx : Nat} {ev : Operand → Option AV} {rd : Nat → Option IR} {x y z : Operand} {d : AV} {A : Nat → Prop} {w : World} {ρ : Gh} {v : Value}

theorem sub_acells (ρ : Gh) (d : AV) : acells (d.sub ρ) = (acells d).map (AVq.sub ρ) := by
  cases d <;> simp only [AVq.sub, acells, List.map_cons, List.map_nil]
theorem sub_acell1 {d : AV} (h : acell1 d = true) (hn : ∀ id, d ≠ .own id) : acell1 (d.sub ρ) = true := by
  cases d <;> first | (exact absurd rfl (hn _)) | (cases h; done) | (simp only [AVq.sub, acell1] at h ⊢; done) | (simp only [AVq.sub, acell1] at h ⊢; first | exact h | rfl)

/-- what lies in a cell lies in one -/
theorem dcell1_one (hs : See ev rd nx E R) (h : dcell1 rd d = true) (hd : Hd A (IRs.res ρ R) w) (hr : Rel A w (d.sub ρ) v) : v.oneCell' = true := by
  unfold dcell1 at h
  split at h
  · rename_i id
    split at h
    · rename_i t l hrd
      obtain ⟨i, hi⟩ := hs.row hrd ρ
      rw [sub_own] at hr
      rw [hr.litEq]
      exact own_one i hi hd
    · cases h
  · rw [sub_ptr] at hr; rw [hr.litEq]; rfl
  · cases h
  · rename_i h1 _ _
    exact hr.one (sub_acell1 h (fun id e => h1 id e))
theorem dplain_cells (hs : See ev rd nx E R) (h : dplain rd d = true) (hd : Hd A (IRs.res ρ R) w) (hr : Rel A w (d.sub ρ) v) : RelL A w ((acells d).map (AVq.sub ρ)) v.cells.toList ∧ ∀ u ∈ v.cells.toList, u.oneCell' = true := by
  by_cases ha : ∃ cs, d = .agg cs
  · obtain ⟨cs, rfl⟩ := ha
    rw [sub_agg] at hr
    obtain ⟨us, rfl, h2⟩ := hr.aggInv
    refine ⟨by simpa [Value.cells, acells] using h2, fun u hu => ?_⟩
    simp only [Value.cells, List.toList_toArray] at hu
    obtain ⟨j, hj, rfl⟩ := List.getElem_of_mem hu
    have hlt : j < cs.length := by have := h2.1; rw [List.length_map] at this; omega
    have h3 := h2.2 j _ us[j] (by rw [List.getElem?_map, List.getElem?_eq_getElem hlt]; rfl) (List.getElem?_eq_getElem hj)
    exact dcell1_one hs (List.all_eq_true.1 h _ (List.getElem_mem hlt)) hd h3
  · have hc : dcell1 rd d = true := by
      cases d <;> first | exact h | (exact absurd ⟨_, rfl⟩ ha)
    have hac : acells d = [d] := by
      cases d <;> first | rfl | (exact absurd ⟨_, rfl⟩ ha)
    have h2 := dcell1_one hs hc hd hr
    rw [hac, oneCell_cells h2]
    exact ⟨RelL.cons hr RelL.nil, fun u hu => by simp at hu; rw [hu]; exact h2⟩
theorem dplain_pw (hs : See ev rd nx E R) (h : dplain rd d = true) : Pw (IRs.res ρ R) (d.sub ρ) := fun A w v hd hr => by
  rw [sub_acells]
  exact dplain_cells hs h hd hr

/-! ### literals -/

def dfill (rd : Nat → Option IR) (place : Nat → Option (Nat × Nat)) (cells : List AV) : List (Nat × AV) → Option (List AV)
  | [] => some cells
  | (i, a) :: rest =>
    match place i with
    | none => none
    | some (off, size) =>
      match Nat.beq (acells a).length size && Nat.ble (off + size) cells.length && dplain rd a with
      | true => dfill rd place (cells.take off ++ acells a ++ cells.drop (off + size)) rest
      | false => none

theorem dfill_ltd {place : Nat → Option (Nat × Nat)} : ∀ {ps : List (Nat × AV)} {cs cs' : List AV}, (∀ c ∈ cs, Ltd nx c) → (∀ p ∈ ps, Ltd nx p.2) → dfill rd place cs ps = some cs' → ∀ c ∈ cs', Ltd nx c
  | [], cs, cs', h1, _, hf => by cases hf; exact h1
  | (i, a) :: ps, cs, cs', h1, h2, hf => by
    unfold dfill at hf
    split at hf
    · cases hf
    · split at hf
      · exact dfill_ltd (ltd_app (ltd_app (ltd_take h1 _) (ltd_cells (h2 _ List.mem_cons_self))) (ltd_drop h1 _)) (fun p hp => h2 p (List.mem_cons_of_mem _ hp)) hf
      · cases hf

theorem dfill_rel (hs : See ev rd nx E R) (hd : Hd A (IRs.res ρ R) w) {place : Nat → Option (Nat × Nat)} : ∀ {ps : List (Nat × AV)} {qs : List (Nat × Value)} {cs cs' : List AV} {init : Array Value}, RelL A w (cs.map (AVq.sub ρ)) init.toList →
    F2 (fun (p : Nat × AV) (q : Nat × Value) => p.1 = q.1 ∧ Rel A w (p.2.sub ρ) q.2) ps qs → dfill rd place cs ps = some cs' → ∃ us : Array Value, Instr.fill place init qs = some us ∧ RelL A w (cs'.map (AVq.sub ρ)) us.toList
  | [], _, cs, cs', init, hi, hp, hf => by
    cases hp
    cases hf
    exact ⟨init, rfl, hi⟩
  | (i, a) :: ps, _, cs, cs', init, hi, hp, hf => by
    cases hp with
    | @cons _ q _ qs h1 h2 =>
      obtain ⟨j, v⟩ := q
      obtain ⟨h3, h4⟩ := h1
      simp only at h3 h4
      subst h3
      unfold dfill at hf
      unfold Instr.fill
      cases hpl : place i with
      | none => rw [hpl] at hf; cases hf
      | some os =>
        obtain ⟨off, size⟩ := os
        rw [hpl] at hf
        simp only at hf ⊢
        split at hf
        · rename_i hc
          simp only [Bool.and_eq_true, Nat.ble_eq] at hc
          obtain ⟨⟨hc1, hc2⟩, hc3⟩ := hc
          have hc1 := Nat.eq_of_beq_eq_true hc1
          obtain ⟨h5, h6⟩ := dplain_cells hs hc3 hd h4
          have hvs : v.cells.size = size := by rw [← Array.length_toList, h5.1, List.length_map, hc1]
          have his : init.size = cs.length := by rw [← Array.length_toList, hi.1, List.length_map]
          rw [if_neg (by simp [hvs]; omega)]
          refine dfill_rel hs hd (cs := cs.take off ++ acells a ++ cs.drop (off + size)) ?_ h2 hf
          have hvl : v.cells.toList.length = size := by rw [Array.length_toList, hvs]
          have e : (v.cells.zipIdx.foldl (fun cs (x : Value × Nat) => match x with | (c, j) => cs.setIfInBounds (off + j) c) init).toList = init.toList.take off ++ v.cells.toList ++ init.toList.drop (off + size) := by
            have := foldl_set v.cells.toList 0 off init (by rw [hvl]; omega)
            rw [hvl, Nat.add_zero] at this
            rw [← this, ← Array.foldl_toList, Array.toList_zipIdx]
          show RelL A w _ (v.cells.zipIdx.foldl _ init).toList
          rw [e, List.map_append, List.map_append, List.map_take, List.map_drop]
          exact ((hi.take off).app h5).app (hi.drop (off + size))
        · cases hf

def evp (ev : Operand → Option AV) : List (Nat × Operand) → Option (List (Nat × AV))
  | [] => some []
  | (i, x) :: xs => match ev x with
    | some a => (evp ev xs).map fun as => (i, a) :: as
    | none => none
theorem evp_ltd (hs : See ev rd nx E R) : ∀ {xs : List (Nat × Operand)} {as : List (Nat × AV)}, evp ev xs = some as → ∀ p ∈ as, Ltd nx p.2
  | [], as, h => by cases h; simp
  | (i, x) :: xs, as, h => by
    unfold evp at h
    split at h
    · rename_i a ha
      obtain ⟨as', h1, rfl⟩ := Option.map_eq_some_iff.1 h
      intro p hp
      rcases List.mem_cons.1 hp with rfl | hp
      · exact hs.ltd ha
      · exact evp_ltd hs h1 p hp
    · cases h
theorem evp_rel (hs : See ev rd nx E R) {ϱ : Operand → Value} (h : Ops A w (E.sub ρ) ϱ) : ∀ {xs : List (Nat × Operand)} {as : List (Nat × AV)}, evp ev xs = some as →
    F2 (fun (p : Nat × AV) (q : Nat × Value) => p.1 = q.1 ∧ Rel A w (p.2.sub ρ) q.2) as (xs.map fun p => (p.1, ϱ p.2))
  | [], as, he => by cases he; exact .nil
  | (i, x) :: xs, as, he => by
    unfold evp at he
    split at he
    · rename_i a ha
      obtain ⟨as', h1, rfl⟩ := Option.map_eq_some_iff.1 he
      exact .cons ⟨rfl, h x _ (hs.evs ha ρ)⟩ (evp_rel hs h h1)
    · cases he

def evl (ev : Operand → Option AV) : List Operand → Option (List AV)
  | [] => some []
  | x :: xs => match ev x with
    | some a => (evl ev xs).map fun as => a :: as
    | none => none
theorem evl_ltd (hs : See ev rd nx E R) : ∀ {xs : List Operand} {as : List AV}, evl ev xs = some as → ∀ d ∈ as, Ltd nx d
  | [], as, h => by cases h; simp
  | x :: xs, as, h => by
    unfold evl at h
    split at h
    · rename_i a ha
      obtain ⟨as', h1, rfl⟩ := Option.map_eq_some_iff.1 h
      intro p hp
      rcases List.mem_cons.1 hp with rfl | hp
      · exact hs.ltd ha
      · exact evl_ltd hs h1 p hp
    · cases h
theorem evl_sub (hs : See ev rd nx E R) (ρ : Gh) : ∀ {xs : List Operand} {as : List AV}, evl ev xs = some as → (E.sub ρ).evl xs = some (as.map (AVq.sub ρ))
  | [], as, he => by cases he; rfl
  | x :: xs, as, he => by
    unfold evl at he
    split at he
    · rename_i a ha
      obtain ⟨as', h1, rfl⟩ := Option.map_eq_some_iff.1 he
      unfold Env.evl
      rw [hs.evs ha ρ, evl_sub hs ρ h1]
      rfl
    · cases he

/-- literals of structs and arrays -/
def bldV (P : Program) (ev : Operand → Option AV) (rd : Nat → Option IR) (T : TypeId) (ps : List (Nat × Operand)) (K : AV → Option α) : Option α :=
  match evp ev ps, zerosOf P T with
  | some as, some zs => match P.underlying T with
    | some (.struct _) => match placesOf P T with
      | some places => (dfill rd (places[·]?) (zs.map .lit) as).bind fun cs => K (.agg cs)
      | none => none
    | some (.array _ e) => match (P.info? e).map (·.size) with
      | some sz => (dfill rd (fun i => some (i * sz, sz)) (zs.map .lit) as).bind fun cs => K (.agg cs)
      | none => none
    | _ => none
  | _, _ => none

theorem lits_sub (ρ : Gh) (zs : List Value) : (zs.map (AVq.lit (Dat := U.Dat))).map (AVq.sub ρ) = zs.map .lit := by
  rw [List.map_map]
  exact List.map_congr_left fun v _ => sub_lit ρ v

theorem bldV_ok {T : TypeId} {ps : Array (Nat × Operand)} (hs : See ev rd nx E R) (ho : o.op = .build T ps) {K : AV → Option α} (h : bldV P ev rd T ps.toList K = some r) : ∃ d, K d = some r ∧ Pu P o E R nx d := by
  unfold bldV at h
  split at h
  case h_2 => cases h
  rename_i as zs he hz
  have main : ∀ (place : Nat → Option (Nat × Nat)) (cs : List AV), dfill rd place (zs.map .lit) as = some cs → (∀ (vs : List (Nat × Value)) (us : Array Value), Instr.fill place zs.toArray vs = some us → P.built T vs = some us) → Pu P o E R nx (.agg cs) := fun place cs hf hb => by
    refine ⟨.agg _ (dfill_ltd (ltd_lits nx zs) (evp_ltd hs he) hf), fun ρ A w ϱ hd hρ => ?_⟩
    obtain ⟨it, hit, hz1⟩ := Option.bind_eq_some_iff.1 hz
    obtain ⟨zv, hz2, hz3⟩ := Option.map_eq_some_iff.1 hz1
    have hzr : RelL A w ((zs.map AVq.lit).map (AVq.sub ρ)) zs := by rw [lits_sub]; exact RelL.lits _
    obtain ⟨us, h1, h2⟩ := dfill_rel (init := zs.toArray) hs hd hzr (evp_rel hs hρ he) hf
    rw [sub_agg]
    refine ⟨.agg us, by simpa using Rel.aggL h2, fun w' _ => ?_⟩
    have := run_build (P := P) w' T _ us (hb _ us h1)
    rw [← map_pair] at this
    simp [execOp, ho, this]
  split at h
  · rename_i fs hT
    split at h
    case h_2 => cases h
    rename_i places hp
    obtain ⟨cs, hf, h⟩ := Option.bind_eq_some_iff.1 h
    refine ⟨_, h, main _ cs hf fun vs us hu => ?_⟩
    obtain ⟨it, hit, hz1⟩ := Option.bind_eq_some_iff.1 hz
    obtain ⟨zv, hz2, hz3⟩ := Option.map_eq_some_iff.1 hz1
    unfold Program.built
    unfold placesOf at hp
    rw [hit, hT] at *
    simp only at hp
    simp only [hz2, hp]
    have : zv.cells = zs.toArray := by rw [← hz3]
    rw [this]
    simpa using hu
  · rename_i n e hT
    split at h
    case h_2 => cases h
    rename_i sz hsz
    obtain ⟨cs, hf, h⟩ := Option.bind_eq_some_iff.1 h
    refine ⟨_, h, main _ cs hf fun vs us hu => ?_⟩
    obtain ⟨it, hit, hz1⟩ := Option.bind_eq_some_iff.1 hz
    obtain ⟨zv, hz2, hz3⟩ := Option.map_eq_some_iff.1 hz1
    obtain ⟨ie, hie, hse⟩ := Option.map_eq_some_iff.1 hsz
    unfold Program.built
    rw [hit, hT]
    simp only [hz2, hie, hse]
    have : zv.cells = zs.toArray := by rw [← hz3]
    rw [this]
    exact hu
  · cases h

/-! ### conversions, functions, parts -/

def cnvV (P : Program) (rd : Nat → Option IR) (T T' : TypeId) (x : Option AV) (K : AV → Option α) : Option α := match P.underlying T, P.underlying T' with
  | some (.int _), some (.int k') => match x with
    | some (.lit (.int k n)) => match P.underlying T with
      | some (.int k0) => if k0 = k then K (.n k' (k'.wrap n)) else none
      | _ => none
    | _ => none
  | some (.slice e), some .string => match P.underlying e with
    | some (.int .u8) => match x with
      | some (.sl t l) => (L.nums t l).bind fun ns => K (.s (strOfNums ns))
      | some (.own id) => match rd id with
        | some (.row t l) => (L.nums t l).bind fun ns => K (.s (strOfNums ns))
        | _ => none
      | _ => none
    | _ => none
  | _, _ => none
theorem cnvV_ok {T T' : TypeId} (hs : See ev rd nx E R) (ho : o.op = .convert T T' x) {K : AV → Option α} (h : cnvV P rd T T' (ev x) K = some r) : ∃ d, K d = some r ∧ Pu P o E R nx d := by
  unfold cnvV at h
  split at h
  · rename_i k0 k' hT hT'
    split at h
    case h_2 => cases h
    rename_i k n hx
    have ex := fun ρ => hs.evs hx ρ
    simp only [sub_lit] at ex
    split at h
    case h_2 => cases h
    rename_i k1 hk1
    split at h
    case isFalse => cases h
    rename_i hk
    subst hk
    exact ⟨_, h, .lit fun ρ => .conv hk1 hT' ho (ex ρ)⟩
  · rename_i e hT hT'
    split at h
    case h_2 => cases h
    rename_i he
    split at h
    · rename_i t l hx
      obtain ⟨ns, hn, h⟩ := Option.bind_eq_some_iff.1 h
      exact ⟨_, h, .lit fun ρ => .b2s ho (.inr (.inl (by have ex := hs.evs hx ρ; rw [sub_sl] at ex; exact ex))) (L.nums_ok t l ns hn).1 (L.nums_ok t l ns hn).2 hT he hT'⟩
    · rename_i id hx
      split at h
      case h_2 => cases h
      rename_i t l hr
      obtain ⟨ns, hn, h⟩ := Option.bind_eq_some_iff.1 h
      refine ⟨_, h, .lit fun ρ => ?_⟩
      have ex := hs.evs hx ρ
      rw [sub_own] at ex
      obtain ⟨i, hi⟩ := hs.row hr ρ
      exact .b2s ho (.inr (.inr ⟨i, _, ex, hi⟩)) (L.nums_ok t l ns hn).1 (L.nums_ok t l ns hn).2 hT he hT'
    · cases h
  · cases h

def extV (i : Nat) (x : Option AV) (K : AV → Option α) : Option α := match x with
  | some (.tup cs) => (cs[i]?).bind K
  | _ => none
theorem extV_ok {i : Nat} (hs : See ev rd nx E R) (ho : o.op = .extract x i) {K : AV → Option α} (h : extV i (ev x) K = some r) : ∃ d, K d = some r ∧ Pu P o E R nx d := by
  unfold extV at h
  split at h
  · rename_i cs hx
    obtain ⟨d, hd, h⟩ := Option.bind_eq_some_iff.1 h
    exact ⟨d, h, ltd_get (hs.ltd hx).tupL hd, fun ρ => by have ex := hs.evs hx ρ; rw [sub_tup] at ex; exact .extract ho ex (by rw [List.getElem?_map, hd]; rfl)⟩
  · cases h

def mkfV (ev : Operand → Option AV) (f : Go.Fn) (fs cs : List Operand) (K : AV → Option α) : Option α := match fs with
  | [] => (evl ev cs).bind fun as => K (.fn f as)
  | _ => none
theorem mkfV_ok {f : Go.Fn} {fs cs : Array Operand} (hs : See ev rd nx E R) (ho : o.op = .makeFunc f fs cs) {K : AV → Option α} (h : mkfV ev f fs.toList cs.toList K = some r) : ∃ d, K d = some r ∧ Pu P o E R nx d := by
  unfold mkfV at h
  split at h
  · rename_i h0
    obtain ⟨as, ha, h⟩ := Option.bind_eq_some_iff.1 h
    refine ⟨_, h, .fn _ _ (evl_ltd hs ha), fun ρ => ?_⟩
    rw [sub_fn]
    exact .func ho (by rw [← Array.toList_eq_nil_iff]; exact h0) (evl_sub hs ρ ha)
  · cases h

/-- byte i of s -/
def byteAt (s : ByteArray) (i : Nat) : Int := ((s.data[i]!).toNat : Int)
theorem Yp.indexS {T : TypeId} {E : Env} {σ : List Res} {s : ByteArray} {k : IntKind} {m : Int} (ho : o.op = .index T x y) (hx : E.ev x = some (.s s)) (hy : E.ev y = some (.n k m)) (hT : P.underlying T = some .string) (hm : 0 ≤ m ∧ m < (s.size : Int)) : Yp P E σ o (.n .u8 (byteAt s m.toNat)) := fun A w ρ _ hρ => by
  refine ⟨_, .lit _, fun w' _ => ?_⟩
  have hx' := (hρ _ _ hx).litEq
  have hy' := (hρ _ _ hy).litEq
  have h := run_index_string (P := P) w' T s k m hT
  rw [dif_pos hm] at h
  have e : byteAt s m.toNat = ((s[m.toNat]'(by omega)).toNat : Int) := by
    unfold byteAt
    have hlt : m.toNat < s.data.size := by have : s.data.size = s.size := rfl; omega
    rw [getElem!_pos s.data m.toNat hlt]
    rfl
  rw [← e] at h
  simp [execOp, ho, hx', hy', h]

/-- the element of an array that is a value; the byte of a string -/
def ixaV (P : Program) (T : TypeId) (x y : Option AV) (K : AV → Option α) : Option α := match P.underlying T with
  | some (.array n e) => match oneB P e && szIs P e 1 with
    | true => match x, y with
      | some (.agg cs), some (.lit (.int _ m)) => if 0 ≤ m ∧ m < (n : Int) then (cs[m.toNat]?).bind K else none
      | _, _ => none
    | false => none
  | some .string => match x, y with
    | some (.lit (.string s)), some (.lit (.int _ m)) => if 0 ≤ m ∧ m < (s.size : Int) then K (.n .u8 (byteAt s m.toNat)) else none
    | _, _ => none
  | _ => none
theorem ixaV_ok {T : TypeId} (hs : See ev rd nx E R) (ho : o.op = .index T x y) {K : AV → Option α} (h : ixaV P T (ev x) (ev y) K = some r) : ∃ d, K d = some r ∧ Pu P o E R nx d := by
  unfold ixaV at h
  split at h
  case h_3 => cases h
  case h_2 =>
    rename_i hT
    split at h
    case h_2 => cases h
    rename_i s k m hx hy
    split at h
    case isFalse => cases h
    rename_i hm
    have ex := fun ρ => hs.evs hx ρ
    have ey := fun ρ => hs.evs hy ρ
    simp only [sub_lit] at ex ey
    exact ⟨_, h, .lit fun ρ => .indexS ho (ex ρ) (ey ρ) hT hm⟩
  rename_i n e hT
  split at h
  case h_2 => cases h
  rename_i he
  simp only [Bool.and_eq_true] at he
  split at h
  case h_2 => cases h
  rename_i cs k m hx hy
  split at h
  case isFalse => cases h
  rename_i hm
  obtain ⟨d, hd, h⟩ := Option.bind_eq_some_iff.1 h
  refine ⟨d, h, ltd_get (hs.ltd hx).aggL hd, fun ρ => ?_⟩
  have ex := hs.evs hx ρ
  have ey := hs.evs hy ρ
  rw [sub_agg] at ex
  rw [sub_lit] at ey
  exact .indexA ho ex ey hT (oneB_ok he.1) (szIs_ok he.2) hm (by rw [List.getElem?_map, hd]; rfl)

/-- a cut of a slice that reads as a list -/
def cutV (P : Program) (T : TypeId) (x : Option AV) (lo hi : Option (Option AV)) (K : AV → Option α) : Option α := match P.underlying T with
  | some (.slice e) => match x with
    | some (.sl t l) => match szIs P e (U.sz t) with
      | true => match lo, hi with
        | some (some (.lit (.int _ a))), some (some (.lit (.int _ b))) => if 0 ≤ a ∧ a ≤ b ∧ b ≤ (l.length : Int) then K (.sl t ((l.take b.toNat).drop a.toNat)) else none
        | none, some (some (.lit (.int _ b))) => if 0 ≤ b ∧ b ≤ (l.length : Int) then K (.sl t (l.take b.toNat)) else none
        | some (some (.lit (.int _ a))), none => if 0 ≤ a ∧ a ≤ (l.length : Int) then K (.sl t (l.drop a.toNat)) else none
        | _, _ => none
      | false => none
    | _ => none
  | _ => none
theorem cutV_ok {T : TypeId} {lo hi : Option Operand} (hs : See ev rd nx E R) (ho : o.op = .slice T x lo hi none) {K : AV → Option α} (h : cutV P T (ev x) (lo.map ev) (hi.map ev) K = some r) : ∃ d, K d = some r ∧ Pu P o E R nx d := by
  unfold cutV at h
  split at h
  case h_2 => cases h
  rename_i e hT
  split at h
  case h_2 => cases h
  rename_i t l hx
  split at h
  case h_2 => cases h
  rename_i hsz
  have hsz := szIs_ok hsz
  have ex := fun ρ => hs.evs hx ρ
  simp only [sub_sl] at ex
  split at h
  · rename_i k a k' b hlo hhi
    split at h
    case isFalse => cases h
    rename_i hc
    cases lo with
    | none => cases hlo
    | some lo =>
      cases hi with
      | none => cases hhi
      | some hi =>
        have e1 := fun ρ => hs.evs (Option.some.inj hlo) ρ
        have e2 := fun ρ => hs.evs (Option.some.inj hhi) ρ
        simp only [sub_lit] at e1 e2
        exact ⟨_, h, .sl _ _, fun ρ => by rw [sub_sl]; exact .slice2 ho (ex ρ) (e1 ρ) (e2 ρ) hT hsz hc⟩
  · rename_i k' b hlo hhi
    split at h
    case isFalse => cases h
    rename_i hc
    cases lo with
    | some lo => cases hlo
    | none =>
      cases hi with
      | none => cases hhi
      | some hi =>
        have e2 := fun ρ => hs.evs (Option.some.inj hhi) ρ
        simp only [sub_lit] at e2
        exact ⟨_, h, .sl _ _, fun ρ => by rw [sub_sl]; exact .sliceHi ho (ex ρ) (e2 ρ) hT hsz hc⟩
  · rename_i k a hlo hhi
    split at h
    case isFalse => cases h
    rename_i hc
    cases lo with
    | none => cases hlo
    | some lo =>
      cases hi with
      | some hi => cases hhi
      | none =>
        have e1 := fun ρ => hs.evs (Option.some.inj hlo) ρ
        simp only [sub_lit] at e1
        exact ⟨_, h, .sl _ _, fun ρ => by rw [sub_sl]; exact .sliceLo ho (ex ρ) (e1 ρ) hT hsz hc⟩
  · cases h

/-! ### builtins that only look -/

def lenV (P : Program) (rd : Nat → Option IR) (T : TypeId) (x : Option AV) (K : AV → Option α) : Option α := match P.underlying T with
  | some (.slice _) => match x with
    | some (.sl _ l) => K (.i (l.length : Int))
    | some (.own id) => match rd id with
      | some (.row _ l) => K (.i (l.length : Int))
      | _ => none
    | some (.lit (.slice none 0 0)) => K (.i 0)
    | _ => none
  | some .string => match x with
    | some (.lit (.string s)) => K (.i (s.size : Int))
    | _ => none
  | _ => none
theorem lenV_ok {T : TypeId} (hs : See ev rd nx E R) (ho : o.op = .call { callee := .builtin .len, args := #[x], argTypes := #[T] }) {K : AV → Option α} (h : lenV P rd T (ev x) K = some r) : ∃ d, K d = some r ∧ Pu P o E R nx d := by
  unfold lenV at h
  split at h
  · rename_i e hT
    split at h
    · rename_i t l hx
      exact ⟨_, h, .lit fun ρ => .lenSl ho (by have ex := hs.evs hx ρ; rw [sub_sl] at ex; exact ex) hT⟩
    · rename_i id hx
      split at h
      case h_2 => cases h
      rename_i t l hr
      refine ⟨_, h, .lit fun ρ => ?_⟩
      have ex := hs.evs hx ρ
      rw [sub_own] at ex
      obtain ⟨i, hi⟩ := hs.row hr ρ
      exact .lenRow i ho ex hi hT
    · rename_i hx
      exact ⟨_, h, .lit fun ρ => .lenNil ho (by have ex := hs.evs hx ρ; rw [sub_lit] at ex; exact ex) hT⟩
    · cases h
  · rename_i hT
    split at h
    · rename_i s hx
      exact ⟨_, h, .lit fun ρ => .lenStr ho (by have ex := hs.evs hx ρ; rw [sub_lit] at ex; exact ex) hT⟩
    · cases h
  · cases h
end
end Go.Iv
