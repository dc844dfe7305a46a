/- Merged: Sx, Sy, Hkc, Hkd, Gr, Ns15, Iy1, Iy2, Opd, Q7. -/
import Derived.Test.YtghilkcphindjaaGreatM5SymbolicDecodes
import Derived.Test.YtghilkcphindjaaGreatM3SymbolicDecodes
import Derived.Test.YtghilkcphindjaaGreatM4SymbolicDecodes
import Derived.Deep.Slices
import Derived.Lib.SmallJoins
set_option linter.unusedSectionVars false
set_option linter.unusedVariables false
set_option linter.unusedSimpArgs false
set_option linter.defProp false
noncomputable section
set_option maxRecDepth 100000
namespace Go.Proofs.YtghilkcphindjaaGreat
open Go Go.Iv Go.Sort Go.Proofs
abbrev Ob (A : Nat → Prop) (w : World) := {p : Observation × List Value // p.2.length = 2 ∧ RelL A w (uni.cells 55 p.1) p.2}
section
variable {A : Nat → Prop} {w : World}
theorem rel47 {o : Observation} {us : List Value} (h : us.length = 2 ∧ RelL A w (uni.cells 55 o) us) : ∃ u v, us = [u, v] ∧ Rel A w (.sl 3 o.fOutputs) u ∧ v = .int .i64 o.fTime := by
 obtain ⟨h1, h2⟩ := h
 match us, h1 with
 | [u, v], _ => exact ⟨u, v, rfl, h2.2 0 _ _ rfl rfl, (h2.2 1 (.lit (.int .i64 o.fTime)) v rfl rfl).litEq⟩
theorem rel47_mk {o : Observation} {u : Value} (h : Rel A w (.sl 3 o.fOutputs) u) : RelL A w (uni.cells 55 o) [u, .int .i64 o.fTime] :=
 ⟨rfl, fun j a v h1 h2 => by
  match j with
  | 0 => cases h1; cases h2; exact h
  | 1 => cases h1; cases h2; exact .lit _
  | j + 2 => cases h1⟩
theorem nil47 : Rel A w (.sl 3 ([] : List Int)) (.slice none 0 0) := Rel.sl (U := uni) 3 [] none 0 (fun _ _ => .int .i64 0) (Nat.zero_le _) (Nat.le_refl _) (fun i hi => by cases hi) (fun i hi => by cases hi) (fun i j a hi => by cases hi)
instance : Inhabited (Ob A w) := ⟨⟨(⟨[], 0⟩, [.slice none 0 0, .int .i64 0]), rfl, rel47_mk nil47⟩⟩
def obE (x : Ob A w) : List Value := x.1.2
theorem obE_len (x : Ob A w) : (obE x).length = 2 := x.2.1
theorem obE_one (x : Ob A w) : ∀ v ∈ obE x, v.oneCell' = true := fun v hv => by
  obtain ⟨u, t, h1, h2, h3⟩ := rel47 x.2
  unfold obE at hv
  rw [h1] at hv
  rcases List.mem_cons.1 hv with rfl | hv
  · cases h2; rfl
  · rw [List.mem_singleton.1 hv, h3]; rfl
theorem obLen (x : Ob A w) : x.1.1.fOutputs.length ≤ 9223372036854775807 := by
 obtain ⟨u, t, h1, h2, h3⟩ := rel47 x.2
 generalize x.1.1.fOutputs = l at h2
 cases h2 with
 | sl t l p cap u hl hcap hz hc hr => exact hl
theorem flatK_two {α : Type} [Inhabited α] (enc : α → List Value) (d : Array α) {us : List Value} (h1 : us.length = d.size * 2) (h : ∀ i, i < d.size → enc d[i]! = (us.drop (i * 2)).take 2) : flatK enc 2 d = us.toArray := by
 refine ext_get! (by simp [h1]) fun t ht => ?_
 have ht : t < d.size * 2 := by simpa using ht
 rw [get_flatK _ _ _ _ ht, h _ (by omega)]
 have e : (us.toArray : Array Value)[t]! = us[t]! := by simp
 rw [e, getElem!_pos us t (by omega), getElem!_pos _ _ (by simp; omega), List.getElem_take, List.getElem_drop]
 congr 1
 omega
theorem holdsK_of {α : Type} [Inhabited α] {enc : α → List Value} {d : Array α} {W : World} {g : Nat} {cur : Array Value} {T : TypeId} {us : List Value} (hb : W.heap[g]? = some (.cells cur T (0, 0))) (hf : flatK enc 2 d = us.toArray) (hc : cur.toList.take us.length = us) : HoldsK enc 2 W g 0 d := by
 unfold HoldsK
 rw [hf]
 intro j hj
 have hj' : j < us.length := by simpa using hj
 refine ⟨?_, by simp [World.frozen?, hb]⟩
 have h1 : (cur.toList.take us.length)[j]? = us[j]? := by rw [hc]
 rw [List.getElem?_take_of_lt hj'] at h1
 simp only [World.cell?, hb, Nat.zero_add]
 simp only [Option.isSome_none, Bool.false_eq_true, if_false]
 rw [← Array.getElem?_toList, h1]
 simp [hj']
theorem heap_world {α : Type} [Inhabited α] {enc : α → List Value} {W : World} {g m : Nat} {dk : Array α} {os : Array Obj} {cur : Array Value} {T : TypeId} (hb : W.heap[g]? = some (.cells cur T (0, 0))) :
  (sortWorldK enc 2 W g 0 m dk os).heap[g]? = some (.cells (putCells id 0 (flatK enc 2 dk) cur) T (0, 0)) := by
 have hg : g < W.heap.size := (Array.getElem?_eq_some_iff.1 hb).1
 unfold sortWorldK putRowK
 rw [heap_grow_old _ _ (by simpa using hg)]
 simp [putRow, mapBlock, Sort.ahead, Array.getElem?_modify, hb, onCells]
theorem other_world {α : Type} [Inhabited α] {enc : α → List Value} {W : World} {g m : Nat} {dk : Array α} {os : Array Obj} {b : Nat} (hb : b < W.heap.size) (hne : b ≠ g) :
  (sortWorldK enc 2 W g 0 m dk os).heap[b]? = W.heap[b]? := by
 unfold sortWorldK putRowK
 rw [heap_grow_old _ _ (by simpa using hb)]
 simp [putRow, mapBlock, Sort.ahead, Array.getElem?_modify, Ne.symm hne]
theorem size_world {α : Type} [Inhabited α] {enc : α → List Value} {W : World} {g m : Nat} {dk : Array α} {os : Array Obj} : W.heap.size ≤ (sortWorldK enc 2 W g 0 m dk os).heap.size := size_sortWorldK_c enc 2 W g 0 m dk os
theorem kp_world {α : Type} [Inhabited α] {enc : α → List Value} {W : World} {g m : Nat} {dk : Array α} {os : Array Obj} : Kp [g] W (sortWorldK enc 2 W g 0 m dk os) :=
 ⟨rfl, rfl, rfl, size_world, fun k hk hn => other_world hk (by simpa using hn)⟩
theorem take_put {F cur : Array Value} (h : F.size ≤ cur.size) : (putCells id 0 F cur).toList.take F.size = F.toList := by
  apply List.ext_getElem?
  intro j
  by_cases hj : j < F.size
  · rw [List.getElem?_take_of_lt hj, Array.getElem?_toList]
    simp [putCells, hj, show j < cur.size by omega]
  · rw [List.getElem?_take_eq_none (by omega), List.getElem?_eq_none (by simp; omega)]
theorem grow_of {W W' : World} (h : Kp [] W W') : ∃ q os, W' = grow (redrawn W q) os := by
 obtain ⟨p, hp⟩ := regrown_of_below h.below
 exact ⟨p.d, p.os, hp⟩
theorem fn90 (a b : Observation) (h : a.fOutputs.length ≤ 9223372036854775807) : Iv.Fn Tryz.prog 90 [.agg (uni.cells 55 a), .agg (uni.cells 55 b)] [] (fun x s => x = .b (decide (cmpB a b = 0)) ∧ s = []) :=
 (fn_run (F := e90 or0) (e90_ok or0_g).ok P0.b rfl (ltd_of (by kernel_rfl)) ((show e90 or0 Bool 90 [.agg (uni.cells 55 a), .agg (uni.cells 55 b)] [] 0 (kRes asB) = (match m90 a b with | none => none | some r => some r) from by kernel_rfl).trans (by unfold m90; rw [m88_eq a b h]))).2
theorem lays_of {f : Nat} {x y : Ob A w} {r : Value} (hf : Iv.Fn Tryz.prog f [.agg (uni.cells 55 x.1.1), .agg (uni.cells 55 y.1.1)] [] (fun a s => a = .lit r ∧ s = [])) {W : World} (hW : ∀ b, b < w.heap.size → A b → W.heap[b]? = w.heap[b]?) :
    Calls Tryz.prog f #[.agg (obE x).toArray, .agg (obE y).toArray] W fun e w' => e = .returned r ∧ ∃ q os', w' = grow (redrawn W q) os' := by
  have hr : ∀ z : Ob A w, RelL A W (uni.cells 55 z.1.1) (obE z) := fun z => z.2.2.mono fun b hb hA => ⟨hA, hW b hb hA⟩
  refine (hf W A [.agg (obE x).toArray, .agg (obE y).toArray] ⟨rfl, fun j a v h1 h2 => ?_⟩ ⟨fun r hr => (by cases hr), fun b hb => (by cases hb)⟩ List.nodup_nil).mono fun e w' ⟨v, av, σ', he, ⟨h1, h2⟩, ht, hv⟩ => ?_
  · match j with
    | 0 => cases h1; cases h2; exact .agg _ _ (hr x).1 (hr x).2
    | 1 => cases h1; cases h2; exact .agg _ _ (hr y).1 (hr y).2
    | j + 2 => cases h1
  · rw [h1] at hv
    exact ⟨by rw [he, hv.litEq], grow_of ht.kp⟩
end
theorem row47 {A : Nat → Prop} {w : World} {l : List Observation} {us : List Value} (h1 : us.length = l.length * 2) (h3 : ∀ i, i < l.length → RelL A w (uni.cells 55 l[i]!) ((us.drop (i * 2)).take 2)) :
    ∃ d : Array (Ob A w), d.size = l.length ∧ (d.toList.map fun x => x.1.1) = l ∧ flatK obE 2 d = us.toArray := by
  have hx : ∀ i : Fin l.length, ((us.drop (i.1 * 2)).take 2).length = 2 ∧ RelL A w (uni.cells 55 l[i]) ((us.drop (i.1 * 2)).take 2) := fun i => by
    have hi := i.2
    refine ⟨by rw [List.length_take, List.length_drop]; omega, ?_⟩
    have := h3 i.1 hi
    rwa [getElem!_pos l i.1 hi] at this
  refine ⟨Array.ofFn fun i : Fin l.length => (⟨(l[i], (us.drop (i.1 * 2)).take 2), hx i⟩ : Ob A w), by simp, ?_, flatK_two _ _ (by simpa using h1) fun i hi => ?_⟩
  · apply List.ext_getElem (by simp)
    intro i q1 q2
    simp
  · have hi' : i < l.length := by simpa using hi
    rw [getElem!_pos _ i hi]
    simp [obE]
theorem row47' {A : Nat → Prop} {w : World} (d : Array (Ob A w)) (l : List Observation) (h : (d.toList.map fun x => x.1.1) = l) : (flatK obE 2 d).toList.length = l.length * 2 ∧ ∀ i, i < l.length → RelL A w (uni.cells 55 l[i]!) (((flatK obE 2 d).toList.drop (i * 2)).take 2) := by
  have hs : d.size = l.length := by rw [← h]; simp
  refine ⟨by simp [hs], fun i hi => ?_⟩
  have e : (((flatK obE 2 d).toList.drop (i * 2)).take 2) = obE d[i]! := by
    apply List.ext_getElem
    · rw [obE_len, List.length_take, List.length_drop]; simp [hs]; omega
    · intro j q1 q2
      rw [obE_len] at q2
      rw [List.getElem_take, List.getElem_drop, Array.getElem_toList]
      have := get_flatK obE 2 d (i * 2 + j) (by omega)
      rw [getElem!_pos _ _ (by simp; omega)] at this
      rw [this, show (i * 2 + j) / 2 = i by omega, show (i * 2 + j) % 2 = j by omega, getElem!_pos _ j (by rw [obE_len]; exact q2)]
  rw [e]
  have e2 : l[i]! = d[i]!.1.1 := by
    subst h
    rw [getElem!_pos _ i hi, getElem!_pos d i (by omega)]
    simp
  rw [e2]
  exact d[i]!.2.2
abbrev E89 : Type := List Observation
def d89 : Td 1 E89 := .c [] [4] (.r 1 2 (ec 4 (qo 1) en) (sr 1 55 sn) (fun z => z.2.1) (fun x => (((), ()), (x, ()))) fun _ => rfl)
def A89 := (lc (qo 0) (lc (qf 90 ln) ln))
def B89 := (sr 0 55 sn)
def m89 (b0 : List Observation) : Option E89 := if b0.length ≤ 1073741824 then some (cmpO b0) else none
def Gv89 : Prop := HY Tryz.prog 89 1 A89 B89 d89 (fun g => m89 g.2.1)
def e89 : Orc → Orc := eY Tryz.prog 89 1 A89 B89 d89 (fun g => m89 g.2.1)
theorem e89_okv (hv : Gv89) {F : Orc} (h : OrcG Tryz.prog F) : OrcG Tryz.prog (e89 F) := eY_ok hv ⟨_, Tryz.func89, by kernel_rfl, by kernel_rfl⟩ (fun _ => by kernel_rfl) h
theorem heap_setCells {g : Nat} {T : TypeId} : ∀ (vs : List Value) (o : Nat) (W : World) (cur : Array Value), W.heap[g]? = some (.cells cur T (0, 0)) → (W.setCells g o vs).heap[g]? = some (.cells (setMany cur o vs) T (0, 0))
 | [], _, _, _, h => h
 | v :: vs, o, W, cur, h => by
  rw [World.setCells, setMany]
  refine heap_setCells vs (o + 1) _ _ ?_
  rw [setCell_eq]
  simp [mapBlock, Array.getElem?_modify, h, onCells]
theorem kp_setCells {g : Nat} : ∀ (vs : List Value) (o : Nat) (W : World), Kp [g] W (W.setCells g o vs)
 | [], _, W => Kp.refl _ W
 | v :: vs, o, W => by
  rw [World.setCells]
  refine Kp.trans (w1 := W.setCell ⟨g, o, none⟩ v) (X := [g]) (Y := [g]) ?_ (kp_setCells vs (o + 1) _) (fun b hb _ => hb)
  rw [setCell_eq]
  refine ⟨rfl, rfl, rfl, by simp [mapBlock], fun k hk hX => ?_⟩
  have : g ≠ k := fun e => hX (by simp [e])
  simp [mapBlock, Array.getElem?_modify, this]
theorem cmpG_snoc (x : Observation) : ∀ (l : List Observation) (p : Observation), cmpG p (l ++ [x]) = cmpG p l ++ if cmpB x (l.getLastD p) = 0 then [] else [x]
 | [], p => by
  by_cases h : cmpB x p = 0 <;> simp [cmpG, h]
 | y :: l, p => by
  simp only [List.cons_append, cmpG]
  rw [cmpG_snoc x l y]
  have e : (y :: l).getLastD p = l.getLastD y := by cases l <;> rfl
  rw [e]
  split <;> simp
section
variable {A : Nat → Prop} {w : World}
def eqO (x y : Ob A w) : Bool := decide (cmpB x.1.1 y.1.1 = 0)
theorem upB_cmp (d : Array (Ob A w)) : ∀ m, m ≤ d.size → (upB eqO d m).map (fun x => x.1.1) = cmpO ((d.toList.map fun x => x.1.1).take m)
  | 0, _ => by simp [upB, cmpO]
  | m + 1, hm => by
    have ih := upB_cmp d m (by omega)
    have hl : m < (d.toList.map fun x => x.1.1).length := by simp; omega
    have eg : ∀ j, j < d.size → (d.toList.map fun x => x.1.1)[j]! = d[j]!.1.1 := fun j hj => by
      rw [getElem!_pos _ j (by simpa using hj), getElem!_pos d j hj]
      simp
    rw [upB_succ, List.map_append, ih, take_succL hl, eg m (by omega)]
    by_cases h0 : m = 0
    · subst h0
      simp [kpB, cmpO, cmpG]
    · obtain ⟨n, rfl⟩ : ∃ n, m = n + 1 := ⟨m - 1, by omega⟩
      have hl2 : n < (d.toList.map fun x => x.1.1).length := by simp; omega
      have e2 : (d.toList.map fun x => x.1.1).take (n + 1) = (d.toList.map fun x => x.1.1).take n ++ [d[n]!.1.1] := by rw [take_succL hl2, eg n (by omega)]
      obtain ⟨q, hq⟩ : ∃ q, q = (d.toList.map fun x => x.1.1).take (n + 1) := ⟨_, rfl⟩
      rw [← hq]
      cases q with
      | nil => rw [e2] at hq; simp at hq
      | cons a q =>
        show _ = a :: cmpG a (q ++ [d[n + 1]!.1.1])
        rw [cmpG_snoc]
        have : q.getLastD a = d[n]!.1.1 := by
          have h1 := congrArg List.getLast? hq
          rw [e2, List.getLast?_append, List.getLast?_singleton, Option.some_or, List.getLast?_cons] at h1
          rw [List.getLastD_eq_getLast?]
          exact Option.some.inj h1
        rw [this]
        unfold kpB eqO
        rw [Nat.add_sub_cancel]
        by_cases hc : cmpB d[n + 1]!.1.1 d[n]!.1.1 = 0 <;> simp [hc, cmpO]
end
theorem cmpG_le : ∀ (l : List Observation) (p : Observation), (cmpG p l).length ≤ l.length
 | [], _ => Nat.le_refl _
 | y :: l, p => by
  have := cmpG_le l y
  unfold cmpG
  split <;> simp <;> omega
theorem cmpO_le (l : List Observation) : (cmpO l).length ≤ l.length := by
 cases l with
 | nil => exact Nat.le_refl _
 | cons x l => have := cmpG_le l x; simp [cmpO]; omega
theorem clear47 {W : World} {gb n kk : Nat} {F : Array Value} (h : W.heap[gb]? = some (.cells F 55 (0, 0))) (hs : n * 2 ≤ F.size) (hk : kk < n) {c : Nat} {ty : TypeId} :
  (Builtin.clear_ #[74] ty #[.slice (some ⟨gb, 0 + kk * 2, none⟩) (n - kk) c]).run Tryz.prog W = .ok (.tuple #[]) (W.setCells gb (0 + kk * 2) (Builtin.zeroCells #[.slice none 0 0, .int .i64 0] (n - kk)).toList) := by
 have hl : (Builtin.zeroCells #[.slice none 0 0, .int .i64 0] (n - kk)).toList.length = (n - kk) * 2 := by simp [Builtin.zeroCells]
 have hst := run_storeCells_cells (P := Tryz.prog) gb (0 + kk * 2) (Builtin.zeroCells #[.slice none 0 0, .int .i64 0] (n - kk)).toList 0 W (fun j hj => by
   rw [hl] at hj
   simp only [World.cell?, h, Option.isSome_none, Bool.false_eq_true, if_false]
   rw [Array.getElem?_eq_getElem (by omega)]
   rfl) (fun j hj => by simp [World.frozen?, h]) (fun v hv => by
   simp only [Builtin.zeroCells, Array.toList_map, List.mem_map] at hv
   obtain ⟨i, _, rfl⟩ := hv
   have : i % (#[.slice none 0 0, .int .i64 0] : Array Value).size < 2 := Nat.mod_lt _ (by decide)
   generalize i % (#[.slice none 0 0, .int .i64 0] : Array Value).size = q at this
   match q, this with
   | 0, _ => rfl
   | 1, _ => rfl)
 simp only [Nat.add_zero] at hst
 obtain ⟨m, hm⟩ : ∃ m, n - kk = m + 1 := ⟨n - kk - 1, by omega⟩
 rw [hm] at hst ⊢
 rw [Nat.zero_add] at hst ⊢
 simp [Builtin.clear_, run_underlying Tryz.underlying74, Tryz.zeroValue55, Value.cells, hst]
theorem gv89a (l b : List Observation) (hb : m89 l = some b) : FnY Tryz.prog 89 [.own 0, .fn (.func 90) []] [(0, .row 55 l)] 1 (outY Tryz.prog 89 1 (d89.pat b)) := by
  unfold m89 at hb
  split at hb
  case isFalse => cases hb
  rename_i hlen
  have hbl : b = cmpO l := (Option.some.inj hb).symm
  intro ρ
  have ho : outY Tryz.prog 89 1 (d89.pat b) = ⟨.own 1, [(1, .row 55 b)], 2⟩ := by kernel_rfl
  show Go.Iv.Fn Tryz.prog 89 [(AVq.own 0).sub ρ, (AVq.fn (.func 90) []).sub ρ] (IRs.res ρ [(0, .row 55 l)]) _
  rw [ho, sub_own, show (AVq.fn (Dat := uni.Dat) (.func 90) []).sub ρ = .fn (.func 90) [] by simp [AVq.sub]]
  intro w A vs hr hd hn
  obtain ⟨hr1, hr2⟩ := hr
  obtain ⟨v, v2, rfl⟩ : ∃ v v2, vs = [v, v2] := by
    match vs, hr1 with
    | [v, v2], _ => exact ⟨v, v2, rfl⟩
  have hv : v = ρ.v 0 := (hr2 0 _ v rfl rfl).litEq
  have hv2 : v2 = .func (.func 90) #[] #[] := by
    have := hr2 1 (.fn (.func 90) []) v2 rfl rfl
    cases this with
    | fn f cs us hl hrr => rw [List.length_eq_zero_iff.1 hl]
  subst hv hv2
  generalize hv : ρ.v 0 = v at *
  have hok := hd.1 (.row v 55 l) (by show _ ∈ [Res.row (ρ.v 0) 55 l]; rw [hv]; exact List.mem_singleton.2 rfl)
  obtain ⟨us, h1, h2, h3⟩ := hok
  have hσ : IRs.res ρ [(0, .row 55 l)] = [Res.row v 55 l] := by show [Res.row (ρ.v 0) 55 l] = _; rw [hv]
  rw [hσ] at hd hn ⊢
  have fin : ∀ (w' : World) (u : Value), rblk u = rblk v → (∃ us', RowIs w' u 55 2 b.length us' ∧ ∀ i, i < b.length → RelL A w (uni.cells 55 b[i]!) ((us'.drop (i * 2)).take 2)) → Kp (blks [Res.row v 55 l]) w w' → ∃ v_1 av σ', Ending.returned u = Ending.returned v_1 ∧
      (∃ ρ', Agr 1 ρ ρ' ∧ av = (AVq.own (Dat := uni.Dat) 1).sub ρ' ∧ List.Perm σ' (IRs.res ρ' [(1, .row 55 b)])) ∧ Tr ⟨w, A, blks [Res.row v 55 l]⟩ (blks [Res.row v 55 l]) [Res.row v 55 l] w σ' w' ∧ Rel (al ⟨w, A, blks [Res.row v 55 l]⟩ σ') w' av v_1 := fun w' u hu ⟨us', hrow, hrel⟩ hk => by
    have hbk : blks [Res.row u 55 b] = blks [Res.row v 55 l] := by simp only [blks, List.filterMap_cons, Res.blk, hu]
    have hal : ∀ x, al ⟨w, A, blks [Res.row v 55 l]⟩ [Res.row v 55 l] x → al ⟨w, A, blks [Res.row v 55 l]⟩ [Res.row u 55 b] x := fun x h => ⟨h.1, by rw [hbk]; exact h.2⟩
    refine ⟨u, .lit u, [Res.row u 55 b], rfl, ⟨⟨fun i => if i = 1 then u else ρ.v i, ρ.b⟩, fun i hi => ⟨by show _ = if i = 1 then u else ρ.v i; rw [if_neg (by omega)], rfl⟩, by rw [sub_own]; rfl, List.Perm.refl _⟩, ⟨⟨hk, ?_, ?_, ?_⟩, hk, fun x _ h => ⟨hal x h, h.2⟩⟩, .lit u⟩
    · intro r hr
      rw [List.mem_singleton.1 hr]
      refine ⟨us', hrow, fun i _ => rfl, fun i hi => (hrel i hi).mono fun x hx hA => ?_⟩
      have hnb : x ∉ blks [Res.row v 55 l] := fun h => hd.2 x h hA
      exact ⟨⟨.inl hA, by rw [hbk]; exact hnb⟩, hk.block x hx hnb⟩
    · rw [hbk]; exact hn
    · intro x hx; rw [hbk] at hx; exact .inl hx
  obtain ⟨h1l, hcase⟩ := h1
  rcases hcase with ⟨p, hvp, hl0⟩ | ⟨gb, cap, cur, hvp, hg, q1, q2, q3, q4⟩
  · have hl : l = [] := List.length_eq_zero_iff.1 hl0
    have hbn : b = [] := by rw [hbl, hl]; rfl
    subst hvp
    refine (compactF_nil Tryz.func89 p 0 (.func (.func 90) #[] #[]) w).mono fun e w' he => ?_
    obtain ⟨rfl, rfl⟩ := he
    refine fin w' _ rfl ⟨[], ?_, fun i hi => by rw [hbn] at hi; cases hi⟩ (Kp.refl _ _)
    rw [hbn]
    exact ⟨rfl, .inl ⟨p, rfl, rfl⟩⟩
  · subst hvp
    have hgs : gb < w.heap.size := (Array.getElem?_eq_some_iff.1 hg).1
    have hAg : ¬ A gb := hd.2 gb (mem_blks.2 ⟨_, List.mem_singleton.2 rfl, rfl⟩)
    have q4 : cur.toList.take (l.length * 2) = us := q4
    have q3 : cur.size = (cap + 1) * 2 := q3
    have h1l : us.length = l.length * 2 := h1l
    have q1' : l.length ≤ cap + 1 := q1
    obtain ⟨d, d1, d2, d3⟩ := row47 h1l h3
    have hH : HoldsK obE 2 w gb 0 d := holdsK_of hg d3 (by rw [h1l]; exact q4)
    have hcmp : ∀ (dk : Array (Ob A w)) (W : World), dk.size = d.size → SWD obE 2 w gb 0 dk W → ∀ x y : Ob A w, Calls Tryz.prog 90 (#[.agg (obE x).toArray, .agg (obE y).toArray] ++ #[]) W fun e w' => e = .returned (.bool (eqO x y)) ∧ ∃ q os', w' = grow (redrawn W q) os' := fun dk W hdk ⟨q0, n, os, hW⟩ x y => by
      subst hW
      exact lays_of (fn90 x.1.1 y.1.1 (obLen x)) (fun c hc hA => other_world hc fun e => hAg (e ▸ hA))
    have hs := compactF (P := Tryz.prog) Tryz.func89 (by kernel_rfl) Tryz.underlying3 Tryz.isAgg3 Tryz.sizeOf3 Tryz.zeroValue3 Tryz.underlying4 Tryz.isAgg4 Tryz.sizeOf4 Tryz.zeroValue4 Tryz.underlying74 Tryz.isAgg74 Tryz.sizeOf74 Tryz.zeroValue74
      2 Tryz.isAgg55 Tryz.sizeOf55 obE eqO 90 #[] gb 0 (cap + 1) d w (enters_of Tryz.func90 (by kernel_rfl) rfl) hcmp ⟨obE_len, obE_one, hH, hgs⟩ (by rw [d1]; omega) (by rw [d1]; exact q1')
      (fun kk => (Builtin.zeroCells #[.slice none 0 0, .int .i64 0] (d.size - kk)).toList) (fun W dk kk hS hdk hkk ty => by
        obtain ⟨q0, n, os, rfl⟩ := hS
        exact clear47 (heap_world (enc := obE) (W := redrawn w q0) hg) (by simp [putCells, q3]; omega) hkk)
    rw [d1] at hs
    refine hs.mono fun e w' he => ?_
    obtain ⟨rfl, dk, W, ⟨q0, n, os, hW⟩, hdk, hlow, hfin⟩ := he
    rw [← d1] at hlow hfin ⊢
    obtain ⟨L, hL⟩ : ∃ L, L = upB eqO d d.size := ⟨_, rfl⟩
    rw [← hL] at hlow hfin ⊢
    have hLb : L.map (fun x => x.1.1) = b := by
      rw [hL, upB_cmp d d.size (Nat.le_refl _), d2, d1, List.take_length, hbl]
    have hLlen : L.length = b.length := by rw [← hLb, List.length_map]
    have hbll : b.length ≤ l.length := by rw [hbl]; exact cmpO_le l
    have hWg : W.heap[gb]? = some (.cells (putCells id 0 (flatK obE 2 dk) cur) 55 (0, 0)) := by rw [hW]; exact heap_world (W := redrawn w q0) hg
    have hkW : Kp [gb] w W := by
      have k1 : Kp [gb] (redrawn w q0) (sortWorldK obE 2 (redrawn w q0) gb 0 n dk os) := kp_world
      rw [hW]
      exact ⟨k1.os, k1.tape, k1.output, k1.size, k1.block⟩
    have hFs : (flatK obE 2 dk).size = l.length * 2 := by rw [size_flatK, hdk]
    obtain ⟨F, hF1, hF2, hF3, hF4⟩ : ∃ F : Array Value, w'.heap[gb]? = some (.cells F 55 (0, 0)) ∧ F.size = (cap + 1) * 2 ∧ F.toList.take (b.length * 2) = (flatK obE 2 dk).toList.take (b.length * 2) ∧ Kp [gb] w w' := by
      have ht := take_put (F := flatK obE 2 dk) (cur := cur) (by rw [hFs, q3]; omega)
      have ht2 : (putCells id 0 (flatK obE 2 dk) cur).toList.take (b.length * 2) = (flatK obE 2 dk).toList.take (b.length * 2) := by
        rw [← ht, List.take_take, Nat.min_eq_left (by rw [hFs]; omega)]
      rcases hfin with rfl | rfl
      · exact ⟨_, hWg, by simp [putCells, q3], ht2, hkW⟩
      · refine ⟨_, heap_setCells _ _ _ _ hWg, by simp [putCells, q3], ?_, Kp.trans hkW (kp_setCells _ _ _) fun x hx _ => hx⟩
        rw [← ht2]
        apply List.ext_getElem?
        intro j
        by_cases hj : j < b.length * 2
        · rw [List.getElem?_take_of_lt hj, List.getElem?_take_of_lt hj, Array.getElem?_toList, Array.getElem?_toList]
          have hjs : j < (putCells id 0 (flatK obE 2 dk) cur).size := by simp [putCells, q3]; omega
          have := get_setMany ((Builtin.zeroCells #[.slice none 0 0, .int .i64 0] (d.size - L.length)).toList) (0 + L.length * 2) _ j hjs
          rw [if_neg (by omega), getElem!_pos _ j (by simpa using hjs), getElem!_pos _ j hjs] at this
          rw [Array.getElem?_eq_getElem (by simpa using hjs), Array.getElem?_eq_getElem hjs, this]
        · rw [List.getElem?_take_eq_none (by omega), List.getElem?_take_eq_none (by omega)]
    have hdl : flatK obE 2 L.toArray = ((flatK obE 2 dk).toList.take (b.length * 2)).toArray := by
      refine ext_get! (by simp [hLlen, hFs]; omega) fun t ht => ?_
      have ht : t < L.length * 2 := by simpa using ht
      rw [get_flatK _ _ _ t (by simpa using ht)]
      have e1 : (L.toArray)[t / 2]! = dk[t / 2]! := by
        have := hlow (t / 2) (by omega)
        rw [getElem!_pos _ (t / 2) (by simp; omega)]
        rw [List.getElem?_eq_getElem (by omega)] at this
        simpa using Option.some.inj this
      have e2 : (((flatK obE 2 dk).toList.take (b.length * 2)).toArray)[t]! = (flatK obE 2 dk)[t]! := by
        rw [getElem!_pos _ t (by simp [hFs]; omega), getElem!_pos _ t (by rw [hFs]; omega)]
        simp
      rw [e1, e2, get_flatK _ _ _ t (by rw [hdk]; omega)]
    obtain ⟨r1, r2⟩ := row47' L.toArray b (by simpa using hLb)
    rw [hdl] at r1 r2
    refine fin w' _ rfl ⟨(flatK obE 2 dk).toList.take (b.length * 2), ⟨by simpa using r1, .inr ⟨gb, cap, F, by rw [hLlen], hF1, by omega, q2, hF2, hF3⟩⟩, fun i hi => by simpa using r2 i hi⟩ hF4
theorem gv89 : Gv89 := fun g b hb => gv89a g.2.1 b hb
end Go.Proofs.YtghilkcphindjaaGreat
end
noncomputable section
set_option maxRecDepth 100000
namespace Go.Proofs.YtghilkcphindjaaGreat
open Go Go.Iv
open Go.IntKind (i64 u64)
abbrev E92 : Type := List Int
def d92 : Td 0 E92 := .c [] [2] (.t (TurnOk.s 2 [] 3) (.c [] [2] (.r 0 1 (ec 2 (qo 0) en) (sr 0 3 sn) (fun z => z.2.1) (fun x => (((), ()), (x, ()))) fun _ => rfl)))
def A92 := (lc (ql 3) ln)
def m92 (a0 : List Int) : Option E92 := if a0.length ≤ 1073741824 then some a0 else none
theorem fa92 : FnAn Tryz.prog or0 0 300 92 .no := fnAn_of (l := []) Tryz.func92 (bodyOf_eq (by kernel_rfl)) (by kernel_rfl) ob_nil
theorem ca92 (x : Int) (xs : List Int) : callR Tryz.prog or0 300 .no 92 [.sl 3 (x :: xs)] [] 0 d92.rd = if ([] ++ (x :: xs)).length ≤ 1073741824 then some ([] ++ (x :: xs)) else none := by kernel_rfl
theorem cb92 (c : Nat) : callR Tryz.prog or0 300 .no 92 [.lit (.slice none 0 c)] [] 0 d92.rd = some [] := by kernel_rfl
theorem cc92 (a : Addr) (c : Nat) : callR Tryz.prog or0 300 .no 92 [.lit (.slice (some a) 0 c)] [] 0 d92.rd = some [] := by kernel_rfl
theorem h92 : HL Tryz.prog 92 A92 d92 (fun g => m92 g.1) := fun g r h => by
 obtain ⟨a0, _⟩ := g
 have h : m92 a0 = some r := h
 cases a0 with
 | cons x xs => exact (fnY_of (out := fun p => outY Tryz.prog 92 0 (d92.pat p)) (p := r) or0_g fa92 d92.ok (fun p => by kernel_rfl) (ltd_of (by kernel_rfl)) (rltd_of (by kernel_rfl)) ((ca92 x xs).trans (by rw [List.nil_append]; exact h))).2
 | nil =>
  cases h
  exact fnY_nil (fun c => (fnY_of (out := fun p => outY Tryz.prog 92 0 (d92.pat p)) (p := []) or0_g fa92 d92.ok (fun p => by kernel_rfl) (ltd_of (by kernel_rfl)) (rltd_of (by kernel_rfl)) (cb92 c)).2) (fun a c => (fnY_of (out := fun p => outY Tryz.prog 92 0 (d92.pat p)) (p := []) or0_g fa92 d92.ok (fun p => by kernel_rfl) (ltd_of (by kernel_rfl)) (rltd_of (by kernel_rfl)) (cc92 a c)).2)
def e92 : Orc → Orc := eL Tryz.prog 92 false A92 d92 (fun g => m92 g.1)
theorem e92_ok {F : Orc} (h : OrcG Tryz.prog F) : OrcG Tryz.prog (e92 F) := eL_ok (sc := scU) scU_ok h92 ⟨_, Tryz.func92, by kernel_rfl, by kernel_rfl⟩ (fun _ => by kernel_rfl) (fun _ => by kernel_rfl) h
def B12 : Orc := e178 (e134 (e184 (e145 (e148 (e117 (e210 (e151 (e292 (e89 (e92 or0))))))))))
theorem B12_ok : OrcG Tryz.prog B12 := e178_ok (e134_ok (e184_ok (e145_ok (e148_ok (e117_ok (e210_ok (e151_ok (e292_ok (e89_okv gv89 (e92_ok or0_g))))))))))
theorem t12 : callN Tryz.prog B12 (fun f => Nat.beq f 178 || Nat.beq f 134 || Nat.beq f 184 || Nat.beq f 145 || Nat.beq f 148 || Nat.beq f 117 || Nat.beq f 210 || Nat.beq f 151 || Nat.beq f 292 || Nat.beq f 89 || Nat.beq f 92) 300 60 Bool 12 [] [] 0 (kRes asB) = some true := by kernel_rfl
abbrev E12 : Type := Bool
def d12 : Td 0 E12 := .c [] [0] (.r 0 0 (ec 0 qb en) sn (fun z => z.1.1) (fun x => ((x, ()), (()))) fun _ => rfl)
def A12 := ln
def m12 : E12 := true
def Gv12 : Prop := HL Tryz.prog 12 A12 d12 (fun _ => some m12)
def e12 : Orc → Orc := eL Tryz.prog 12 false A12 d12 (fun _ => some m12)
theorem e12_okv (hv : Gv12) {F : Orc} (h : OrcG Tryz.prog F) : OrcG Tryz.prog (e12 F) := eL_ok (sc := scU) scU_ok hv ⟨_, Tryz.func12, by kernel_rfl, by kernel_rfl⟩ (fun _ => by kernel_rfl) (fun _ => by kernel_rfl) h
theorem e12_pure {F : Orc} {f : Nat} (h : PureF F f) : PureF (e12 F) f := orL_pure h (fun _ => by kernel_rfl)
theorem fnY_ofFn12 {P : Program} {f : FuncId} {xs : List AV} {d : AV} (h : Iv.Fn P f xs [] (fun a s => a = d ∧ s = [])) (ha : ∀ ρ : Gh, xs.map (AVq.sub ρ) = xs) (hd : ∀ ρ : Gh, d.sub ρ = d) : FnY P f xs [] 0 ⟨d, [], 0⟩ := fun ρ => by
 rw [ha ρ]
 exact h.mono fun a s ⟨h1, h2⟩ => ⟨ρ, fun _ _ => ⟨rfl, rfl⟩, by rw [h1]; exact (hd ρ).symm, by rw [h2]; exact List.Perm.refl _⟩
theorem o12_eq : outY Tryz.prog 12 0 (d12.pat m12) = ⟨.b true, [], 0⟩ := by kernel_rfl
theorem gv12 : Gv12 := fun g b hb => by
 cases hb
 rw [o12_eq]
 exact fnY_ofFn12 (fn_run (callN_ok (P := Tryz.prog) B12_ok.ok B12_ok.nat 300 60) P0.b rfl (fun d hd => by cases hd) t12).2 (fun _ => rfl) (fun ρ => cloB_sub 2 (by kernel_rfl))
abbrev E3 : Type := Bool
def d3 : Td 0 E3 := .c [] [2] (.r 0 0 (ec 2 qb en) sn (fun z => z.1.1) (fun x => ((x, ()), (()))) fun _ => rfl)
def A3 := (lc (qg 26) ln)
def m3 (a0 : Flat) : Option E3 :=
 bif bif m12 then false else true then some (false) else match m13 a0 (20) (200) with | none => none | some r1 => bif bif r1 then false else true then some (true) else match m14 a0 with | none => none | some r2 => match m15 a0 with | none => none | some r3 => bif bif decide (r3 = 0) then false else true then match bif decide (r2.snd = r3) then some (decide ((↑r2.fst.length : Int) = 0)) else some (false) with | none => none | some r4 => some (r4) else match m16 a0 with | none => none | some r5 => match bif decide (r2.snd = 0) then match m17 r2.fst r5.fst with | none => none | some r6 => some (r6) else some (false) with | none => none | some r7 => some (r7)
abbrev E6 : Type := Bool
def d6 : Td 0 E6 := .c [] [6] (.r 0 0 (ec 6 qb en) sn (fun z => z.1.1) (fun x => ((x, ()), (()))) fun _ => rfl)
def F7 : Orc := (e32 (e31 (e29 (e27 (e19 (e16 (e15 (e13 (e12 or0)))))))))
theorem F7_ok : OrcG Tryz.prog F7 := (e32_ok (e31_ok (e29_ok (e27_ok (e19_ok (e16_ok (e15_ok (e13_ok (e12_okv gv12 or0_g)))))))))
abbrev E7 : Type := Bool
def d7 : Td 0 E7 := .c [] [4] (.r 0 0 (ec 4 qb en) sn (fun z => z.1.1) (fun x => ((x, ()), (()))) fun _ => rfl)
def A7 := (lc (qg 26) (lc (ql 4) ln))
def an7 : An := (.two .no (.two .no (.two (.two (.rb [13] 27) .no) (.two .no (.two .no (.two .no (.two (.two .no (.two (.two (.rb [13] 4) .no) .no)) .no)))))))
theorem pu7  : ∀ f ∈ ([13] : List Nat), PureF (F7) f := (ob_cons (e32_pure (e31_skip (f := 13) rfl (e29_pure (e27_skip (f := 13) rfl (e19_skip (f := 13) rfl (e16_skip (f := 13) rfl (e15_pure (e13_pure (e12_pure or0_pure))))))))) ob_nil)
theorem fa7 : FnAn Tryz.prog (F7) 0 300 7 (an7) := fnAn_of (l := [(.skip, (.rb [13] 27)), (.skip, (.rb [13] 4))]) Tryz.func7 (bodyOf_eq (by kernel_rfl)) (by kernel_rfl) (ob_cons pu7 (ob_cons pu7 ob_nil))
def m7 (a0 : Flat) (a1 : List Bool) : Option E7 :=
 bif bif m12 then false else true then some (false) else match match m13 a0 (20) (200) with | none => none | some r1 => bif bif r1 then false else true then some (true) else some (decide (60 < (↑a1.length : Int))) with | none => none | some r2 => bif r2 then some (true) else match m31 a0 a1 with | none => none | some r3 => match m15 a0 with | none => none | some r4 => bif decide (r4 = 0) then match m16 a0 with | none => none | some r5 => bif bif decide (r5.snd.fst = (↑a1.length : Int)) then false else true then match bif decide (r3.snd.snd = 2) then bif decide ((↑r3.fst.length : Int) = 0) then some (decide ((↑r3.snd.fst.length : Int) = 0)) else some (false) else some (false) with | none => none | some r6 => some (r6) else match m19 a0 a1 with | none => none | some r7 => bif bif r7.snd then false else true then match bif decide (r3.snd.snd = 3) then bif decide ((↑r3.fst.length : Int) = 0) then some (decide ((↑r3.snd.fst.length : Int) = 0)) else some (false) else some (false) with | none => none | some r8 => some (r8) else bif bif decide (r4 = 0) then false else true then match bif decide (r3.snd.snd = r4) then bif decide ((↑r3.fst.length : Int) = 0) then some (decide ((↑r3.snd.fst.length : Int) = 0)) else some (false) else some (false) with | none => none | some r9 => some (r9) else match m19 a0 a1 with | none => none | some r10 => match m27 a0 r3.fst r3.snd.fst with | none => none | some r11 => bif decide (r3.snd.snd = 0) then if ([] ++ r3.fst).length ≤ 1073741824 then if ([] ++ r3.fst ++ r3.snd.fst).length ≤ 1073741824 then match m32 ([] ++ r3.fst ++ r3.snd.fst) r10.fst with | none => none | some r12 => bif r12 then bif decide (r11.snd = 0) then match m29 r11.fst a1 with | none => none | some r13 => some (r13) else some (false) else some (false) else none else none else some (false) else bif bif decide (r4 = 0) then false else true then match bif decide (r3.snd.snd = r4) then bif decide ((↑r3.fst.length : Int) = 0) then some (decide ((↑r3.snd.fst.length : Int) = 0)) else some (false) else some (false) with | none => none | some r14 => some (r14) else match m19 a0 a1 with | none => none | some r15 => match m27 a0 r3.fst r3.snd.fst with | none => none | some r16 => bif decide (r3.snd.snd = 0) then if ([] ++ r3.fst).length ≤ 1073741824 then if ([] ++ r3.fst ++ r3.snd.fst).length ≤ 1073741824 then match m32 ([] ++ r3.fst ++ r3.snd.fst) r15.fst with | none => none | some r17 => bif r17 then bif decide (r16.snd = 0) then match m29 r16.fst a1 with | none => none | some r18 => some (r18) else some (false) else some (false) else none else none else some (false)
theorem c7 (a0 : Flat) (a1 : List Bool) : callR Tryz.prog (F7) 300 (an7) 7 (A7.c (a0, a1, ())) [] 0 d7.rd = m7 a0 a1 := by kernel_rfl
theorem h7 : HL Tryz.prog 7 A7 d7 (fun g => m7 g.1 g.2.1) := (hl_of F7_ok fa7 (fun _ => by kernel_rfl) (fun _ => by kernel_rfl) fun g => c7 g.1 g.2.1)
theorem m7_true (f : Flat) (bits : List Bool) : m7 f bits = some true := by
  have h12 : m12 = true := rfl
  unfold m7
  rw [h12, m13_eq f 20 200 (by omega) (by omega) (by omega) (by omega)]
  by_cases hf : few f 20 200 = true
  · by_cases hb : (60 : Int) < (bits.length : Int)
    · simp only [hf, hb, decide_true, cond_true, cond_false]
    · obtain ⟨r3, e3, e4, g1, g2⟩ := law7 f hf bits (by omega)
      by_cases hc : chk f = 0
      · obtain ⟨r5, e5, k1, k2⟩ := g2 hc
        by_cases hn : r5.2.1 = (bits.length : Int)
        · obtain ⟨r7, e7, j1, j2⟩ := k2 hn
          cases hq : r7.2 with
          | false =>
            have hr := j1 hq
            simp only [hf, hb, e3, e4, hc, e5, hn, e7, hq, hr, decide_true, decide_false, cond_true, cond_false, List.length_nil, Int.ofNat_zero]
          | true =>
            obtain ⟨y1, y2, y3, y4, y5, y6⟩ := j2 hq
            have c1 : (r3.1 ++ r3.2.1).length ≤ 1073741824 := by rw [y2]; omega
            have c2 : r3.1.length ≤ 1073741824 := by rw [List.length_append] at c1; omega
            simp only [hf, hb, e3, e4, hc, e5, hn, e7, hq, y1, y4, y5, y6, c1, c2, List.nil_append, decide_true, decide_false, cond_true, cond_false, if_true]
        · have hr := k1 hn
          simp only [hf, hb, e3, e4, hc, e5, hn, hr, decide_true, decide_false, cond_true, cond_false, List.length_nil, Int.ofNat_zero]
      · have hr := g1 hc
        simp only [hf, hb, e3, e4, hc, hr, decide_true, decide_false, cond_true, cond_false, List.length_nil, Int.ofNat_zero]
  · simp only [eq_false_of_ne_true hf, cond_true, cond_false]
end Go.Proofs.YtghilkcphindjaaGreat
end
noncomputable section
namespace Go.Iv
variable [U : Uni]
open Go Go.RowKit Go.Deep Go.ChangeShapes Go.WideShapes Go.Joins
theorem fn_law {P : Program} {f : FuncId} {args : List AV} (h : Iv.Fn P f args [] (fun a s => a = .b true ∧ s = [])) {A : Nat → Prop} {w : World} {vs : List Value} (hr : RelL A w args vs) :
  Calls P f vs.toArray w fun e w' => ∃ v, e = .returned v ∧ v = .bool true ∧ Below w.heap.size w w' :=
 (h w A vs hr ⟨fun r hr => by simp at hr, fun b hb => by simp [blks] at hb⟩ (by simp [blks])).mono fun e w' ⟨v, av, σ', h1, ⟨h2, h3⟩, h4, h5⟩ => by
  subst h2
  exact ⟨v, h1, h5.litEq, h4.kp.below⟩
abbrev anyB : Nat → Prop := fun _ => True
def Opn {α : Type} {H : Type} (enc : TypeId × Value → H) (P : Program) (w : World) (t : TypeId) (c : α → List AV) (ok : α → Prop) : Prop :=
 ∀ (base : Nat) (fuel : Nat) (cs : List Value) (x : DataW H × List MemPlace), DataW.trod enc P w base (fun _ => true) true fuel t cs = some x → ∃ a, ok a ∧ RelL anyB w (c a) cs
section
variable {α : Type} {H : Type} {enc : TypeId × Value → H} {P : Program} {w : World} {t e : TypeId}
theorem Opn.int {k : IntKind} (ht : P.underlying t = some (.int k)) : Opn enc P w t (cN k) (fun n => (Lit.int k n).wf = true) := fun base fuel cs x h => by
 obtain ⟨n, rfl, _, hw⟩ := DataW.trod_int ht h
 exact ⟨n, hw, RelL.cons (.lit _) RelL.nil⟩
theorem Opn.bool (ht : P.underlying t = some .bool) : Opn enc P w t cB (fun _ => True) := fun base fuel cs x h => by
 obtain ⟨b, rfl, _⟩ := DataW.trod_bool ht h
 exact ⟨b, trivial, RelL.cons (.lit _) RelL.nil⟩
theorem Opn.slice {ok : U.Dat e → Prop} {sz : Nat} (ht : P.underlying t = some (.slice e)) (hc : P.cellsOf e = sz + 1) (hs : U.sz e = sz + 1) (he : Opn enc P w e (U.cells e) ok) :
    Opn enc P w t (fun l : List (U.Dat e) => [.sl e l]) (fun l => l.length ≤ 9223372036854775807 ∧ ∀ a ∈ l, ok a) := fun base fuel cs x h => by
  rcases open_slice ht h with ⟨rfl, _⟩ | ⟨a, len, cp, m, n, D, Pl, hcs, hb, hl, hm, hmm, _, hx⟩
  · refine ⟨[], ⟨by simp, by simp⟩, RelL.cons ?_ RelL.nil⟩
    exact .sl e ([] : List (U.Dat e)) none 0 (fun _ _ => default) (by simp) (by simp) (fun i hi => by simp at hi) (fun i hi => by simp at hi) (fun i j a hi => by simp at hi)
  · subst hcs
    have hmm : m = cp := by rw [hmm]; rfl
    rw [hc] at hx
    have hmx : cp ≤ 9223372036854775807 := by unfold maxLen at hm; omega
    obtain ⟨CS, hCS⟩ := choose_lt (α := List Value × U.Dat e) (p := fun i y => w.cells? base (a.add (i * (sz + 1))) (sz + 1) = some y.1 ∧ ok y.2 ∧ RelL anyB w (U.cells e y.2) y.1) (n := len) (fun i hi => by
      obtain ⟨cs', h1, h2⟩ := hx i (by omega)
      obtain ⟨y, h3, h4⟩ := he _ _ _ _ h2
      exact ⟨(cs', y), h1, h3, h4⟩)
    obtain ⟨l, hld⟩ : ∃ l : List (U.Dat e), l = (List.range len).map fun i => (CS i).2 := ⟨_, rfl⟩
    have hln : l.length = len := by rw [hld]; simp
    have hget : ∀ i, i < len → l[i]! = (CS i).2 := fun i hi => by
      rw [getElem!_pos l i (by omega)]; simp [hld]
    refine ⟨l, ⟨by omega, fun y hy => ?_⟩, RelL.cons ?_ RelL.nil⟩
    · rw [hld, List.mem_map] at hy
      obtain ⟨i, hi, rfl⟩ := hy
      exact (hCS i (by simpa using hi)).2.1
    · rw [← hln]
      refine .sl e l (some a) cp (fun i j => (CS i).1[j]!) (by omega) (by omega) (fun i hi => ?_) (fun i hi => ?_) (fun i j av hi hj => ?_)
      · rw [hln] at hi
        obtain ⟨h1, _, h3⟩ := hCS i hi
        obtain ⟨_, h5, _⟩ := World.cells?_some h1
        rw [hget i hi, ← h3.1, h5, hs]
      · rw [hln] at hi
        obtain ⟨h1, _, h3⟩ := hCS i hi
        obtain ⟨_, h5, h6⟩ := World.cells?_some h1
        have hj : ∀ j, j < sz + 1 → w.cell? ((a.add (i * (sz + 1))).add j) = some (CS i).1[j]! := fun j hj => by
          rw [h6 j hj, getElem!_pos _ j (by omega), List.getElem?_eq_getElem (by omega)]
        obtain ⟨b, off, spot⟩ := a
        have hs : spot = none := by
          obtain ⟨g1, _, _⟩ := hCS 0 (by omega)
          obtain ⟨_, g5, g6⟩ := World.cells?_some g1
          have := World.cell?_spot (v := (CS 0).1[0]!) (w := w) (a := ((⟨b, off, spot⟩ : Addr).add (0 * (sz + 1))).add 0) (by rw [g6 0 (by omega), getElem!_pos _ 0 (by omega), List.getElem?_eq_getElem (by omega)])
          simpa [Addr.add] using this
        subst hs
        have hj' : ∀ j, j < sz + 1 → w.cell? ⟨b, off + i * (sz + 1) + j, none⟩ = some (CS i).1[j]! := fun j hlt => by
          have := hj j hlt
          have ap : ∀ o i : Nat, (⟨b, o, none⟩ : Addr).add i = ⟨b, o + i, none⟩ := fun o i => by
            unfold Addr.add
            split
            · rename_i h0; simp only [h0, Nat.add_zero]
            · rfl
          rw [ap, ap] at this
          exact this
        exact ⟨b, off, rfl, World.block_lt_of_cell? w _ (hj' 0 (by omega)), trivial, by rw [hs]; exact hj'⟩
      · rw [hln] at hi
        rw [hget i hi] at hj
        obtain ⟨h1, _, h3⟩ := hCS i hi
        obtain ⟨v, q1, q2⟩ := h3.get hj
        show Rel anyB w av (CS i).1[j]!
        obtain ⟨q3, q4⟩ := List.getElem?_eq_some_iff.1 q1
        rw [getElem!_pos _ j q3, q4]
        exact q2
theorem Opn.one {c : α → AV} {ok : α → Prop} {v : Value} {d : DataW H} {p : List MemPlace} (he : Opn enc P w t (fun a => [c a]) ok) (hv : v.cells = #[v]) (h : DataW.Trod enc P w 0 (fun _ => true) true t v d p) : ∃ a, ok a ∧ Rel anyB w (c a) v := by
 obtain ⟨fuel, hf⟩ := h
 rw [hv] at hf
 obtain ⟨a, h1, h2⟩ := he _ _ _ _ hf
 exact ⟨a, h1, h2.2 0 _ _ rfl rfl⟩
theorem Opn.agg {c : α → List AV} {ok : α → Prop} {v : Value} {cs : Array Value} {d : DataW H} {p : List MemPlace} (he : Opn enc P w t c ok) (hv : v = .agg cs) (h : DataW.Trod enc P w 0 (fun _ => true) true t v d p) : ∃ a, ok a ∧ Rel anyB w (.agg (c a)) v := by
 obtain ⟨fuel, hf⟩ := h
 subst hv
 obtain ⟨l⟩ := cs
 obtain ⟨a, h1, h2⟩ := he _ _ _ _ hf
 exact ⟨a, h1, Rel.aggL h2⟩
end
theorem FnY.law [L : UniL] {P : Program} {f : FuncId} {args : List AV} {x : Out} (h : FnY P f args [] 0 x) (hx : x = ⟨.b true, [], 0⟩) (ha : args.all (cloB 2) = true) : Iv.Fn P f args [] (fun a s => a = .b true ∧ s = []) := by
 subst hx
 have h1 := h ⟨fun _ => undef, fun _ => 0⟩
 have : args.map (AVq.sub ⟨fun _ => undef, fun _ => 0⟩) = args.map id := List.map_congr_left fun c hcm => cloB_sub 2 (List.all_eq_true.1 ha c hcm)
 rw [this, List.map_id] at h1
 exact h1.mono fun a s ⟨ρ', _, e1, e2⟩ => ⟨by rw [e1]; exact cloB_sub 2 rfl, List.Perm.eq_nil e2⟩
theorem relSplit {A : Nat → Prop} {w : World} {xs bs : List AV} {us : List Value} {n : Nat} (h : RelL A w xs (us.take n)) (h' : RelL A w bs (us.drop n)) : RelL A w (xs ++ bs) us := by
 have := h.app h'
 rwa [List.take_append_drop] at this
def OpnB (B : Nat) {α : Type} {H : Type} (enc : TypeId × Value → H) (P : Program) (w : World) (t : TypeId) (c : α → List AV) (ok : α → Prop) : Prop :=
 ∀ (base : Nat) (fuel : Nat), fuel < B → ∀ (cs : List Value) (x : DataW H × List MemPlace), DataW.trod enc P w base (fun _ => true) true fuel t cs = some x → ∃ a, ok a ∧ RelL anyB w (c a) cs
section
variable {α : Type} {H : Type} {enc : TypeId × Value → H} {P : Program} {w : World} {t e : TypeId}
theorem Opn.ofB {c : α → List AV} {ok : α → Prop} (h : ∀ B, OpnB B enc P w t c ok) : Opn enc P w t c ok := fun base fuel cs x hx => h (fuel + 1) base fuel (Nat.lt_succ_self _) cs x hx
theorem Opn.str (ht : P.underlying t = some .string) : Opn enc P w t (fun s => [.s s]) (fun _ => True) := fun base fuel cs x h => by
 obtain ⟨b, rfl, _⟩ := DataW.trod_string ht h
 exact ⟨b, trivial, RelL.cons (.lit _) RelL.nil⟩
theorem Opn.any {c : α → List AV} {ok : α → Prop} (h : Opn enc P w t c ok) : Opn enc P w t c (fun _ => True) := fun base fuel cs x hx => by
 obtain ⟨a, _, r⟩ := h base fuel cs x hx
 exact ⟨a, trivial, r⟩
theorem OpnB.slice {B : Nat} {ok : U.Dat e → Prop} {sz : Nat} (ht : P.underlying t = some (.slice e)) (hc : P.cellsOf e = sz + 1) (hs : U.sz e = sz + 1) (he : OpnB B enc P w e (U.cells e) ok) :
    OpnB B enc P w t (fun l : List (U.Dat e) => [.sl e l]) (fun l => l.length ≤ 9223372036854775807 ∧ ∀ a ∈ l, ok a) := fun base fuel hB cs x h => by
  rcases DataW.trod_slice ht h with ⟨rfl, _⟩ | ⟨a, len, cp, elems, rest, n, hfu, hcs, _, hb, hl, hm, hlen, hx, _, _⟩
  · refine ⟨[], ⟨by simp, by simp⟩, RelL.cons ?_ RelL.nil⟩
    exact .sl e ([] : List (U.Dat e)) none 0 (fun _ _ => default) (by simp) (by simp) (fun i hi => by simp at hi) (fun i hi => by simp at hi) (fun i j a hi => by simp at hi)
  · subst hcs
    rw [hc] at hx
    have hmx : cp ≤ 9223372036854775807 := by unfold maxLen at hm; omega
    obtain ⟨CS, hCS⟩ := choose_lt (α := List Value × U.Dat e) (p := fun i y => w.cells? base (a.add (i * (sz + 1))) (sz + 1) = some y.1 ∧ ok y.2 ∧ RelL anyB w (U.cells e y.2) y.1) (n := len) (fun i hi => by
      have hk := hx i hi
      rw [List.getElem?_eq_getElem (show i < elems.length by omega)] at hk
      obtain ⟨cs', h1, h2⟩ := Option.bind_eq_some_iff.1 hk
      obtain ⟨y, h3, h4⟩ := he _ n (by omega) _ _ h2
      exact ⟨(cs', y), h1, h3, h4⟩)
    obtain ⟨l, hld⟩ : ∃ l : List (U.Dat e), l = (List.range len).map fun i => (CS i).2 := ⟨_, rfl⟩
    have hln : l.length = len := by rw [hld]; simp
    have hget : ∀ i, i < len → l[i]! = (CS i).2 := fun i hi => by
      rw [getElem!_pos l i (by omega)]; simp [hld]
    refine ⟨l, ⟨by omega, fun y hy => ?_⟩, RelL.cons ?_ RelL.nil⟩
    · rw [hld, List.mem_map] at hy
      obtain ⟨i, hi, rfl⟩ := hy
      exact (hCS i (by simpa using hi)).2.1
    · rw [← hln]
      refine .sl e l (some a) cp (fun i j => (CS i).1[j]!) (by omega) (by omega) (fun i hi => ?_) (fun i hi => ?_) (fun i j av hi hj => ?_)
      · rw [hln] at hi
        obtain ⟨h1, _, h3⟩ := hCS i hi
        obtain ⟨_, h5, _⟩ := World.cells?_some h1
        rw [hget i hi, ← h3.1, h5, hs]
      · rw [hln] at hi
        obtain ⟨h1, _, h3⟩ := hCS i hi
        obtain ⟨_, h5, h6⟩ := World.cells?_some h1
        have hj : ∀ j, j < sz + 1 → w.cell? ((a.add (i * (sz + 1))).add j) = some (CS i).1[j]! := fun j hj => by
          rw [h6 j hj, getElem!_pos _ j (by omega), List.getElem?_eq_getElem (by omega)]
        obtain ⟨b, off, spot⟩ := a
        have hs : spot = none := by
          obtain ⟨g1, _, _⟩ := hCS 0 (by omega)
          obtain ⟨_, g5, g6⟩ := World.cells?_some g1
          have := World.cell?_spot (v := (CS 0).1[0]!) (w := w) (a := ((⟨b, off, spot⟩ : Addr).add (0 * (sz + 1))).add 0) (by rw [g6 0 (by omega), getElem!_pos _ 0 (by omega), List.getElem?_eq_getElem (by omega)])
          simpa [Addr.add] using this
        subst hs
        have hj' : ∀ j, j < sz + 1 → w.cell? ⟨b, off + i * (sz + 1) + j, none⟩ = some (CS i).1[j]! := fun j hlt => by
          have := hj j hlt
          have ap : ∀ o i : Nat, (⟨b, o, none⟩ : Addr).add i = ⟨b, o + i, none⟩ := fun o i => by
            unfold Addr.add
            split
            · rename_i h0; simp only [h0, Nat.add_zero]
            · rfl
          rw [ap, ap] at this
          exact this
        exact ⟨b, off, rfl, World.block_lt_of_cell? w _ (hj' 0 (by omega)), trivial, by rw [hs]; exact hj'⟩
      · rw [hln] at hi
        rw [hget i hi] at hj
        obtain ⟨h1, _, h3⟩ := hCS i hi
        obtain ⟨v, q1, q2⟩ := h3.get hj
        show Rel anyB w av (CS i).1[j]!
        obtain ⟨q3, q4⟩ := List.getElem?_eq_some_iff.1 q1
        rw [getElem!_pos _ j q3, q4]
        exact q2
end
end Go.Iv
end
noncomputable section
set_option maxRecDepth 100000
namespace Go.Proofs.YtghilkcphindjaaGreat
open Go Go.Iv Go.RowKit Go.Deep Go.ChangeShapes Go.WideShapes Go.Joins
section
variable {H : Type} {enc : TypeId × Value → H} {w : World}
theorem og9 : Opn enc Tryz.prog w 9 (fun s => [.s s]) (fun _ => True) := Opn.str Tryz.underlying9
theorem og65 : Opn enc Tryz.prog w 65 (cN .i64) (fun _ => True) := (Opn.int Tryz.underlying65).any
theorem og3 : Opn enc Tryz.prog w 3 (cN .i64) (fun _ => True) := (Opn.int Tryz.underlying3).any
theorem og108 : Opn enc Tryz.prog w 108 (uni.cells 108) (fun _ => True) := fun base fuel cs x h => by
 obtain ⟨xs, n, hfu, rfl, hl, hlen, hf⟩ := DataW.trod_struct Tryz.underlying108 h
 rw [show Tryz.prog.cellsOf 108 = 5 from by kernel_rfl] at hl
 have hlen : xs.length = 5 := hlen
 have f0 : DataW.trod enc Tryz.prog w base (fun _ => true) true n 9 ((cs.drop 0).take (Tryz.prog.cellsOf 9)) = xs[0]? := hf 0 _ rfl
 rw [show Tryz.prog.cellsOf 9 = 1 from by kernel_rfl, List.getElem?_eq_getElem (show 0 < xs.length by omega)] at f0
 obtain ⟨a0, _, r0⟩ := og9 _ _ _ _ f0
 have f1 : DataW.trod enc Tryz.prog w base (fun _ => true) true n 65 ((cs.drop 1).take (Tryz.prog.cellsOf 65)) = xs[1]? := hf 1 _ rfl
 rw [show Tryz.prog.cellsOf 65 = 1 from by kernel_rfl, List.getElem?_eq_getElem (show 1 < xs.length by omega)] at f1
 obtain ⟨a1, _, r1⟩ := og65 _ _ _ _ f1
 have f2 : DataW.trod enc Tryz.prog w base (fun _ => true) true n 3 ((cs.drop 2).take (Tryz.prog.cellsOf 3)) = xs[2]? := hf 2 _ rfl
 rw [show Tryz.prog.cellsOf 3 = 1 from by kernel_rfl, List.getElem?_eq_getElem (show 2 < xs.length by omega)] at f2
 obtain ⟨a2, _, r2⟩ := og3 _ _ _ _ f2
 have f3 : DataW.trod enc Tryz.prog w base (fun _ => true) true n 3 ((cs.drop 3).take (Tryz.prog.cellsOf 3)) = xs[3]? := hf 3 _ rfl
 rw [show Tryz.prog.cellsOf 3 = 1 from by kernel_rfl, List.getElem?_eq_getElem (show 3 < xs.length by omega)] at f3
 obtain ⟨a3, _, r3⟩ := og3 _ _ _ _ f3
 have f4 : DataW.trod enc Tryz.prog w base (fun _ => true) true n 3 ((cs.drop 4).take (Tryz.prog.cellsOf 3)) = xs[4]? := hf 4 _ rfl
 rw [show Tryz.prog.cellsOf 3 = 1 from by kernel_rfl, List.getElem?_eq_getElem (show 4 < xs.length by omega)] at f4
 obtain ⟨a4, _, r4⟩ := og3 _ _ _ _ f4
 have e : RelL anyB w [] (cs.drop 5) := by rw [List.drop_of_length_le (by omega)]; exact RelL.nil
 have s4 := relSplit (us := cs.drop 4) r4 (by rw [List.drop_drop]; exact e)
 have s3 := relSplit (us := cs.drop 3) r3 (by rw [List.drop_drop]; exact s4)
 have s2 := relSplit (us := cs.drop 2) r2 (by rw [List.drop_drop]; exact s3)
 have s1 := relSplit (us := cs.drop 1) r1 (by rw [List.drop_drop]; exact s2)
 have s0 := relSplit (us := cs.drop 0) r0 (by rw [List.drop_drop]; exact s1)
 exact ⟨(⟨a0, a1, a2, a3, a4⟩ : GVar), trivial, s0⟩
theorem og22 : Opn enc Tryz.prog w 22 (fun l : List (uni.Dat 108) => [.sl 108 l]) (fun l => l.length ≤ 9223372036854775807 ∧ ∀ a ∈ l, True) := Opn.slice (e := 108) (sz := 4) Tryz.underlying22 (by kernel_rfl) rfl og108
theorem og103 : Opn enc Tryz.prog w 103 (cN .i64) (fun _ => True) := (Opn.int Tryz.underlying103).any
theorem ogB106 : ∀ B, OpnB B enc Tryz.prog w 106 (uni.cells 106) (fun _ => True)
 | 0 => fun base fuel hB => absurd hB (Nat.not_lt_zero _)
 | B + 1 => fun base fuel hB cs x h => by
  have ih := ogB106 B
  obtain ⟨xs, n, hfu, rfl, hl, hlen, hf⟩ := DataW.trod_struct Tryz.underlying106 h
  rw [show Tryz.prog.cellsOf 106 = 3 from by kernel_rfl] at hl
  have hlen : xs.length = 3 := hlen
  have f0 : DataW.trod enc Tryz.prog w base (fun _ => true) true n 103 ((cs.drop 0).take (Tryz.prog.cellsOf 103)) = xs[0]? := hf 0 _ rfl
  rw [show Tryz.prog.cellsOf 103 = 1 from by kernel_rfl, List.getElem?_eq_getElem (show 0 < xs.length by omega)] at f0
  obtain ⟨a0, _, r0⟩ := og103 _ _ _ _ f0
  have f1 : DataW.trod enc Tryz.prog w base (fun _ => true) true n 3 ((cs.drop 1).take (Tryz.prog.cellsOf 3)) = xs[1]? := hf 1 _ rfl
  rw [show Tryz.prog.cellsOf 3 = 1 from by kernel_rfl, List.getElem?_eq_getElem (show 1 < xs.length by omega)] at f1
  obtain ⟨a1, _, r1⟩ := og3 _ _ _ _ f1
  have f2 : DataW.trod enc Tryz.prog w base (fun _ => true) true n 104 ((cs.drop 2).take (Tryz.prog.cellsOf 104)) = xs[2]? := hf 2 _ rfl
  rw [show Tryz.prog.cellsOf 104 = 1 from by kernel_rfl, List.getElem?_eq_getElem (show 2 < xs.length by omega)] at f2
  obtain ⟨a2, _, r2⟩ := OpnB.slice (t := 104) (e := 106) (sz := 2) Tryz.underlying104 (by kernel_rfl) rfl ih base n (by omega) _ _ f2
  have e : RelL anyB w [] (cs.drop 3) := by rw [List.drop_of_length_le (by omega)]; exact RelL.nil
  have s2 := relSplit (us := cs.drop 2) r2 (by rw [List.drop_drop]; exact e)
  have s1 := relSplit (us := cs.drop 1) r1 (by rw [List.drop_drop]; exact s2)
  have s0 := relSplit (us := cs.drop 0) r0 (by rw [List.drop_drop]; exact s1)
  exact ⟨(⟨a0, a1, a2⟩ : GTerm), trivial, s0⟩
theorem og106 : Opn enc Tryz.prog w 106 (uni.cells 106) (fun _ => True) := Opn.ofB ogB106
theorem og116 : Opn enc Tryz.prog w 116 (uni.cells 116) (fun _ => True) := fun base fuel cs x h => by
 obtain ⟨xs, n, hfu, rfl, hl, hlen, hf⟩ := DataW.trod_struct Tryz.underlying116 h
 rw [show Tryz.prog.cellsOf 116 = 6 from by kernel_rfl] at hl
 have hlen : xs.length = 4 := hlen
 have f0 : DataW.trod enc Tryz.prog w base (fun _ => true) true n 9 ((cs.drop 0).take (Tryz.prog.cellsOf 9)) = xs[0]? := hf 0 _ rfl
 rw [show Tryz.prog.cellsOf 9 = 1 from by kernel_rfl, List.getElem?_eq_getElem (show 0 < xs.length by omega)] at f0
 obtain ⟨a0, _, r0⟩ := og9 _ _ _ _ f0
 have f1 : DataW.trod enc Tryz.prog w base (fun _ => true) true n 3 ((cs.drop 1).take (Tryz.prog.cellsOf 3)) = xs[1]? := hf 1 _ rfl
 rw [show Tryz.prog.cellsOf 3 = 1 from by kernel_rfl, List.getElem?_eq_getElem (show 1 < xs.length by omega)] at f1
 obtain ⟨a1, _, r1⟩ := og3 _ _ _ _ f1
 have f2 : DataW.trod enc Tryz.prog w base (fun _ => true) true n 3 ((cs.drop 2).take (Tryz.prog.cellsOf 3)) = xs[2]? := hf 2 _ rfl
 rw [show Tryz.prog.cellsOf 3 = 1 from by kernel_rfl, List.getElem?_eq_getElem (show 2 < xs.length by omega)] at f2
 obtain ⟨a2, _, r2⟩ := og3 _ _ _ _ f2
 have f3 : DataW.trod enc Tryz.prog w base (fun _ => true) true n 106 ((cs.drop 3).take (Tryz.prog.cellsOf 106)) = xs[3]? := hf 3 _ rfl
 rw [show Tryz.prog.cellsOf 106 = 3 from by kernel_rfl, List.getElem?_eq_getElem (show 3 < xs.length by omega)] at f3
 obtain ⟨a3, _, r3⟩ := og106 _ _ _ _ f3
 have e : RelL anyB w [] (cs.drop 6) := by rw [List.drop_of_length_le (by omega)]; exact RelL.nil
 have s3 := relSplit (us := cs.drop 3) r3 (by rw [List.drop_drop]; exact e)
 have s2 := relSplit (us := cs.drop 2) r2 (by rw [List.drop_drop]; exact s3)
 have s1 := relSplit (us := cs.drop 1) r1 (by rw [List.drop_drop]; exact s2)
 have s0 := relSplit (us := cs.drop 0) r0 (by rw [List.drop_drop]; exact s1)
 exact ⟨(⟨a0, a1, a2, a3⟩ : Hatch), trivial, s0⟩
theorem og23 : Opn enc Tryz.prog w 23 (fun l : List (uni.Dat 116) => [.sl 116 l]) (fun l => l.length ≤ 9223372036854775807 ∧ ∀ a ∈ l, True) := Opn.slice (e := 116) (sz := 5) Tryz.underlying23 (by kernel_rfl) rfl og116
theorem og109 : Opn enc Tryz.prog w 109 (cN .i64) (fun _ => True) := (Opn.int Tryz.underlying109).any
theorem og46 : Opn enc Tryz.prog w 46 (fun l : List (uni.Dat 3) => [.sl 3 l]) (fun l => l.length ≤ 9223372036854775807 ∧ ∀ a ∈ l, True) := Opn.slice (e := 3) (sz := 0) Tryz.underlying46 (by kernel_rfl) rfl og3
theorem ogB111 : ∀ B, OpnB B enc Tryz.prog w 111 (uni.cells 111) (fun _ => True)
 | 0 => fun base fuel hB => absurd hB (Nat.not_lt_zero _)
 | B + 1 => fun base fuel hB cs x h => by
  have ih := ogB111 B
  obtain ⟨xs, n, hfu, rfl, hl, hlen, hf⟩ := DataW.trod_struct Tryz.underlying111 h
  rw [show Tryz.prog.cellsOf 111 = 10 from by kernel_rfl] at hl
  have hlen : xs.length = 8 := hlen
  have f0 : DataW.trod enc Tryz.prog w base (fun _ => true) true n 109 ((cs.drop 0).take (Tryz.prog.cellsOf 109)) = xs[0]? := hf 0 _ rfl
  rw [show Tryz.prog.cellsOf 109 = 1 from by kernel_rfl, List.getElem?_eq_getElem (show 0 < xs.length by omega)] at f0
  obtain ⟨a0, _, r0⟩ := og109 _ _ _ _ f0
  have f1 : DataW.trod enc Tryz.prog w base (fun _ => true) true n 3 ((cs.drop 1).take (Tryz.prog.cellsOf 3)) = xs[1]? := hf 1 _ rfl
  rw [show Tryz.prog.cellsOf 3 = 1 from by kernel_rfl, List.getElem?_eq_getElem (show 1 < xs.length by omega)] at f1
  obtain ⟨a1, _, r1⟩ := og3 _ _ _ _ f1
  have f2 : DataW.trod enc Tryz.prog w base (fun _ => true) true n 3 ((cs.drop 2).take (Tryz.prog.cellsOf 3)) = xs[2]? := hf 2 _ rfl
  rw [show Tryz.prog.cellsOf 3 = 1 from by kernel_rfl, List.getElem?_eq_getElem (show 2 < xs.length by omega)] at f2
  obtain ⟨a2, _, r2⟩ := og3 _ _ _ _ f2
  have f3 : DataW.trod enc Tryz.prog w base (fun _ => true) true n 3 ((cs.drop 3).take (Tryz.prog.cellsOf 3)) = xs[3]? := hf 3 _ rfl
  rw [show Tryz.prog.cellsOf 3 = 1 from by kernel_rfl, List.getElem?_eq_getElem (show 3 < xs.length by omega)] at f3
  obtain ⟨a3, _, r3⟩ := og3 _ _ _ _ f3
  have f4 : DataW.trod enc Tryz.prog w base (fun _ => true) true n 106 ((cs.drop 4).take (Tryz.prog.cellsOf 106)) = xs[4]? := hf 4 _ rfl
  rw [show Tryz.prog.cellsOf 106 = 3 from by kernel_rfl, List.getElem?_eq_getElem (show 4 < xs.length by omega)] at f4
  obtain ⟨a4, _, r4⟩ := og106 _ _ _ _ f4
  have f5 : DataW.trod enc Tryz.prog w base (fun _ => true) true n 24 ((cs.drop 7).take (Tryz.prog.cellsOf 24)) = xs[5]? := hf 5 _ rfl
  rw [show Tryz.prog.cellsOf 24 = 1 from by kernel_rfl, List.getElem?_eq_getElem (show 5 < xs.length by omega)] at f5
  obtain ⟨a5, _, r5⟩ := OpnB.slice (t := 24) (e := 111) (sz := 9) Tryz.underlying24 (by kernel_rfl) rfl ih base n (by omega) _ _ f5
  have f6 : DataW.trod enc Tryz.prog w base (fun _ => true) true n 24 ((cs.drop 8).take (Tryz.prog.cellsOf 24)) = xs[6]? := hf 6 _ rfl
  rw [show Tryz.prog.cellsOf 24 = 1 from by kernel_rfl, List.getElem?_eq_getElem (show 6 < xs.length by omega)] at f6
  obtain ⟨a6, _, r6⟩ := OpnB.slice (t := 24) (e := 111) (sz := 9) Tryz.underlying24 (by kernel_rfl) rfl ih base n (by omega) _ _ f6
  have f7 : DataW.trod enc Tryz.prog w base (fun _ => true) true n 46 ((cs.drop 9).take (Tryz.prog.cellsOf 46)) = xs[7]? := hf 7 _ rfl
  rw [show Tryz.prog.cellsOf 46 = 1 from by kernel_rfl, List.getElem?_eq_getElem (show 7 < xs.length by omega)] at f7
  obtain ⟨a7, _, r7⟩ := og46 _ _ _ _ f7
  have e : RelL anyB w [] (cs.drop 10) := by rw [List.drop_of_length_le (by omega)]; exact RelL.nil
  have s7 := relSplit (us := cs.drop 9) r7 (by rw [List.drop_drop]; exact e)
  have s6 := relSplit (us := cs.drop 8) r6 (by rw [List.drop_drop]; exact s7)
  have s5 := relSplit (us := cs.drop 7) r5 (by rw [List.drop_drop]; exact s6)
  have s4 := relSplit (us := cs.drop 4) r4 (by rw [List.drop_drop]; exact s5)
  have s3 := relSplit (us := cs.drop 3) r3 (by rw [List.drop_drop]; exact s4)
  have s2 := relSplit (us := cs.drop 2) r2 (by rw [List.drop_drop]; exact s3)
  have s1 := relSplit (us := cs.drop 1) r1 (by rw [List.drop_drop]; exact s2)
  have s0 := relSplit (us := cs.drop 0) r0 (by rw [List.drop_drop]; exact s1)
  exact ⟨(⟨a0, a1, a2, a3, a4, a5, a6, a7⟩ : GStep), trivial, s0⟩
theorem og111 : Opn enc Tryz.prog w 111 (uni.cells 111) (fun _ => True) := Opn.ofB ogB111
theorem og24 : Opn enc Tryz.prog w 24 (fun l : List (uni.Dat 111) => [.sl 111 l]) (fun l => l.length ≤ 9223372036854775807 ∧ ∀ a ∈ l, True) := Opn.slice (e := 111) (sz := 9) Tryz.underlying24 (by kernel_rfl) rfl og111
theorem og26 : Opn enc Tryz.prog w 26 (uni.cells 26) (fun _ => True) := fun base fuel cs x h => by
 obtain ⟨xs, n, hfu, rfl, hl, hlen, hf⟩ := DataW.trod_struct Tryz.underlying26 h
 rw [show Tryz.prog.cellsOf 26 = 3 from by kernel_rfl] at hl
 have hlen : xs.length = 3 := hlen
 have f0 : DataW.trod enc Tryz.prog w base (fun _ => true) true n 22 ((cs.drop 0).take (Tryz.prog.cellsOf 22)) = xs[0]? := hf 0 _ rfl
 rw [show Tryz.prog.cellsOf 22 = 1 from by kernel_rfl, List.getElem?_eq_getElem (show 0 < xs.length by omega)] at f0
 obtain ⟨a0, _, r0⟩ := og22 _ _ _ _ f0
 have f1 : DataW.trod enc Tryz.prog w base (fun _ => true) true n 23 ((cs.drop 1).take (Tryz.prog.cellsOf 23)) = xs[1]? := hf 1 _ rfl
 rw [show Tryz.prog.cellsOf 23 = 1 from by kernel_rfl, List.getElem?_eq_getElem (show 1 < xs.length by omega)] at f1
 obtain ⟨a1, _, r1⟩ := og23 _ _ _ _ f1
 have f2 : DataW.trod enc Tryz.prog w base (fun _ => true) true n 24 ((cs.drop 2).take (Tryz.prog.cellsOf 24)) = xs[2]? := hf 2 _ rfl
 rw [show Tryz.prog.cellsOf 24 = 1 from by kernel_rfl, List.getElem?_eq_getElem (show 2 < xs.length by omega)] at f2
 obtain ⟨a2, _, r2⟩ := og24 _ _ _ _ f2
 have e : RelL anyB w [] (cs.drop 3) := by rw [List.drop_of_length_le (by omega)]; exact RelL.nil
 have s2 := relSplit (us := cs.drop 2) r2 (by rw [List.drop_drop]; exact e)
 have s1 := relSplit (us := cs.drop 1) r1 (by rw [List.drop_drop]; exact s2)
 have s0 := relSplit (us := cs.drop 0) r0 (by rw [List.drop_drop]; exact s1)
 exact ⟨(⟨a0, a1, a2⟩ : Flat), trivial, s0⟩
theorem og4 : Opn enc Tryz.prog w 4 cB (fun _ => True) := Opn.bool Tryz.underlying4
theorem og45 : Opn enc Tryz.prog w 45 (fun l : List (uni.Dat 4) => [.sl 4 l]) (fun l => l.length ≤ 9223372036854775807 ∧ ∀ a ∈ l, True) := Opn.slice (e := 4) (sz := 0) Tryz.underlying45 (by kernel_rfl) rfl og4
end
end Go.Proofs.YtghilkcphindjaaGreat
end
noncomputable section
set_option maxRecDepth 100000
namespace Go.Proofs.YtghilkcphindjaaGreat
open Go Go.Iv
open Go.IntKind (i64 u64)
theorem o7_eq : outY Tryz.prog 7 0 (d7.pat true) = ⟨.b true, [], 0⟩ := by kernel_rfl
theorem claw7 (f : Flat) (b : List Bool) : Iv.Fn Tryz.prog 7 [.agg (uni.cells 26 f), .sl 4 b] [] (fun a s => a = .b true ∧ s = []) := (h7 (f, b, ()) true (m7_true f b)).law o7_eq (by kernel_rfl)
end Go.Proofs.YtghilkcphindjaaGreat
end
