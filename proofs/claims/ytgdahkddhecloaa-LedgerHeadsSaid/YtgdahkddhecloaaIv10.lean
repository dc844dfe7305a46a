/- append(s, make([]T, n)...): zeros behind an own slice. Program-independent. -/
import Derived.Test.YtgdahkddhecloaaIv5
import Derived.Lib.AppendZerosOnto
set_option linter.unusedSectionVars false
set_option linter.unusedVariables false
set_option linter.unusedSimpArgs false
namespace Go.Iv
variable [U : Uni]
open Go Go.RowKit

theorem zeroCells_list {zs : List Value} {sz : Nat} (hsz : zs.length = sz) (nn : Nat) : (Builtin.zeroCells zs.toArray nn).toList = (List.replicate nn zs).flatten := by
  apply List.ext_getElem?
  intro j
  have hfl : (List.replicate nn zs).flatten.length = nn * sz := by simp [hsz]
  have hq : ∀ (q : Nat) (j : Nat), j < q * sz → (List.replicate q zs).flatten[j]? = zs[j % sz]? := by
    intro q
    induction q with
    | zero => intro j hj; simp at hj
    | succ q ih =>
      intro j hj
      rw [List.replicate_succ, List.flatten_cons, List.getElem?_append]
      split
      · rename_i h; rw [hsz] at h; rw [Nat.mod_eq_of_lt h]
      · rename_i h
        rw [hsz] at h
        rw [hsz, ih _ (by rw [Nat.succ_mul] at hj; omega), Nat.mod_eq_sub_mod (by omega : sz ≤ j)]
  by_cases hj : j < nn * sz
  · rw [hq nn j hj]
    have h0 : 0 < sz := by
      rcases Nat.eq_zero_or_pos sz with h | h
      · rw [h] at hj; omega
      · exact h
    have hlt : j % sz < zs.length := by rw [hsz]; exact Nat.mod_lt _ h0
    rw [List.getElem?_eq_getElem hlt]
    simp [Builtin.zeroCells, hsz, hj, List.getElem?_eq_getElem hlt]
  · rw [List.getElem?_eq_none (l := (List.replicate nn zs).flatten) (by rw [hfl]; omega), List.getElem?_eq_none]
    simp [Builtin.zeroCells, hsz]; omega

theorem run_append_rowz {P : Program} {w : World} {T tn ty e : TypeId} {kn : IntKind} {i : TypeInfo} {zz v : Value} {sz by' nn mm : Nat} {us : List Value} (ht : P.underlying T = some (.slice e)) (htn : P.underlying tn = some (.int kn)) (hi : P.info? e = some i) (hz : i.zero = some zz) (hs : i.size = sz) (hby : i.bytes = by') (hzs : zz.cells.size = sz) (hpos : 0 < sz)
    (hrow : RowIs w v e sz nn us) (h1 : ∀ u ∈ (Builtin.zeroCells zz.cells mm).toList, u.oneCell' = true) (h63 : nn + mm ≤ maxLen) (hb : (nn + mm) * by' ≤ 140737488355328) :
    ∃ v' w', (Builtin.append_ #[T, tn] ty #[v, .int .i64 mm]).run P w = .ok v' w' ∧ RowIs w' v' e sz (nn + mm) (us ++ (Builtin.zeroCells zz.cells mm).toList) ∧ Kp (rblk v).toList w w' ∧ (rblk v' = rblk v ∨ rblk v' = some w.heap.size) := by
  subst hs hby
  have h63' : ((nn + mm : Nat) : Int) ≤ 9223372036854775807 := by unfold maxLen at h63; omega
  have hw : IntKind.i64.wrap (mm : Int) = mm := by rw [IntKind.wrap_i64]; omega
  have hneg : ¬ ((mm : Int) < 0) := by omega
  have hmb : mm * i.bytes ≤ 140737488355328 := Nat.le_trans (Nat.mul_le_mul_right _ (by omega)) hb
  have h48i : ¬ (281474976710656 < (mm : Int) * (i.bytes : Int)) := by rw [← Int.natCast_mul]; omega
  have hzl : (Builtin.zeroCells zz.cells mm).toList.length = mm * i.size := by rw [Array.length_toList, size_zeroCells, hzs]
  by_cases hm : mm = 0
  · subst hm
    obtain ⟨q, cap, rfl, hcap⟩ := hrow.len
    have hrun : (Builtin.append_ #[T, tn] ty #[.slice q nn cap, .int .i64 (0 : Nat)]).run P w = .ok (.slice q nn cap) w := by
      cases q <;> simp [Builtin.append_, run_underlying ht, run_underlying htn, sizeOf, typeInfo, hi, asInt, asIntOf, hw, hcap, storeCells, IntKind.wrap_i64]
    exact ⟨_, w, hrun, by simpa [Builtin.zeroCells] using hrow, Kp.refl _ _, .inl rfl⟩
  · have hfit : ∀ old, Builtin.nextslicecap (nn + mm) old * i.bytes ≤ 281474976710656 ∨ ¬ old < nn + mm := fun old => by
      by_cases h : old < nn + mm
      · exact .inl (growslice_fits (by omega) hb)
      · exact .inr h
    have grown : ∀ (olds : List Value) (old : Nat), olds.length = nn * i.size → old < nn + mm → us = olds →
        RowIs (w.drew.alloc (.cells (olds.toArray ++ Builtin.zeroCells zz.cells mm ++ Builtin.zeroCells zz.cells (grownCap w (nn + mm) old e - (nn + mm))) e)) (.slice (some ⟨w.heap.size, 0, none⟩) (nn + mm) (grownCap w (nn + mm) old e)) e i.size (nn + mm) (us ++ (Builtin.zeroCells zz.cells mm).toList) := by
      intro olds old hol hlt hus
      subst hus
      have hge := grownCap_ge w (nn + mm) old e
      have hcm := grownCap_le_maxLen w (nn + mm) old e h63
      obtain ⟨ck, hck⟩ : ∃ ck, grownCap w (nn + mm) old e = ck + 1 := ⟨grownCap w (nn + mm) old e - 1, by omega⟩
      refine ⟨by rw [List.length_append, hol, hzl, Nat.add_mul], .inr ⟨w.heap.size, ck, _, by rw [hck], heap_alloc_new w.drew _, by omega, by omega, ?_, ?_⟩⟩
      · rw [← hck]
        simp only [Array.size_append, List.size_toArray, size_zeroCells, hzs, hol, ← Nat.add_mul]
        congr 1
        omega
      · simp only [Array.toList_append]
        rw [show (nn + mm) * i.size = (us ++ (Builtin.zeroCells zz.cells mm).toList).length from by rw [List.length_append, hol, hzl, Nat.add_mul]]
        exact List.take_left
    have grow : ∀ (base : Option Addr) (old : Nat), (Builtin.firstCells i.size nn (.slice base nn old)).run P w.drew = .ok us.toArray w.drew → us.length = nn * i.size → old < nn + mm →
        ∃ v' w', (Builtin.append_ #[T, tn] ty #[.slice base nn old, .int .i64 mm]).run P w = .ok v' w' ∧ RowIs w' v' e i.size (nn + mm) (us ++ (Builtin.zeroCells zz.cells mm).toList) ∧ Kp [] w w' ∧ rblk v' = some w.heap.size := fun base old hf hul hlt => by
      have hr := Lib.run_append_grow_zeros (P := P) w T tn ty e i zz .i64 kn ht htn hi hz base nn old us hf mm (by omega) hpos hlt h63' (by omega) ((hfit old).resolve_right (by omega))
      refine ⟨_, _, hr, grown us old hul hlt rfl, ⟨rfl, rfl, rfl, by simp, fun k hk _ => heap_alloc_old w.drew _ hk⟩, ?_⟩
      have hge := grownCap_ge w (nn + mm) old e
      obtain ⟨ck, hck⟩ : ∃ ck, grownCap w (nn + mm) old e = ck + 1 := ⟨grownCap w (nn + mm) old e - 1, by omega⟩
      rw [hck]; rfl
    rcases hrow.2 with ⟨q, rfl, rfl⟩ | ⟨g, cap, cur, rfl, hg, hnc, hcm, hcs, htake⟩
    · have hu : us = [] := List.eq_nil_of_length_eq_zero (by simpa using hrow.1)
      subst hu
      obtain ⟨v', w', r1, r2, r3, r4⟩ := grow q 0 (by cases q <;> simp [Builtin.firstCells, loadCells, loadCellsFrom]) (by simp) (by omega)
      exact ⟨v', w', r1, r2, ⟨r3.os, r3.tape, r3.output, r3.size, fun k hk _ => r3.block k hk (by simp)⟩, .inr r4⟩
    · by_cases hroom : nn + mm ≤ cap + 1
      · have hcl : nn * i.size + (Builtin.zeroCells zz.cells mm).toList.length ≤ cur.size := by rw [hzl, hcs, ← Nat.add_mul]; exact Nat.mul_le_mul_right _ hroom
        have hst := run_storeCells_at P g (nn * i.size) e (Builtin.zeroCells zz.cells mm).toList 0 cur w hg (by simpa using hcl) h1
        simp only [Nat.add_zero] at hst
        have hns : ¬ (mm * i.size = 0) := Nat.mul_ne_zero hm (by omega)
        have hr : (Builtin.append_ #[T, tn] ty #[.slice (some ⟨g, 0, none⟩) nn (cap + 1), .int .i64 mm]).run P w = .ok (.slice (some ⟨g, 0, none⟩) (nn + mm) (cap + 1)) (w.setRow g (cur.toList.take (nn * i.size) ++ (Builtin.zeroCells zz.cells mm).toList ++ cur.toList.drop (nn * i.size + (Builtin.zeroCells zz.cells mm).toList.length)).toArray) := by
          simp [Builtin.append_, run_underlying ht, run_underlying htn, sizeOf, typeInfo, zeroValue, hi, hz, asInt, asIntOf, hw, hneg, hns, h48i, hroom, Addr.add_lit, hst]
        refine ⟨_, _, hr, ⟨by rw [List.length_append, hrow.1, hzl, Nat.add_mul], .inr ⟨g, cap, _, rfl, setRow_heap w g cur _ e _ hg, hroom, hcm, ?_, ?_⟩⟩, kp_setRow w g _, .inl rfl⟩
        · simp only [List.size_toArray, List.length_append, List.length_take, List.length_drop, Array.length_toList] at hcl ⊢
          omega
        · rw [htake, show (nn + mm) * i.size = (us ++ (Builtin.zeroCells zz.cells mm).toList).length from by rw [List.length_append, hrow.1, hzl, Nat.add_mul]]
          exact List.take_left
      · have holds : ∀ j v, us[j]? = some v → w.cell? ((⟨g, 0, none⟩ : Addr).add j) = some v := fun j v hj => by
          rw [add0, Nat.zero_add]; exact hrow.cells rfl j v hj
        obtain ⟨v', w', r1, r2, r3, r4⟩ := grow (some ⟨g, 0, none⟩) (cap + 1) (run_firstCells_some (P := P) w.drew i.size nn ⟨g, 0, none⟩ nn (cap + 1) us hrow.1 (by simpa using holds)) hrow.1 (by omega)
        exact ⟨v', w', r1, r2, ⟨r3.os, r3.tape, r3.output, r3.size, fun k hk _ => r3.block k hk (by simp)⟩, .inr r4⟩

theorem relL_zeros {A : Nat → Prop} {w : World} {q : Nat} {d : U.Dat q} {zs : List Value} (hd : ∀ A w, RelL A w (U.cells q d) zs) : ∀ n, RelL A w ((List.replicate n d).flatMap (U.cells q)) (List.replicate n zs).flatten
  | 0 => RelL.nil
  | n + 1 => by
    rw [List.replicate_succ, List.replicate_succ, List.flatMap_cons, List.flatten_cons]
    exact (hd A w).app (relL_zeros hd n)

section
variable {P : Program} {C : Cx} {E : Env} {σ : List Res} {o : Oper} {x y : Operand} {T tn e : TypeId} {v : Value}
theorem Yv.appz {by' : Nat} {kn : IntKind} {l : List (U.Dat e)} {zs : List Value} {m : Int} (i : Nat) (d : U.Dat e) (ho : o.op = .call { callee := .builtin .append, args := #[x, y], argTypes := #[T, tn] }) (hx : E.ev x = some (.lit v)) (hσ : σ[i]? = some (.row v e l)) (hy : E.ev y = some (.i m)) (hT : P.underlying T = some (.slice e)) (htn : P.underlying tn = some (.int kn)) (hs : (P.info? e).map (fun i => (i.size, i.bytes)) = some ((U.sz e), by')) (hz : zerosOf P e = some zs) (hzl : zs.length = (U.sz e)) (hpos : 0 < (U.sz e)) (hb : Nat.ble by' 4096 = true)
    (hd : ∀ A w, RelL A w (U.cells e d) zs) (hone : zs.all Value.oneCell' = true) (hlen : 0 ≤ m ∧ (l ++ List.replicate m.toNat d).length ≤ 1073741824) : Yv P E σ o C (Option.toList (rblk v)) (fun a σ' => ∃ v', a = .lit v' ∧ σ' = σ.set i (.row v' e (l ++ List.replicate m.toNat d))) := fun w ρ hg hρ => by
  obtain ⟨it, hit, hz1⟩ := Option.bind_eq_some_iff.1 hz
  obtain ⟨zv, hz2, hz3⟩ := Option.map_eq_some_iff.1 hz1
  obtain ⟨ie, hie, hse⟩ := Option.map_eq_some_iff.1 hs
  have hee : it = ie := by rw [hit] at hie; exact Option.some.inj hie
  subst hee
  simp only [Prod.mk.injEq] at hse
  obtain ⟨s1, s2⟩ := hse
  have hby : by' ≤ 4096 := by simpa using hb
  obtain ⟨us, g1, g2, g3⟩ := row_flat (hg.res _ (List.mem_of_getElem? hσ))
  have hx' := (hρ _ _ hx).litEq
  have hy' := (hρ _ _ hy).litEq
  obtain ⟨mm, rfl⟩ : ∃ mm : Nat, m = mm := ⟨m.toNat, by omega⟩
  rw [Int.toNat_natCast] at hlen ⊢
  obtain ⟨_, hlen⟩ := hlen
  rw [List.length_append, List.length_replicate] at hlen
  have hbytes : (l.length + mm) * by' ≤ 140737488355328 := by
    have : (l.length + mm) * by' ≤ 1073741824 * 4096 := Nat.mul_le_mul hlen hby
    omega
  have hzc : zv.cells = zs.toArray := by rw [← hz3]
  have hzt : (Builtin.zeroCells zv.cells mm).toList = (List.replicate mm zs).flatten := by rw [hzc]; exact zeroCells_list hzl mm
  obtain ⟨v', w', r1, r2, r3, r4⟩ := run_append_rowz (P := P) (T := T) (tn := tn) (ty := o.type) hT htn hit hz2 s1 s2 (by rw [hzc, List.size_toArray, hzl]) hpos g1 (mm := mm) (by
    rw [hzt]
    intro u hu
    obtain ⟨q, hq, hu⟩ := List.mem_flatten.1 hu
    rw [List.eq_of_mem_replicate hq] at hu
    exact List.all_eq_true.1 hone u hu) (by unfold maxLen; omega) hbytes
  rw [hzt] at r2
  refine ⟨v', w', _, _, ⟨v', rfl, rfl⟩, tr_upd (r := .row v e l) hg hσ r3 r4 (row_ok (by rw [List.length_append, List.length_replicate]; exact r2) (unif_app g2 (fun j hj => ?_)) ?_), ?_, .lit _⟩
  · rw [List.length_replicate] at hj
    rw [getElem!_pos _ j (by simpa using hj), List.getElem_replicate, ← (hd (fun _ => True) w).1, hzl]
  · rw [List.flatMap_append]
    refine RelL.app (g3.mono fun b hb hA => ⟨⟨hA.1, fun hx => ?_⟩, r3.block b hb (fun hx => hA.2 (mem_blks.2 ⟨_, List.mem_of_getElem? hσ, by simpa [Res.blk] using hx⟩))⟩) (relL_zeros hd mm)
    obtain ⟨s, hs1, hs2⟩ := mem_blks.1 hx
    rcases List.mem_or_eq_of_mem_set hs1 with h | h
    · exact hA.2 (mem_blks.2 ⟨s, h, hs2⟩)
    · rw [h] at hs2
      rcases r4 with r4 | r4
      · exact hA.2 (mem_blks.2 ⟨_, List.mem_of_getElem? hσ, by rw [← hs2]; exact r4.symm⟩)
      · have hs2' : rblk v' = some b := hs2
        rw [r4] at hs2'
        cases hs2'
        omega
  · simp [execOp, ho, resolve, invoke, builtin, hx', hy', r1]
end
end Go.Iv
