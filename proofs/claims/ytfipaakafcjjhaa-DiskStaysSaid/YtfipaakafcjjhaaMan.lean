/- disk.Read: it ranges over slices.Backward. By hand. -/
import Derived.Test.YtfipaakafcjjhaaG0
import Derived.Test.YtfipaakafcjjhaaBk
set_option linter.unusedSectionVars false
set_option linter.unusedVariables false
set_option linter.unusedSimpArgs false
namespace Go.Proofs.Ytfipaakafcjjhaa
open Go Go.RowKit Go.Ab Go.Proofs

theorem find_some (l : List Write) (q : Write → Bool) (i : Nat) (hi : i < l.length) (h1 : ∀ j, j < i → q l[l.length - 1 - j]! = false) (h2 : q l[l.length - 1 - i]! = true) : l.reverse.find? q = some l[l.length - 1 - i]! := by
  rw [List.find?_eq_some_iff_getElem]
  refine ⟨h2, i, by simpa using hi, ?_, fun j hj => ?_⟩
  · rw [List.getElem_reverse, getElem!_pos l _ (by omega)]
  · have := h1 j hj
    rw [getElem!_pos l _ (by omega)] at this
    rw [List.getElem_reverse, this]; rfl
theorem find_none (l : List Write) (q : Write → Bool) (h1 : ∀ j, j < l.length → q l[l.length - 1 - j]! = false) : l.reverse.find? q = none := by
  rw [List.find?_eq_none]
  intro x hx
  rw [List.mem_reverse] at hx
  obtain ⟨k, hk, rfl⟩ := List.getElem_of_mem hx
  have := h1 (l.length - 1 - k) (by omega)
  rw [show l.length - 1 - (l.length - 1 - k) = k from by omega, getElem!_pos l _ hk] at this
  simp [this]

theorem ok38 : fnOk Try.prog 38 := ⟨_, Try.func38, by kernel_rfl, rfl⟩
theorem zerb29 : (Try.prog.info? 29).bind (fun i => i.zero.map (·.cells)) = some ([.slice none 0 0] : List Value).toArray := by kernel_rfl
theorem zerb33 : (Try.prog.info? 33).bind (fun i => i.zero.map (·.cells)) = some ([.int .i64 0] : List Value).toArray := by kernel_rfl
theorem one33 : isOne Try.prog 33 := ⟨_, Try.underlying33, trivial⟩
theorem sz33 : (Try.prog.info? 33).map (·.size) = some 1 := by kernel_rfl

theorem m38_ok (p0 : List Write) : Ab.Fn Try.prog 38 [.sl 2 Write.cells p0] [] (fun a s => a = .fn (.func 52) [.fp [.sl 2 Write.cells p0]] ∧ s = []) := by
  refine Ab.Fn.of Try.func38 rfl rfl rfl (fun C => ?_)
  refine CW.seq ?_
  refine CW.region ?_
  refine RW.v rfl rfl rfl (Yv.box rfl rfl (Pw.p rfl)) ?_
  rintro _ _ ⟨b1, rfl, rfl⟩
  refine RW.p rfl rfl rfl (Yp.assign rfl rfl) ?_
  refine RW.nil ?_
  refine CW.seq ?_
  refine CW.region ?_
  refine RW.p rfl rfl rfl (Yp.func rfl rfl rfl) ?_
  refine RW.p rfl rfl rfl (Yp.assign rfl rfl) ?_
  refine RW.nil ?_
  refine CW.frz 0 2 rfl rfl (Vw.fn (VwL.cons (Vw.box 0 rfl) VwL.nil)) ?_
  refine CW.ret ?_
  exact fin1 (.inr rfl) rfl (ResIs.tmp rfl) (List.nil_sublist _) ⟨rfl, rfl⟩

def m17 (p0 : Disk) (p1 : Int) : Option (List Int × Int) :=
  (m13 p0).bind fun x1 =>
  if (!x1) = true then some ([], 1)
  else if (decide (p1 < 0) || decide ((p0.fDurable.length : Int) ≤ p1)) = true then some ([], 3)
  else if p0.fDown = true then some ([], 17)
  else if p0.fPending.all (fun w => (m39 w.fData).isSome) = true then
    match p0.fPending.reverse.find? (fun w => decide (w.fAt = p1)) with
    | some w => (m39 w.fData).bind fun x => some (x, 0)
    | none => (m39 p0.fDurable[p1.toNat]!).bind fun x => some (x, 0)
  else none

set_option maxHeartbeats 2000000 in
theorem m17_ok (p0 : Disk) (p1 : Int) {r : List Int × Int} (hm : m17 p0 p1 = some r) : Ab.Fn Try.prog 17 [.agg [.sl 1 (cL 1 (cN .u8)) p0.fDurable, .sl 2 Write.cells p0.fPending, .i p0.fLeft, .b p0.fDown], .i p1] [] (fun a s => a = .tup [.sl 1 (cN .u8) r.1, .i r.2] ∧ s = []) := by
  rw [m17] at hm
  refine Ab.Fn.of Try.func17 rfl rfl rfl (fun C => ?_)
  refine CW.seq ?_
  refine CW.region ?_
  refine RW.v rfl rfl rfl (Yv.box rfl rfl (Pw.p rfl)) ?_
  rintro _ _ ⟨b1, rfl, rfl⟩
  refine RW.v rfl rfl rfl (Yv.box rfl rfl (Pw.p rfl)) ?_
  rintro _ _ ⟨b2, rfl, rfl⟩
  refine RW.v rfl rfl rfl (Yv.alloc rfl zerb29) ?_
  rintro _ _ ⟨b3, rfl, rfl⟩
  refine RW.v rfl rfl rfl (Yv.alloc rfl zerb33) ?_
  rintro _ _ ⟨b4, rfl, rfl⟩
  refine RW.nil ?_
  obtain ⟨x1, hx1, hm⟩ := bnd hm
  refine CW.seq ?_
  refine CW.block ?_
  refine CW.seq ?_
  refine CW.region ?_
  refine RW.p rfl rfl rfl (Yp.loadBN 3 rfl rfl rfl many26 (Nat.le_of_ble_eq_true rfl)) ?_
  refine RW.c rfl rfl rfl (Yc.fnV (σp := []) (args' := [.agg [.sl 1 (cL 1 (cN .u8)) p0.fDurable, .sl 2 Write.cells p0.fPending, .i p0.fLeft, .b p0.fDown]]) rfl rfl ok13 rfl rfl rfl (VwL.id _) (m13_ok p0 hx1)) ?_
  rintro _ _ ⟨_, ⟨rfl, rfl⟩, rfl⟩
  refine RW.p rfl rfl rfl (Yp.not rfl rfl) ?_
  refine RW.p rfl rfl rfl (Yp.assign rfl rfl) ?_
  refine RW.nil ?_
  refine CW.cond rfl (fun hb1 => ?_) (fun hb1 => ?_)
  · have hm := ift hm hb1
    refine CW.seq ?_
    refine CW.region ?_
    refine RW.u rfl rfl (Yu.storeB 1 rfl rfl rfl rfl sz29 (Pw.p rfl) rfl (Nat.le_of_ble_eq_true rfl)) ?_
    refine RW.u rfl rfl (Yu.storeB 0 rfl rfl rfl rfl sz33 (Pw.p rfl) rfl (Nat.le_of_ble_eq_true rfl)) ?_
    refine RW.nil ?_
    refine CW.sayB 1 rfl (VwL.cons (Vw.nil 1 (cN .u8)) VwL.nil) ?_
    refine CW.ret ?_
    cases hm
    exact fin2 (.inr rfl) rfl (ResIs.cell1 1 rfl rfl one29 rfl) (ResIs.cell1 0 rfl rfl one33 rfl) (List.nil_sublist _) ⟨rfl, rfl⟩
  have hm := iff' hm hb1
  refine CW.seq ?_
  refine CW.region ?_
  refine RW.p rfl rfl rfl (Yp.loadB1 2 rfl rfl rfl one3 rfl) ?_
  refine RW.p rfl rfl rfl (Yp.lss rfl rfl rfl) ?_
  refine RW.p rfl rfl rfl (Yp.move rfl rfl) ?_
  have fin3 : (decide (p1 < 0) || decide ((p0.fDurable.length : Int) ≤ p1)) = true → some (([] : List Int), (3 : Int)) = some r := fun h => ift hm h
  rcases Bool.eq_false_or_eq_true (decide (p1 < 0)) with hb2 | hb2
  · refine RW.eqv 15 rfl (congrArg AV.b hb2) ?_
    refine RW.skip rfl rfl rfl ?_
    refine RW.skip rfl rfl rfl ?_
    refine RW.skip rfl rfl rfl ?_
    refine RW.skip rfl rfl rfl ?_
    refine RW.skip rfl rfl rfl ?_
    refine RW.p rfl rfl rfl (Yp.pickT rfl rfl rfl) ?_
    refine RW.p rfl rfl rfl (Yp.assign rfl rfl) ?_
    refine RW.nil ?_
    refine CW.condT rfl ?_
    have hm := fin3 (by rw [hb2]; rfl)
    refine CW.seq ?_
    refine CW.region ?_
    refine RW.u rfl rfl (Yu.storeB 1 rfl rfl rfl rfl sz29 (Pw.p rfl) rfl (Nat.le_of_ble_eq_true rfl)) ?_
    refine RW.u rfl rfl (Yu.storeB 0 rfl rfl rfl rfl sz33 (Pw.p rfl) rfl (Nat.le_of_ble_eq_true rfl)) ?_
    refine RW.nil ?_
    refine CW.sayB 1 rfl (VwL.cons (Vw.nil 1 (cN .u8)) VwL.nil) ?_
    refine CW.ret ?_
    cases hm
    exact fin2 (.inr rfl) rfl (ResIs.cell1 1 rfl rfl one29 rfl) (ResIs.cell1 0 rfl rfl one33 rfl) (List.nil_sublist _) ⟨rfl, rfl⟩
  refine RW.eqv 15 rfl (congrArg AV.b hb2) ?_
  refine RW.p rfl rfl rfl (Yp.loadB1 2 rfl rfl rfl one3 rfl) ?_
  refine RW.p rfl rfl rfl (Yp.fieldP rfl rfl Try.underlying26 rfl sz23) ?_
  refine RW.p rfl rfl rfl (Yp.loadB1 3 rfl rfl rfl one23 rfl) ?_
  refine RW.p rfl rfl rfl (Yp.lenSl rfl rfl Try.underlying23) ?_
  refine RW.p rfl rfl rfl (Yp.geq rfl rfl rfl) ?_
  refine RW.p rfl rfl rfl (Yp.pickF rfl rfl rfl) ?_
  refine RW.p rfl rfl rfl (Yp.assign rfl rfl) ?_
  refine RW.nil ?_
  refine CW.cond rfl (fun hb3 => ?_) (fun hb3 => ?_)
  · have hm := fin3 (by rw [hb3]; simp)
    refine CW.seq ?_
    refine CW.region ?_
    refine RW.u rfl rfl (Yu.storeB 1 rfl rfl rfl rfl sz29 (Pw.p rfl) rfl (Nat.le_of_ble_eq_true rfl)) ?_
    refine RW.u rfl rfl (Yu.storeB 0 rfl rfl rfl rfl sz33 (Pw.p rfl) rfl (Nat.le_of_ble_eq_true rfl)) ?_
    refine RW.nil ?_
    refine CW.sayB 1 rfl (VwL.cons (Vw.nil 1 (cN .u8)) VwL.nil) ?_
    refine CW.ret ?_
    cases hm
    exact fin2 (.inr rfl) rfl (ResIs.cell1 1 rfl rfl one29 rfl) (ResIs.cell1 0 rfl rfl one33 rfl) (List.nil_sublist _) ⟨rfl, rfl⟩
  have hm := iff' hm (show (decide (p1 < 0) || decide ((p0.fDurable.length : Int) ≤ p1)) = false from by rw [hb2, hb3]; rfl)
  refine CW.seq ?_
  refine CW.region ?_
  refine RW.p rfl rfl rfl (Yp.fieldP rfl rfl Try.underlying26 rfl sz4) ?_
  refine RW.p rfl rfl rfl (Yp.loadB1 3 rfl rfl rfl one4 rfl) ?_
  refine RW.p rfl rfl rfl (Yp.assign rfl rfl) ?_
  refine RW.nil ?_
  refine CW.cond rfl (fun hb4 => ?_) (fun hb4 => ?_)
  · have hm := ift hm hb4
    refine CW.seq ?_
    refine CW.region ?_
    refine RW.u rfl rfl (Yu.storeB 1 rfl rfl rfl rfl sz29 (Pw.p rfl) rfl (Nat.le_of_ble_eq_true rfl)) ?_
    refine RW.u rfl rfl (Yu.storeB 0 rfl rfl rfl rfl sz33 (Pw.p rfl) rfl (Nat.le_of_ble_eq_true rfl)) ?_
    refine RW.nil ?_
    refine CW.sayB 1 rfl (VwL.cons (Vw.nil 1 (cN .u8)) VwL.nil) ?_
    refine CW.ret ?_
    cases hm
    exact fin2 (.inr rfl) rfl (ResIs.cell1 1 rfl rfl one29 rfl) (ResIs.cell1 0 rfl rfl one33 rfl) (List.nil_sublist _) ⟨rfl, rfl⟩
  have hm := iff' hm hb4
  obtain ⟨hall, hm⟩ := chk hm
  refine CW.skip ?_
  refine CW.seq ?_
  refine CW.seq ?_
  refine CW.region ?_
  refine RW.p rfl rfl rfl (Yp.fieldP rfl rfl Try.underlying26 rfl sz24) ?_
  refine RW.p rfl rfl rfl (Yp.loadB1 3 rfl rfl rfl one24 rfl) ?_
  refine RW.c rfl rfl rfl (Yc.fnV (σp := []) (args' := [.sl 2 Write.cells p0.fPending]) rfl rfl ok38 rfl rfl rfl (VwL.id _) (m38_ok p0.fPending)) ?_
  rintro _ _ ⟨_, ⟨rfl, rfl⟩, rfl⟩
  refine RW.nil ?_
  refine CW.block ?_
  have hN := backEs_len p0.fPending
  obtain ⟨it, hit⟩ : ∃ it : Nat → Write, it = fun i => p0.fPending[p0.fPending.length - 1 - i]! := ⟨_, rfl⟩
  have hes : ∀ i, i < (backEs p0.fPending).length → (backEs p0.fPending)[i]! = [.i ((p0.fPending.length : Int) - 1 - (i : Int)), .agg (Write.cells (it i))] := fun i hi => by rw [backEs_get _ (by omega), hit]
  refine CW.rf (gf := 52) (caps := [.fp [.sl 2 Write.cells p0.fPending]]) (es := backEs p0.fPending)
    (fun s => s = [.box b4 33 [.i 0], .box b3 29 [.lit (.slice none 0 0)], .box b2 3 [.i p1], .box b1 26 [.sl 1 (cL 1 (cN .u8)) p0.fDurable, .sl 2 Write.cells p0.fPending, .i p0.fLeft, .b p0.fDown]])
    (fun i s => ∃ x, m39 (it i).fData = some x ∧ s = [.box b4 33 [.i 0], .box b3 29 [.sl 1 (cN .u8) x], .box b2 3 [.i p1], .box b1 26 [.sl 1 (cL 1 (cN .u8)) p0.fDurable, .sl 2 Write.cells p0.fPending, .i p0.fLeft, .b p0.fDown]])
    (fun i => decide ((it i).fAt = p1))
    (fun i E s => ∃ b7, Sub [(2, .lit (.pointer (some ⟨b1, 0, none⟩))), (3, .lit (.pointer (some ⟨b2, 0, none⟩))), (4, .lit (.pointer (some ⟨b3, 0, none⟩))), (5, .lit (.pointer (some ⟨b4, 0, none⟩))), (7, .lit (.pointer (some ⟨b7, 0, none⟩)))] E ∧
      s = [.box b7 56 (Write.cells (it i)), .box b4 33 [.i 0], .box b3 29 [.lit (.slice none 0 0)], .box b2 3 [.i p1], .box b1 26 [.sl 1 (cL 1 (cN .u8)) p0.fDurable, .sl 2 Write.cells p0.fPending, .i p0.fLeft, .b p0.fDown]])
    rfl (enters_of Try.func52 (by kernel_rfl) rfl) (back_iter _) (fun i hi => by rw [hes i hi]; rfl) (by decide) rfl ?_ ?_ ?_ ?_
  · rintro C' i _ hi rfl
    rw [hes i hi]
    refine CWR.region rfl ?_
    refine RW.v rfl rfl rfl (Yv.alloc rfl zerb56) ?_
    rintro _ _ ⟨b7, rfl, rfl⟩
    refine RW.u rfl rfl (Yu.storeB 0 rfl rfl rfl rfl sz56 (Pw.p rfl) rfl (Nat.le_of_ble_eq_true rfl)) ?_
    refine RW.nil ?_
    exact ⟨rfl, ⟨b7, Sub.cons rfl (Sub.cons rfl (Sub.cons rfl (Sub.cons rfl (Sub.cons rfl Sub.nil)))), rfl⟩, _, rfl, List.sublist_cons_self _ _⟩
  · rintro C' i E1 _ hi ⟨b7, hs, rfl⟩
    refine CWR.weak ?_ hs
    refine CWR.block ?_
    refine CWR.seq ?_
    refine CWR.region rfl ?_
    refine RW.p rfl rfl rfl (Yp.fieldP rfl rfl Try.underlying56 rfl sz3) ?_
    refine RW.p rfl rfl rfl (Yp.loadB1 0 rfl rfl rfl one3 rfl) ?_
    refine RW.p rfl rfl rfl (Yp.loadB1 3 rfl rfl rfl one3 rfl) ?_
    refine RW.p rfl rfl rfl (Yp.eql rfl rfl rfl) ?_
    refine RW.nil ?_
    refine CWR.cond rfl (fun hb5 => ?_) (fun hb5 => ?_)
    · have hx : (m39 (it i).fData).isSome = true := by
        rw [hit]
        rw [List.all_eq_true] at hall
        refine hall _ ?_
        show p0.fPending[p0.fPending.length - 1 - i]! ∈ _
        rw [getElem!_pos _ _ (by omega)]
        exact List.getElem_mem _
      obtain ⟨x, hx⟩ := Option.isSome_iff_exists.1 hx
      refine CWR.seq ?_
      refine CWR.region rfl ?_
      refine RW.p rfl rfl rfl (Yp.fieldP rfl rfl Try.underlying56 rfl sz29) ?_
      refine RW.p rfl rfl rfl (Yp.loadB1 0 rfl rfl rfl one29 rfl) ?_
      refine RW.c rfl rfl rfl (Yc.fnV (σp := []) (args' := [.sl 1 (cN .u8) (it i).fData]) rfl rfl ok39 rfl rfl rfl (VwL.id _) (m39_ok (it i).fData hx)) ?_
      rintro _ _ ⟨_, ⟨rfl, rfl⟩, rfl⟩
      refine RW.u rfl rfl (Yu.storeB 2 rfl rfl rfl rfl sz29 (Pw.p rfl) rfl (Nat.le_of_ble_eq_true rfl)) ?_
      refine RW.u rfl rfl (Yu.storeB 1 rfl rfl rfl rfl sz33 (Pw.p rfl) rfl (Nat.le_of_ble_eq_true rfl)) ?_
      refine RW.nil ?_
      refine CWR.ret ?_
      exact .inr ⟨rfl, hb5, _, ⟨x, hx, rfl⟩, List.sublist_cons_self _ _⟩
    · refine CWR.skip ?_
      exact .inl ⟨rfl, hb5, _, rfl, List.sublist_cons_self _ _⟩
  · rintro _ rfl hp
    have hfind := find_none p0.fPending (fun w => decide (w.fAt = p1)) (fun j hj => by have := hp j (by omega); rw [hit] at this; exact this)
    rw [hfind] at hm
    obtain ⟨x, hx, hm⟩ := bnd hm
    refine CW.seq ?_
    refine CW.region ?_
    refine RW.p rfl rfl rfl (Yp.fieldP rfl rfl Try.underlying26 rfl sz23) ?_
    refine RW.p rfl rfl rfl (Yp.loadB1 3 rfl rfl rfl one23 rfl) ?_
    refine RW.p rfl rfl rfl (Yp.loadB1 2 rfl rfl rfl one3 rfl) ?_
    have hc1 : 0 ≤ p1 ∧ p1 < (p0.fDurable.length : Int) := ⟨by simpa using hb2, by simpa using hb3⟩
    refine RW.p rfl rfl rfl (Yp.indexSl rfl rfl rfl Try.underlying23 sz29 hc1) ?_
    refine RW.p rfl rfl rfl (Yp.loadF1 rfl rfl one29 rfl) ?_
    refine RW.c rfl rfl rfl (Yc.fnV (σp := []) (args' := [.sl 1 (cN .u8) p0.fDurable[p1.toNat]!]) rfl rfl ok39 rfl rfl rfl (VwL.id _) (m39_ok _ hx)) ?_
    rintro _ _ ⟨_, ⟨rfl, rfl⟩, rfl⟩
    refine RW.u rfl rfl (Yu.storeB 1 rfl rfl rfl rfl sz29 (Pw.p rfl) rfl (Nat.le_of_ble_eq_true rfl)) ?_
    refine RW.u rfl rfl (Yu.storeB 0 rfl rfl rfl rfl sz33 (Pw.p rfl) rfl (Nat.le_of_ble_eq_true rfl)) ?_
    refine RW.nil ?_
    refine CW.ret ?_
    cases hm
    exact fin2 (.inr rfl) rfl (ResIs.cell1 1 rfl rfl one29 rfl) (ResIs.cell1 0 rfl rfl one33 rfl) (List.nil_sublist _) ⟨rfl, rfl⟩
  · rintro i _ hi hp1 hp2 ⟨x, hx, rfl⟩
    have hfind := find_some p0.fPending (fun w => decide (w.fAt = p1)) i (by omega) (fun j hj => by have := hp1 j hj; rw [hit] at this; exact this) (by have := hp2; rw [hit] at this; exact this)
    rw [hfind] at hm
    have hx' : m39 p0.fPending[p0.fPending.length - 1 - i]!.fData = some x := by rw [hit] at hx; exact hx
    simp only [hx', Option.bind_some] at hm
    cases hm
    exact fin2 (.inr rfl) rfl (ResIs.cell1 1 rfl rfl one29 rfl) (ResIs.cell1 0 rfl rfl one33 rfl) (List.nil_sublist _) ⟨rfl, rfl⟩
end Go.Proofs.Ytfipaakafcjjhaa
