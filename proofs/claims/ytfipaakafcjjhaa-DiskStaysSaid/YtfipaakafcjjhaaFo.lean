/- Clone and disk.Read once more: what they return is an own row. -/
import Derived.Test.YtfipaakafcjjhaaMan
set_option linter.unusedSectionVars false
set_option linter.unusedVariables false
set_option linter.unusedSimpArgs false
namespace Go.Proofs.Ytfipaakafcjjhaa
open Go Go.RowKit Go.Ab Go.Proofs

theorem m39o_ok (p0 : List Int)  {r : List Int} (hm : m39 p0 = some r) : Ab.Fn Try.prog 39 [.sl 1 (cN .u8) p0] [] (fun a s => ∃ v : Value, a = .lit v ∧ s = [.row v 5 1 (cN .u8) r]) := by
  rw [m39] at hm
  refine Ab.Fn.of Try.func39 rfl rfl rfl (fun C => ?_)
  refine CW.seq ?_
  refine CW.region ?_
  refine RW.p rfl rfl rfl (Yp.assign rfl rfl) ?_
  refine RW.nil ?_
  refine CW.seq ?_
  refine CW.seq ?_
  refine CW.region ?_
  refine RW.p rfl rfl rfl (Yp.move rfl rfl) ?_
  refine RW.nil? rfl rfl rfl (YpNil.sl rfl rfl rfl Try.underlying29) ?_
  rintro z1 hz1
  refine RW.nil ?_
  refine CW.cond rfl (fun hb1 => ?_) (fun hb1 => ?_)
  ·
    refine CW.seq ?_
    refine CW.region ?_
    refine RW.p rfl rfl rfl (Yp.assign rfl rfl) ?_
    refine RW.nil ?_
    refine CW.own none 5 1 (cN .u8) ?_
    refine CW.ret ?_
    have hm : some [] = some r := by have h := hm; rw [hz1 hb1] at h; simpa using h
    cases hm
    exact fin1 (.inr rfl) rfl (ResIs.tmp rfl) (List.Sublist.cons_cons _ (List.nil_sublist _)) ⟨_, rfl, rfl⟩
  ·
    refine CW.skip ?_
    refine CW.seq ?_
    refine CW.region ?_
    refine RW.v rfl rfl rfl (Yv.lit0 (cN .u8) 1 rfl Try.underlying29 sz5) ?_
    rintro _ _ ⟨v1, rfl, rfl⟩
    refine RW.p rfl rfl rfl (Yp.move rfl rfl) ?_
    obtain ⟨hc1, hm⟩ := chk hm
    refine RW.v rfl rfl rfl (Yv.app (l := []) (l2 := p0) 0 rfl rfl rfl (.inr (.inl rfl)) Try.underlying29 szb5 zer5 rfl rfl (fun _ => rfl) hc1) ?_
    rintro _ _ ⟨v2, rfl, rfl⟩
    refine RW.p rfl rfl rfl (Yp.assign rfl rfl) ?_
    refine RW.nil ?_
    refine CW.ret ?_
    cases hm
    exact fin1 (.inr rfl) rfl (ResIs.tmp rfl) (List.Sublist.cons_cons _ (List.nil_sublist _)) ⟨_, rfl, rfl⟩


set_option maxHeartbeats 2000000 in
theorem m17o_ok (p0 : Disk) (p1 : Int) {r : List Int × Int} (hm : m17 p0 p1 = some r) : Ab.Fn Try.prog 17 [.agg [.sl 1 (cL 1 (cN .u8)) p0.fDurable, .sl 2 Write.cells p0.fPending, .i p0.fLeft, .b p0.fDown], .i p1] [] (fun a s => ∃ v : Value, a = .tup [.lit v, .i r.2] ∧ s = [.row v 5 1 (cN .u8) r.1]) := by
  rw [m17] at hm
  refine Ab.Fn.of Try.func17 rfl rfl rfl (fun C => ?_)
  refine CW.seq ?_
  refine CW.region ?_
  refine RW.v rfl rfl rfl (Yv.box rfl rfl (Pw.p rfl)) ?_
  rintro _ _ ⟨b1, rfl, rfl⟩
  refine RW.v rfl rfl rfl (Yv.box rfl rfl (Pw.p rfl)) ?_
  rintro _ _ ⟨b2, rfl, rfl⟩
  refine RW.v rfl rfl rfl (Yv.alloc rfl zerb29) ?_
  rintro _ _ ⟨b3, rfl, rfl⟩
  refine RW.v rfl rfl rfl (Yv.alloc rfl zerb33) ?_
  rintro _ _ ⟨b4, rfl, rfl⟩
  refine RW.nil ?_
  obtain ⟨x1, hx1, hm⟩ := bnd hm
  refine CW.seq ?_
  refine CW.block ?_
  refine CW.seq ?_
  refine CW.region ?_
  refine RW.p rfl rfl rfl (Yp.loadBN 3 rfl rfl rfl many26 (Nat.le_of_ble_eq_true rfl)) ?_
  refine RW.c rfl rfl rfl (Yc.fnV (σp := []) (args' := [.agg [.sl 1 (cL 1 (cN .u8)) p0.fDurable, .sl 2 Write.cells p0.fPending, .i p0.fLeft, .b p0.fDown]]) rfl rfl ok13 rfl rfl rfl (VwL.id _) (m13_ok p0 hx1)) ?_
  rintro _ _ ⟨_, ⟨rfl, rfl⟩, rfl⟩
  refine RW.p rfl rfl rfl (Yp.not rfl rfl) ?_
  refine RW.p rfl rfl rfl (Yp.assign rfl rfl) ?_
  refine RW.nil ?_
  refine CW.cond rfl (fun hb1 => ?_) (fun hb1 => ?_)
  · have hm := ift hm hb1
    refine CW.seq ?_
    refine CW.region ?_
    refine RW.u rfl rfl (Yu.storeB 1 rfl rfl rfl rfl sz29 (Pw.p rfl) rfl (Nat.le_of_ble_eq_true rfl)) ?_
    refine RW.u rfl rfl (Yu.storeB 0 rfl rfl rfl rfl sz33 (Pw.p rfl) rfl (Nat.le_of_ble_eq_true rfl)) ?_
    refine RW.nil ?_
    refine CW.own none 5 1 (cN .u8) ?_
    refine CW.ret ?_
    cases hm
    exact fin2 (.inr rfl) rfl (ResIs.cell1 2 rfl rfl one29 rfl) (ResIs.cell1 1 rfl rfl one33 rfl) (List.Sublist.cons_cons _ (List.nil_sublist _)) ⟨_, rfl, rfl⟩
  have hm := iff' hm hb1
  refine CW.seq ?_
  refine CW.region ?_
  refine RW.p rfl rfl rfl (Yp.loadB1 2 rfl rfl rfl one3 rfl) ?_
  refine RW.p rfl rfl rfl (Yp.lss rfl rfl rfl) ?_
  refine RW.p rfl rfl rfl (Yp.move rfl rfl) ?_
  have fin3 : (decide (p1 < 0) || decide ((p0.fDurable.length : Int) ≤ p1)) = true → some (([] : List Int), (3 : Int)) = some r := fun h => ift hm h
  rcases Bool.eq_false_or_eq_true (decide (p1 < 0)) with hb2 | hb2
  · refine RW.eqv 15 rfl (congrArg AV.b hb2) ?_
    refine RW.skip rfl rfl rfl ?_
    refine RW.skip rfl rfl rfl ?_
    refine RW.skip rfl rfl rfl ?_
    refine RW.skip rfl rfl rfl ?_
    refine RW.skip rfl rfl rfl ?_
    refine RW.p rfl rfl rfl (Yp.pickT rfl rfl rfl) ?_
    refine RW.p rfl rfl rfl (Yp.assign rfl rfl) ?_
    refine RW.nil ?_
    refine CW.condT rfl ?_
    have hm := fin3 (by rw [hb2]; rfl)
    refine CW.seq ?_
    refine CW.region ?_
    refine RW.u rfl rfl (Yu.storeB 1 rfl rfl rfl rfl sz29 (Pw.p rfl) rfl (Nat.le_of_ble_eq_true rfl)) ?_
    refine RW.u rfl rfl (Yu.storeB 0 rfl rfl rfl rfl sz33 (Pw.p rfl) rfl (Nat.le_of_ble_eq_true rfl)) ?_
    refine RW.nil ?_
    refine CW.own none 5 1 (cN .u8) ?_
    refine CW.ret ?_
    cases hm
    exact fin2 (.inr rfl) rfl (ResIs.cell1 2 rfl rfl one29 rfl) (ResIs.cell1 1 rfl rfl one33 rfl) (List.Sublist.cons_cons _ (List.nil_sublist _)) ⟨_, rfl, rfl⟩
  refine RW.eqv 15 rfl (congrArg AV.b hb2) ?_
  refine RW.p rfl rfl rfl (Yp.loadB1 2 rfl rfl rfl one3 rfl) ?_
  refine RW.p rfl rfl rfl (Yp.fieldP rfl rfl Try.underlying26 rfl sz23) ?_
  refine RW.p rfl rfl rfl (Yp.loadB1 3 rfl rfl rfl one23 rfl) ?_
  refine RW.p rfl rfl rfl (Yp.lenSl rfl rfl Try.underlying23) ?_
  refine RW.p rfl rfl rfl (Yp.geq rfl rfl rfl) ?_
  refine RW.p rfl rfl rfl (Yp.pickF rfl rfl rfl) ?_
  refine RW.p rfl rfl rfl (Yp.assign rfl rfl) ?_
  refine RW.nil ?_
  refine CW.cond rfl (fun hb3 => ?_) (fun hb3 => ?_)
  · have hm := fin3 (by rw [hb3]; simp)
    refine CW.seq ?_
    refine CW.region ?_
    refine RW.u rfl rfl (Yu.storeB 1 rfl rfl rfl rfl sz29 (Pw.p rfl) rfl (Nat.le_of_ble_eq_true rfl)) ?_
    refine RW.u rfl rfl (Yu.storeB 0 rfl rfl rfl rfl sz33 (Pw.p rfl) rfl (Nat.le_of_ble_eq_true rfl)) ?_
    refine RW.nil ?_
    refine CW.own none 5 1 (cN .u8) ?_
    refine CW.ret ?_
    cases hm
    exact fin2 (.inr rfl) rfl (ResIs.cell1 2 rfl rfl one29 rfl) (ResIs.cell1 1 rfl rfl one33 rfl) (List.Sublist.cons_cons _ (List.nil_sublist _)) ⟨_, rfl, rfl⟩
  have hm := iff' hm (show (decide (p1 < 0) || decide ((p0.fDurable.length : Int) ≤ p1)) = false from by rw [hb2, hb3]; rfl)
  refine CW.seq ?_
  refine CW.region ?_
  refine RW.p rfl rfl rfl (Yp.fieldP rfl rfl Try.underlying26 rfl sz4) ?_
  refine RW.p rfl rfl rfl (Yp.loadB1 3 rfl rfl rfl one4 rfl) ?_
  refine RW.p rfl rfl rfl (Yp.assign rfl rfl) ?_
  refine RW.nil ?_
  refine CW.cond rfl (fun hb4 => ?_) (fun hb4 => ?_)
  · have hm := ift hm hb4
    refine CW.seq ?_
    refine CW.region ?_
    refine RW.u rfl rfl (Yu.storeB 1 rfl rfl rfl rfl sz29 (Pw.p rfl) rfl (Nat.le_of_ble_eq_true rfl)) ?_
    refine RW.u rfl rfl (Yu.storeB 0 rfl rfl rfl rfl sz33 (Pw.p rfl) rfl (Nat.le_of_ble_eq_true rfl)) ?_
    refine RW.nil ?_
    refine CW.own none 5 1 (cN .u8) ?_
    refine CW.ret ?_
    cases hm
    exact fin2 (.inr rfl) rfl (ResIs.cell1 2 rfl rfl one29 rfl) (ResIs.cell1 1 rfl rfl one33 rfl) (List.Sublist.cons_cons _ (List.nil_sublist _)) ⟨_, rfl, rfl⟩
  have hm := iff' hm hb4
  obtain ⟨hall, hm⟩ := chk hm
  refine CW.skip ?_
  refine CW.seq ?_
  refine CW.seq ?_
  refine CW.region ?_
  refine RW.p rfl rfl rfl (Yp.fieldP rfl rfl Try.underlying26 rfl sz24) ?_
  refine RW.p rfl rfl rfl (Yp.loadB1 3 rfl rfl rfl one24 rfl) ?_
  refine RW.c rfl rfl rfl (Yc.fnV (σp := []) (args' := [.sl 2 Write.cells p0.fPending]) rfl rfl ok38 rfl rfl rfl (VwL.id _) (m38_ok p0.fPending)) ?_
  rintro _ _ ⟨_, ⟨rfl, rfl⟩, rfl⟩
  refine RW.nil ?_
  refine CW.block ?_
  have hN := backEs_len p0.fPending
  obtain ⟨it, hit⟩ : ∃ it : Nat → Write, it = fun i => p0.fPending[p0.fPending.length - 1 - i]! := ⟨_, rfl⟩
  have hes : ∀ i, i < (backEs p0.fPending).length → (backEs p0.fPending)[i]! = [.i ((p0.fPending.length : Int) - 1 - (i : Int)), .agg (Write.cells (it i))] := fun i hi => by rw [backEs_get _ (by omega), hit]
  refine CW.rf (gf := 52) (caps := [.fp [.sl 2 Write.cells p0.fPending]]) (es := backEs p0.fPending)
    (fun s => s = [.box b4 33 [.i 0], .box b3 29 [.lit (.slice none 0 0)], .box b2 3 [.i p1], .box b1 26 [.sl 1 (cL 1 (cN .u8)) p0.fDurable, .sl 2 Write.cells p0.fPending, .i p0.fLeft, .b p0.fDown]])
    (fun i s => ∃ (x : List Int) (v : Value), m39 (it i).fData = some x ∧ s = [.row v 5 1 (cN .u8) x, .box b4 33 [.i 0], .box b3 29 [.lit v], .box b2 3 [.i p1], .box b1 26 [.sl 1 (cL 1 (cN .u8)) p0.fDurable, .sl 2 Write.cells p0.fPending, .i p0.fLeft, .b p0.fDown]])
    (fun i => decide ((it i).fAt = p1))
    (fun i E s => ∃ b7, Sub [(2, .lit (.pointer (some ⟨b1, 0, none⟩))), (3, .lit (.pointer (some ⟨b2, 0, none⟩))), (4, .lit (.pointer (some ⟨b3, 0, none⟩))), (5, .lit (.pointer (some ⟨b4, 0, none⟩))), (7, .lit (.pointer (some ⟨b7, 0, none⟩)))] E ∧
      s = [.box b7 56 (Write.cells (it i)), .box b4 33 [.i 0], .box b3 29 [.lit (.slice none 0 0)], .box b2 3 [.i p1], .box b1 26 [.sl 1 (cL 1 (cN .u8)) p0.fDurable, .sl 2 Write.cells p0.fPending, .i p0.fLeft, .b p0.fDown]])
    rfl (enters_of Try.func52 (by kernel_rfl) rfl) (back_iter _) (fun i hi => by rw [hes i hi]; rfl) (by decide) rfl ?_ ?_ ?_ ?_
  · rintro C' i _ hi rfl
    rw [hes i hi]
    refine CWR.region rfl ?_
    refine RW.v rfl rfl rfl (Yv.alloc rfl zerb56) ?_
    rintro _ _ ⟨b7, rfl, rfl⟩
    refine RW.u rfl rfl (Yu.storeB 0 rfl rfl rfl rfl sz56 (Pw.p rfl) rfl (Nat.le_of_ble_eq_true rfl)) ?_
    refine RW.nil ?_
    exact ⟨rfl, ⟨b7, Sub.cons rfl (Sub.cons rfl (Sub.cons rfl (Sub.cons rfl (Sub.cons rfl Sub.nil)))), rfl⟩, _, rfl, List.sublist_cons_self _ _⟩
  · rintro C' i E1 _ hi ⟨b7, hs, rfl⟩
    refine CWR.weak ?_ hs
    refine CWR.block ?_
    refine CWR.seq ?_
    refine CWR.region rfl ?_
    refine RW.p rfl rfl rfl (Yp.fieldP rfl rfl Try.underlying56 rfl sz3) ?_
    refine RW.p rfl rfl rfl (Yp.loadB1 0 rfl rfl rfl one3 rfl) ?_
    refine RW.p rfl rfl rfl (Yp.loadB1 3 rfl rfl rfl one3 rfl) ?_
    refine RW.p rfl rfl rfl (Yp.eql rfl rfl rfl) ?_
    refine RW.nil ?_
    refine CWR.cond rfl (fun hb5 => ?_) (fun hb5 => ?_)
    · have hx : (m39 (it i).fData).isSome = true := by
        rw [hit]
        rw [List.all_eq_true] at hall
        refine hall _ ?_
        show p0.fPending[p0.fPending.length - 1 - i]! ∈ _
        rw [getElem!_pos _ _ (by omega)]
        exact List.getElem_mem _
      obtain ⟨x, hx⟩ := Option.isSome_iff_exists.1 hx
      refine CWR.seq ?_
      refine CWR.region rfl ?_
      refine RW.p rfl rfl rfl (Yp.fieldP rfl rfl Try.underlying56 rfl sz29) ?_
      refine RW.p rfl rfl rfl (Yp.loadB1 0 rfl rfl rfl one29 rfl) ?_
      refine RW.c rfl rfl rfl (Yc.fnV (σp := []) (args' := [.sl 1 (cN .u8) (it i).fData]) rfl rfl ok39 rfl rfl rfl (VwL.id _) (m39o_ok (it i).fData hx)) ?_
      rintro _ _ ⟨_, ⟨v, rfl, rfl⟩, rfl⟩
      refine RW.u rfl rfl (Yu.storeB 3 rfl rfl rfl rfl sz29 (Pw.own 0 rfl) rfl (Nat.le_of_ble_eq_true rfl)) ?_
      refine RW.u rfl rfl (Yu.storeB 2 rfl rfl rfl rfl sz33 (Pw.p rfl) rfl (Nat.le_of_ble_eq_true rfl)) ?_
      refine RW.nil ?_
      refine CWR.ret ?_
      exact .inr ⟨rfl, hb5, _, ⟨x, v, hx, rfl⟩, List.Sublist.cons_cons _ (List.sublist_cons_self _ _)⟩
    · refine CWR.skip ?_
      exact .inl ⟨rfl, hb5, _, rfl, List.sublist_cons_self _ _⟩
  · rintro _ rfl hp
    have hfind := find_none p0.fPending (fun w => decide (w.fAt = p1)) (fun j hj => by have := hp j (by omega); rw [hit] at this; exact this)
    rw [hfind] at hm
    obtain ⟨x, hx, hm⟩ := bnd hm
    refine CW.seq ?_
    refine CW.region ?_
    refine RW.p rfl rfl rfl (Yp.fieldP rfl rfl Try.underlying26 rfl sz23) ?_
    refine RW.p rfl rfl rfl (Yp.loadB1 3 rfl rfl rfl one23 rfl) ?_
    refine RW.p rfl rfl rfl (Yp.loadB1 2 rfl rfl rfl one3 rfl) ?_
    have hc1 : 0 ≤ p1 ∧ p1 < (p0.fDurable.length : Int) := ⟨by simpa using hb2, by simpa using hb3⟩
    refine RW.p rfl rfl rfl (Yp.indexSl rfl rfl rfl Try.underlying23 sz29 hc1) ?_
    refine RW.p rfl rfl rfl (Yp.loadF1 rfl rfl one29 rfl) ?_
    refine RW.c rfl rfl rfl (Yc.fnV (σp := []) (args' := [.sl 1 (cN .u8) p0.fDurable[p1.toNat]!]) rfl rfl ok39 rfl rfl rfl (VwL.id _) (m39o_ok _ hx)) ?_
    rintro _ _ ⟨_, ⟨v, rfl, rfl⟩, rfl⟩
    refine RW.u rfl rfl (Yu.storeB 2 rfl rfl rfl rfl sz29 (Pw.own 0 rfl) rfl (Nat.le_of_ble_eq_true rfl)) ?_
    refine RW.u rfl rfl (Yu.storeB 1 rfl rfl rfl rfl sz33 (Pw.p rfl) rfl (Nat.le_of_ble_eq_true rfl)) ?_
    refine RW.nil ?_
    refine CW.ret ?_
    cases hm
    exact fin2 (.inr rfl) rfl (ResIs.cell1 2 rfl rfl one29 rfl) (ResIs.cell1 1 rfl rfl one33 rfl) (List.Sublist.cons_cons _ (List.nil_sublist _)) ⟨_, rfl, rfl⟩
  · rintro i _ hi hp1 hp2 ⟨x, v, hx, rfl⟩
    have hfind := find_some p0.fPending (fun w => decide (w.fAt = p1)) i (by omega) (fun j hj => by have := hp1 j hj; rw [hit] at this; exact this) (by have := hp2; rw [hit] at this; exact this)
    rw [hfind] at hm
    have hx' : m39 p0.fPending[p0.fPending.length - 1 - i]!.fData = some x := by rw [hit] at hx; exact hx
    simp only [hx', Option.bind_some] at hm
    cases hm
    exact fin2 (.inr rfl) rfl (ResIs.cell1 2 rfl rfl one29 rfl) (ResIs.cell1 1 rfl rfl one33 rfl) (List.Sublist.cons_cons _ (List.nil_sublist _)) ⟨_, rfl, rfl⟩
end Go.Proofs.Ytfipaakafcjjhaa
