/- Models of functions, and that the code does what they say. -/
import Derived.Test.YtfipaakafcjjhaaG1
set_option linter.unusedSectionVars false
set_option linter.unusedVariables false
set_option linter.unusedSimpArgs false
namespace Go.Proofs.Ytfipaakafcjjhaa
open Go.RowKit Go.Ab

def m30_1_l1 (p0 : Disk) : Nat → (List (List Int)) → Int → Option (List (List Int))
  | 0, _, _ => none
  | k1 + 1, l4, n3 =>
    if (decide (n3 < (p0.fDurable.length : Int))) = true then
      Option.bind (
        if 0 ≤ n3 ∧ n3 < (p0.fDurable.length : Int) then
        (m31 (p0.fDurable[Int.toNat n3]!)).bind fun x1 =>
        if (l4 ++ [x1]).length ≤ 1073741824 then
        some (l4 ++ [x1])
        else none
        else none) fun l6 =>
      m30_1_l1 p0 k1 l6 (w64 (n3 + 1))
    else
      some l4
def m30_1_l2 (p0 : Disk) : Nat → (List Write) → Int → Option (List Write)
  | 0, _, _ => none
  | k2 + 1, l10, n6 =>
    if (decide (n6 < (p0.fPending.length : Int))) = true then
      Option.bind (
        if 0 ≤ n6 ∧ n6 < (p0.fPending.length : Int) then
        (m31 ((p0.fPending[Int.toNat n6]!).fData)).bind fun x2 =>
        if (l10 ++ [(Write.mk ((p0.fPending[Int.toNat n6]!).fAt) x2)]).length ≤ 1073741824 then
        some (l10 ++ [(Write.mk ((p0.fPending[Int.toNat n6]!).fAt) x2)])
        else none
        else none) fun l12 =>
      m30_1_l2 p0 k2 l12 (w64 (n6 + 1))
    else
      some l10
def m30_1 (p0 : Disk) : Option Disk :=
  Option.bind (
    (m30_1_l1 p0 (Int.toNat (p0.fDurable.length : Int) + 1) [] 0).bind fun l5 =>
    some l5) fun l1 =>
  Option.bind (
    (m30_1_l2 p0 (Int.toNat (p0.fPending.length : Int) + 1) [] 0).bind fun l11 =>
    some l11) fun l7 =>
  some (Disk.mk l1 l7 p0.fLeft p0.fDown)

theorem m30_1_ok (p0 : Disk)  {r : Disk} (hm : m30_1 p0 = some r) : Ab.Fn Try.prog 30 [.agg [.sl 1 (cL 1 (cN .u8)) p0.fDurable, .sl 2 Write.cells p0.fPending, .i p0.fLeft, .b p0.fDown]] [] (fun a s => ∃ w0 : Value, ∃ w1 : Value, a = .agg [.lit w0, .lit w1, .i r.fLeft, .b r.fDown] ∧ s = [.row w0 29 1 (cL 1 (cN .u8)) r.fDurable, .row w1 56 2 Write.cells r.fPending]) := by
  rw [m30_1] at hm
  refine Ab.Fn.of Try.func30 rfl rfl rfl (fun C => ?_)
  refine CW.seq ?_
  refine CW.region ?_
  refine RW.v rfl rfl rfl (Yv.box rfl rfl (Pw.p rfl)) ?_
  rintro _ _ ⟨b1, rfl, rfl⟩
  refine RW.v rfl rfl rfl (Yv.alloc rfl zerb26) ?_
  rintro _ _ ⟨b2, rfl, rfl⟩
  refine RW.nil ?_
  refine CW.seq ?_
  refine CW.region ?_
  refine RW.p rfl rfl rfl (Yp.fieldP rfl rfl Try.underlying26 rfl sz3) ?_
  refine RW.p rfl rfl rfl (Yp.loadB1 1 rfl rfl rfl one3 rfl) ?_
  refine RW.p rfl rfl rfl (Yp.fieldP rfl rfl Try.underlying26 rfl sz4) ?_
  refine RW.p rfl rfl rfl (Yp.loadB1 1 rfl rfl rfl one4 rfl) ?_
  refine RW.p rfl rfl rfl (Yp.build rfl plc26 zer26 rfl rfl) ?_
  refine RW.v rfl rfl rfl (Yv.alloc rfl zerb26) ?_
  rintro _ _ ⟨b3, rfl, rfl⟩
  refine RW.u rfl rfl (Yu.storeB 0 rfl rfl rfl rfl sz26 (Pw.p rfl) rfl (Nat.le_of_ble_eq_true rfl)) ?_
  refine RW.nil ?_
  refine CW.seq ?_
  obtain ⟨l1, hs1, hk1⟩ := bnd hm
  refine CW.cut (fun E σ => ∃ v1 : Value, Sub [(1, .lit (.pointer (some ⟨b1, 0, none⟩))), (2, .lit (.pointer (some ⟨b2, 0, none⟩))), (3, .lit (.pointer (some ⟨b3, 0, none⟩)))] E ∧ σ = [.box b1 26 [.sl 1 (cL 1 (cN .u8)) p0.fDurable, .sl 2 Write.cells p0.fPending, .i p0.fLeft, .b p0.fDown], .box b2 26 [.lit (.slice none 0 0), .lit (.slice none 0 0), .i 0, .b false], .box b3 26 [.lit v1, .lit (.slice none 0 0), .i p0.fLeft, .b p0.fDown], .row v1 29 1 (cL 1 (cN .u8)) l1]) ?_ ?_
  ·
    have hm := hs1
    refine CW.seq ?_
    refine CW.region ?_
    refine RW.p rfl rfl rfl (Yp.fieldP rfl rfl Try.underlying26 rfl sz23) ?_
    refine RW.p rfl rfl rfl (Yp.loadB1 2 rfl rfl rfl one23 rfl) ?_
    refine RW.p rfl rfl rfl (Yp.lenSl rfl rfl Try.underlying23) ?_
    refine RW.p rfl rfl rfl (Yp.move rfl rfl) ?_
    refine RW.nil ?_
    refine CW.block ?_
    refine CW.own none 29 1 (cL 1 (cN .u8)) ?_
    refine CW.sel [3, 2, 1, 0] rfl ?_
    obtain ⟨l5, hs2, hk2⟩ := bnd hm
    refine CW.lp (fun k1 E σ => ∃ l4 : List (List Int), ∃ n3 : Int, ∃ v4 : Value, Sub [(1, .lit (.pointer (some ⟨b1, 0, none⟩))), (2, .lit (.pointer (some ⟨b2, 0, none⟩))), (3, .lit (.pointer (some ⟨b3, 0, none⟩))), (14, .sl 1 (cL 1 (cN .u8)) p0.fDurable), (15, .i (p0.fDurable.length : Int)), (16, .i n3)] E ∧ σ = [.box b1 26 [.sl 1 (cL 1 (cN .u8)) p0.fDurable, .sl 2 Write.cells p0.fPending, .i p0.fLeft, .b p0.fDown], .box b2 26 [.lit (.slice none 0 0), .lit (.slice none 0 0), .i 0, .b false], .box b3 26 [.lit v4, .lit (.slice none 0 0), .i p0.fLeft, .b p0.fDown], .row v4 29 1 (cL 1 (cN .u8)) l4] ∧ m30_1_l1 p0 k1 l4 n3 = some l5) (Int.toNat (p0.fDurable.length : Int) + 1) ?_ ?_
    · exact ⟨[], 0, (.slice none 0 0), (Sub.cons rfl (Sub.cons rfl (Sub.cons rfl (Sub.cons rfl (Sub.cons rfl (Sub.cons rfl Sub.nil)))))), rfl, hs2⟩
    ·
      rintro k1 E σ ⟨l4, n3, v4, hsub1, rfl, hm⟩
      refine CW.weak ?_ hsub1
      cases k1 with
      | zero => cases hm
      | succ k1 =>
        rw [m30_1_l1] at hm
        refine CW.seq ?_
        refine CW.region ?_
        refine RW.p rfl rfl rfl (Yp.lss rfl rfl rfl) ?_
        refine RW.nil ?_
        refine CW.seq ?_
        refine CW.cond rfl (fun hb1 => ?_) (fun hb1 => ?_)
        ·
          have hm := ift hm hb1
          refine CW.skip ?_
          refine CW.seq ?_
          obtain ⟨l6, hs3, hk3⟩ := bnd hm
          refine CW.cut (fun E σ => ∃ v6 : Value, Sub [(1, .lit (.pointer (some ⟨b1, 0, none⟩))), (2, .lit (.pointer (some ⟨b2, 0, none⟩))), (3, .lit (.pointer (some ⟨b3, 0, none⟩))), (14, .sl 1 (cL 1 (cN .u8)) p0.fDurable), (15, .i (p0.fDurable.length : Int)), (16, .i n3)] E ∧ σ = [.box b1 26 [.sl 1 (cL 1 (cN .u8)) p0.fDurable, .sl 2 Write.cells p0.fPending, .i p0.fLeft, .b p0.fDown], .box b2 26 [.lit (.slice none 0 0), .lit (.slice none 0 0), .i 0, .b false], .box b3 26 [.lit v6, .lit (.slice none 0 0), .i p0.fLeft, .b p0.fDown], .row v6 29 1 (cL 1 (cN .u8)) l6]) ?_ ?_
          ·
            have hm := hs3
            refine CW.block ?_
            refine CW.seq ?_
            refine CW.region ?_
            obtain ⟨hc1, hm⟩ := chk hm
            refine RW.p rfl rfl rfl (Yp.indexSl rfl rfl rfl Try.underlying23 sz29 hc1) ?_
            refine RW.p rfl rfl rfl (Yp.loadF1 rfl rfl one29 rfl) ?_
            refine RW.p rfl rfl rfl (Yp.assign rfl rfl) ?_
            refine RW.nil ?_
            obtain ⟨x1, hx1, hm⟩ := bnd hm
            obtain ⟨hc2, hm⟩ := chk hm
            refine CW.drawSel 8 rfl [2, 2, 0, 0] [.box b3 26 [.lit v4, .lit (.slice none 0 0), .i p0.fLeft, .b p0.fDown], .row v4 29 1 (cL 1 (cN .u8)) l4] [.box b1 26 [.sl 1 (cL 1 (cN .u8)) p0.fDurable, .sl 2 Write.cells p0.fPending, .i p0.fLeft, .b p0.fDown], .box b2 26 [.lit (.slice none 0 0), .lit (.slice none 0 0), .i 0, .b false]] rfl (by kernel_rfl) ?_
            intro A1 w1 hB1
            refine RH.take 0 rfl (by kernel_rfl) rfl rfl rfl hB1 (Yp.fieldP rfl rfl Try.underlying26 rfl sz23) ?_
            refine RH.take 2 rfl (by kernel_rfl) rfl rfl rfl hB1 (Yp.move rfl rfl) ?_
            refine RH.two 1 3 (by kernel_rfl) ?_ ?_
            ·
              refine RO.p rfl rfl rfl rfl rfl (Yp.loadB1 2 rfl rfl rfl one23 rfl) ?_
              refine RH.one 3 (by kernel_rfl) ?_
              refine RO.c rfl rfl rfl rfl rfl (Yc.fnV (σp := []) (args' := [.sl 1 (cN .u8) (p0.fDurable[Int.toNat n3]!)]) rfl rfl ok31 rfl rfl rfl (VwL.id _) (m31_ok (p0.fDurable[Int.toNat n3]!) hx1)) (fun b hb => absurd hb (by simp [blks])) ?_
              rintro _ _ ⟨_, ⟨rfl, rfl⟩, rfl⟩
              refine RH.one 4 (by kernel_rfl) ?_
              refine RO.v rfl rfl rfl rfl rfl (Yv.lit (cL 1 (cN .u8)) ([x1] : List (List Int)) rfl Try.underlying23 sz29 zer29 rfl rfl rfl rfl rfl (fun i hi => by match i, hi with | 0, _ => rfl) (by decide) (by decide)) (fun b hb => absurd hb (by simp)) ?_
              rintro _ _ ⟨v9, rfl, rfl⟩
              refine RH.one 5 (by kernel_rfl) ?_
              refine RO.v rfl rfl rfl rfl rfl (Yv.app (l := l4) (l2 := ([x1] : List (List Int))) 4 rfl rfl rfl (.inr (.inr ⟨0, _, rfl, rfl⟩)) Try.underlying23 szb29 zer29 rfl rfl (fun _ => rfl) hc2) (inX (r := .row v4 29 1 (cL 1 (cN .u8)) l4) 1 rfl) ?_
              rintro _ _ ⟨v10, rfl, rfl⟩
              refine RH.take 6 rfl (by kernel_rfl) rfl rfl rfl hB1 (Yp.fieldP rfl rfl Try.underlying26 rfl sz23) ?_
              refine RH.one 7 (by kernel_rfl) ?_
              refine RO.u rfl rfl rfl (Yu.storeB 3 rfl rfl rfl rfl sz23 (Pw.own 4 rfl) rfl (Nat.le_of_ble_eq_true rfl)) (inX (r := .box b3 26 [.lit v4, .lit (.slice none 0 0), .i p0.fLeft, .b p0.fDown]) 0 rfl) ?_
              refine RH.sel [1, 1, 1, 1] rfl ?_
              refine RH.done (by kernel_rfl) ?_
              cases hm
              exact ⟨v10, (Sub.cons rfl (Sub.cons rfl (Sub.cons rfl (Sub.cons rfl (Sub.cons rfl (Sub.cons rfl Sub.nil)))))), rfl⟩
            ·
              refine RO.c rfl rfl rfl rfl rfl (Yc.fnV (σp := []) (args' := [.sl 1 (cN .u8) (p0.fDurable[Int.toNat n3]!)]) rfl rfl ok31 rfl rfl rfl (VwL.id _) (m31_ok (p0.fDurable[Int.toNat n3]!) hx1)) (fun b hb => absurd hb (by simp [blks])) ?_
              rintro _ _ ⟨_, ⟨rfl, rfl⟩, rfl⟩
              refine RH.two 1 4 (by kernel_rfl) ?_ ?_
              ·
                refine RO.p rfl rfl rfl rfl rfl (Yp.loadB1 2 rfl rfl rfl one23 rfl) ?_
                refine RH.one 4 (by kernel_rfl) ?_
                refine RO.v rfl rfl rfl rfl rfl (Yv.lit (cL 1 (cN .u8)) ([x1] : List (List Int)) rfl Try.underlying23 sz29 zer29 rfl rfl rfl rfl rfl (fun i hi => by match i, hi with | 0, _ => rfl) (by decide) (by decide)) (fun b hb => absurd hb (by simp)) ?_
                rintro _ _ ⟨v11, rfl, rfl⟩
                refine RH.one 5 (by kernel_rfl) ?_
                refine RO.v rfl rfl rfl rfl rfl (Yv.app (l := l4) (l2 := ([x1] : List (List Int))) 4 rfl rfl rfl (.inr (.inr ⟨0, _, rfl, rfl⟩)) Try.underlying23 szb29 zer29 rfl rfl (fun _ => rfl) hc2) (inX (r := .row v4 29 1 (cL 1 (cN .u8)) l4) 1 rfl) ?_
                rintro _ _ ⟨v12, rfl, rfl⟩
                refine RH.take 6 rfl (by kernel_rfl) rfl rfl rfl hB1 (Yp.fieldP rfl rfl Try.underlying26 rfl sz23) ?_
                refine RH.one 7 (by kernel_rfl) ?_
                refine RO.u rfl rfl rfl (Yu.storeB 3 rfl rfl rfl rfl sz23 (Pw.own 4 rfl) rfl (Nat.le_of_ble_eq_true rfl)) (inX (r := .box b3 26 [.lit v4, .lit (.slice none 0 0), .i p0.fLeft, .b p0.fDown]) 0 rfl) ?_
                refine RH.sel [1, 1, 1, 1] rfl ?_
                refine RH.done (by kernel_rfl) ?_
                cases hm
                exact ⟨v12, (Sub.cons rfl (Sub.cons rfl (Sub.cons rfl (Sub.cons rfl (Sub.cons rfl (Sub.cons rfl Sub.nil)))))), rfl⟩
              ·
                refine RO.v rfl rfl rfl rfl rfl (Yv.lit (cL 1 (cN .u8)) ([x1] : List (List Int)) rfl Try.underlying23 sz29 zer29 rfl rfl rfl rfl rfl (fun i hi => by match i, hi with | 0, _ => rfl) (by decide) (by decide)) (fun b hb => absurd hb (by simp)) ?_
                rintro _ _ ⟨v13, rfl, rfl⟩
                refine RH.one 1 (by kernel_rfl) ?_
                refine RO.p rfl rfl rfl rfl rfl (Yp.loadB1 3 rfl rfl rfl one23 rfl) ?_
                refine RH.one 5 (by kernel_rfl) ?_
                refine RO.v rfl rfl rfl rfl rfl (Yv.app (l := l4) (l2 := ([x1] : List (List Int))) 4 rfl rfl rfl (.inr (.inr ⟨0, _, rfl, rfl⟩)) Try.underlying23 szb29 zer29 rfl rfl (fun _ => rfl) hc2) (inX (r := .row v4 29 1 (cL 1 (cN .u8)) l4) 1 rfl) ?_
                rintro _ _ ⟨v14, rfl, rfl⟩
                refine RH.take 6 rfl (by kernel_rfl) rfl rfl rfl hB1 (Yp.fieldP rfl rfl Try.underlying26 rfl sz23) ?_
                refine RH.one 7 (by kernel_rfl) ?_
                refine RO.u rfl rfl rfl (Yu.storeB 3 rfl rfl rfl rfl sz23 (Pw.own 4 rfl) rfl (Nat.le_of_ble_eq_true rfl)) (inX (r := .box b3 26 [.lit v4, .lit (.slice none 0 0), .i p0.fLeft, .b p0.fDown]) 0 rfl) ?_
                refine RH.sel [1, 1, 1, 1] rfl ?_
                refine RH.done (by kernel_rfl) ?_
                cases hm
                exact ⟨v14, (Sub.cons rfl (Sub.cons rfl (Sub.cons rfl (Sub.cons rfl (Sub.cons rfl (Sub.cons rfl Sub.nil)))))), rfl⟩
          ·
            rintro E σ ⟨v6, hsub2, rfl⟩
            have hm := hk3
            refine CW.weak ?_ hsub2
            refine CW.region ?_
            refine RW.p rfl rfl rfl (Yp.add rfl rfl rfl) ?_
            refine RW.p rfl rfl rfl (Yp.move rfl rfl) ?_
            refine RW.nil ?_
            exact ⟨k1, Nat.lt_succ_self _, _, _, v6, (Sub.cons rfl (Sub.cons rfl (Sub.cons rfl (Sub.cons rfl (Sub.cons rfl (Sub.cons rfl Sub.nil)))))), rfl, hm⟩
        ·
          have hm := iff' hm hb1
          refine CW.exit ?_
          cases hm
          have hm := hk2
          cases hm
          exact ⟨v4, (Sub.cons rfl (Sub.cons rfl (Sub.cons rfl Sub.nil))), rfl⟩
  ·
    rintro E σ ⟨v1, hsub3, rfl⟩
    have hm := hk1
    refine CW.weak ?_ hsub3
    refine CW.seq ?_
    obtain ⟨l7, hs4, hk4⟩ := bnd hm
    refine CW.cut (fun E σ => ∃ v15 : Value, Sub [(2, .lit (.pointer (some ⟨b2, 0, none⟩))), (3, .lit (.pointer (some ⟨b3, 0, none⟩)))] E ∧ σ = [.box b2 26 [.lit (.slice none 0 0), .lit (.slice none 0 0), .i 0, .b false], .box b3 26 [.lit v1, .lit v15, .i p0.fLeft, .b p0.fDown], .row v1 29 1 (cL 1 (cN .u8)) l1, .row v15 56 2 Write.cells l7]) ?_ ?_
    ·
      have hm := hs4
      refine CW.seq ?_
      refine CW.region ?_
      refine RW.p rfl rfl rfl (Yp.fieldP rfl rfl Try.underlying26 rfl sz24) ?_
      refine RW.p rfl rfl rfl (Yp.loadB1 0 rfl rfl rfl one24 rfl) ?_
      refine RW.p rfl rfl rfl (Yp.lenSl rfl rfl Try.underlying24) ?_
      refine RW.p rfl rfl rfl (Yp.move rfl rfl) ?_
      refine RW.nil ?_
      refine CW.block ?_
      refine CW.own none 56 2 Write.cells ?_
      refine CW.sel [2, 2, 2, 0] rfl ?_
      obtain ⟨l11, hs5, hk5⟩ := bnd hm
      refine CW.lp (fun k2 E σ => ∃ l10 : List Write, ∃ n6 : Int, ∃ v18 : Value, Sub [(2, .lit (.pointer (some ⟨b2, 0, none⟩))), (3, .lit (.pointer (some ⟨b3, 0, none⟩))), (29, .sl 2 Write.cells p0.fPending), (30, .i (p0.fPending.length : Int)), (31, .i n6)] E ∧ σ = [.box b2 26 [.lit (.slice none 0 0), .lit (.slice none 0 0), .i 0, .b false], .box b3 26 [.lit v1, .lit v18, .i p0.fLeft, .b p0.fDown], .row v1 29 1 (cL 1 (cN .u8)) l1, .row v18 56 2 Write.cells l10] ∧ m30_1_l2 p0 k2 l10 n6 = some l11) (Int.toNat (p0.fPending.length : Int) + 1) ?_ ?_
      · exact ⟨[], 0, (.slice none 0 0), (Sub.cons rfl (Sub.cons rfl (Sub.cons rfl (Sub.cons rfl (Sub.cons rfl Sub.nil))))), rfl, hs5⟩
      ·
        rintro k2 E σ ⟨l10, n6, v18, hsub4, rfl, hm⟩
        refine CW.weak ?_ hsub4
        cases k2 with
        | zero => cases hm
        | succ k2 =>
          rw [m30_1_l2] at hm
          refine CW.seq ?_
          refine CW.region ?_
          refine RW.p rfl rfl rfl (Yp.lss rfl rfl rfl) ?_
          refine RW.nil ?_
          refine CW.seq ?_
          refine CW.cond rfl (fun hb2 => ?_) (fun hb2 => ?_)
          ·
            have hm := ift hm hb2
            refine CW.skip ?_
            refine CW.seq ?_
            obtain ⟨l12, hs6, hk6⟩ := bnd hm
            refine CW.cut (fun E σ => ∃ v20 : Value, Sub [(2, .lit (.pointer (some ⟨b2, 0, none⟩))), (3, .lit (.pointer (some ⟨b3, 0, none⟩))), (29, .sl 2 Write.cells p0.fPending), (30, .i (p0.fPending.length : Int)), (31, .i n6)] E ∧ σ = [.box b2 26 [.lit (.slice none 0 0), .lit (.slice none 0 0), .i 0, .b false], .box b3 26 [.lit v1, .lit v20, .i p0.fLeft, .b p0.fDown], .row v1 29 1 (cL 1 (cN .u8)) l1, .row v20 56 2 Write.cells l12]) ?_ ?_
            ·
              have hm := hs6
              refine CW.block ?_
              refine CW.seq ?_
              refine CW.region ?_
              obtain ⟨hc3, hm⟩ := chk hm
              refine RW.p rfl rfl rfl (Yp.indexSl rfl rfl rfl Try.underlying24 sz56 hc3) ?_
              refine RW.p rfl rfl rfl (Yp.loadFN rfl rfl many56 (Nat.le_of_ble_eq_true rfl)) ?_
              refine RW.v rfl rfl rfl (Yv.alloc rfl zerb56) ?_
              rintro _ _ ⟨b4, rfl, rfl⟩
              refine RW.u rfl rfl (Yu.storeB 0 rfl rfl rfl rfl sz56 (Pw.p rfl) rfl (Nat.le_of_ble_eq_true rfl)) ?_
              refine RW.nil ?_
              obtain ⟨x2, hx2, hm⟩ := bnd hm
              obtain ⟨hc4, hm⟩ := chk hm
              refine CW.drawSel 12 rfl [2, 2, 2, 0, 0] [.box b3 26 [.lit v1, .lit v18, .i p0.fLeft, .b p0.fDown], .row v1 29 1 (cL 1 (cN .u8)) l1, .row v18 56 2 Write.cells l10] [.box b4 56 [.i ((p0.fPending[Int.toNat n6]!).fAt), .sl 1 (cN .u8) ((p0.fPending[Int.toNat n6]!).fData)], .box b2 26 [.lit (.slice none 0 0), .lit (.slice none 0 0), .i 0, .b false]] rfl (by kernel_rfl) ?_
              intro A2 w2 hB2
              refine RH.take 0 rfl (by kernel_rfl) rfl rfl rfl hB2 (Yp.fieldP rfl rfl Try.underlying26 rfl sz24) ?_
              refine RH.take 2 rfl (by kernel_rfl) rfl rfl rfl hB2 (Yp.fieldP rfl rfl Try.underlying56 rfl sz3) ?_
              refine RH.take 3 rfl (by kernel_rfl) rfl rfl rfl hB2 (Yp.loadB1 0 rfl rfl rfl one3 rfl) ?_
              refine RH.take 4 rfl (by kernel_rfl) rfl rfl rfl hB2 (Yp.fieldP rfl rfl Try.underlying56 rfl sz29) ?_
              refine RH.take 5 rfl (by kernel_rfl) rfl rfl rfl hB2 (Yp.loadB1 0 rfl rfl rfl one29 rfl) ?_
              refine RH.two 1 6 (by kernel_rfl) ?_ ?_
              ·
                refine RO.p rfl rfl rfl rfl rfl (Yp.loadB1 2 rfl rfl rfl one24 rfl) ?_
                refine RH.one 6 (by kernel_rfl) ?_
                refine RO.c rfl rfl rfl rfl rfl (Yc.fnV (σp := []) (args' := [.sl 1 (cN .u8) ((p0.fPending[Int.toNat n6]!).fData)]) rfl rfl ok31 rfl rfl rfl (VwL.id _) (m31_ok ((p0.fPending[Int.toNat n6]!).fData) hx2)) (fun b hb => absurd hb (by simp [blks])) ?_
                rintro _ _ ⟨_, ⟨rfl, rfl⟩, rfl⟩
                refine RH.one 7 (by kernel_rfl) ?_
                refine RO.p rfl rfl rfl rfl rfl (Yp.build rfl plc56 zer56 rfl rfl) ?_
                refine RH.one 8 (by kernel_rfl) ?_
                refine RO.v rfl rfl rfl rfl rfl (Yv.lit Write.cells ([(Write.mk ((p0.fPending[Int.toNat n6]!).fAt) x2)] : List Write) rfl Try.underlying24 sz56 zer56 rfl rfl rfl rfl rfl (fun i hi => by match i, hi with | 0, _ => rfl) (by decide) (by decide)) (fun b hb => absurd hb (by simp)) ?_
                rintro _ _ ⟨v23, rfl, rfl⟩
                refine RH.one 9 (by kernel_rfl) ?_
                refine RO.v rfl rfl rfl rfl rfl (Yv.app (l := l10) (l2 := ([(Write.mk ((p0.fPending[Int.toNat n6]!).fAt) x2)] : List Write)) 5 rfl rfl rfl (.inr (.inr ⟨0, _, rfl, rfl⟩)) Try.underlying24 szb56 zer56 rfl rfl (fun _ => rfl) hc4) (inX (r := .row v18 56 2 Write.cells l10) 2 rfl) ?_
                rintro _ _ ⟨v24, rfl, rfl⟩
                refine RH.take 10 rfl (by kernel_rfl) rfl rfl rfl hB2 (Yp.fieldP rfl rfl Try.underlying26 rfl sz24) ?_
                refine RH.one 11 (by kernel_rfl) ?_
                refine RO.u rfl rfl rfl (Yu.storeB 3 rfl rfl rfl rfl sz24 (Pw.own 5 rfl) rfl (Nat.le_of_ble_eq_true rfl)) (inX (r := .box b3 26 [.lit v1, .lit v18, .i p0.fLeft, .b p0.fDown]) 0 rfl) ?_
                refine RH.sel [2, 2, 2, 2] rfl ?_
                refine RH.done (by kernel_rfl) ?_
                cases hm
                exact ⟨v24, (Sub.cons rfl (Sub.cons rfl (Sub.cons rfl (Sub.cons rfl (Sub.cons rfl Sub.nil))))), rfl⟩
              ·
                refine RO.c rfl rfl rfl rfl rfl (Yc.fnV (σp := []) (args' := [.sl 1 (cN .u8) ((p0.fPending[Int.toNat n6]!).fData)]) rfl rfl ok31 rfl rfl rfl (VwL.id _) (m31_ok ((p0.fPending[Int.toNat n6]!).fData) hx2)) (fun b hb => absurd hb (by simp [blks])) ?_
                rintro _ _ ⟨_, ⟨rfl, rfl⟩, rfl⟩
                refine RH.two 1 7 (by kernel_rfl) ?_ ?_
                ·
                  refine RO.p rfl rfl rfl rfl rfl (Yp.loadB1 2 rfl rfl rfl one24 rfl) ?_
                  refine RH.one 7 (by kernel_rfl) ?_
                  refine RO.p rfl rfl rfl rfl rfl (Yp.build rfl plc56 zer56 rfl rfl) ?_
                  refine RH.one 8 (by kernel_rfl) ?_
                  refine RO.v rfl rfl rfl rfl rfl (Yv.lit Write.cells ([(Write.mk ((p0.fPending[Int.toNat n6]!).fAt) x2)] : List Write) rfl Try.underlying24 sz56 zer56 rfl rfl rfl rfl rfl (fun i hi => by match i, hi with | 0, _ => rfl) (by decide) (by decide)) (fun b hb => absurd hb (by simp)) ?_
                  rintro _ _ ⟨v25, rfl, rfl⟩
                  refine RH.one 9 (by kernel_rfl) ?_
                  refine RO.v rfl rfl rfl rfl rfl (Yv.app (l := l10) (l2 := ([(Write.mk ((p0.fPending[Int.toNat n6]!).fAt) x2)] : List Write)) 5 rfl rfl rfl (.inr (.inr ⟨0, _, rfl, rfl⟩)) Try.underlying24 szb56 zer56 rfl rfl (fun _ => rfl) hc4) (inX (r := .row v18 56 2 Write.cells l10) 2 rfl) ?_
                  rintro _ _ ⟨v26, rfl, rfl⟩
                  refine RH.take 10 rfl (by kernel_rfl) rfl rfl rfl hB2 (Yp.fieldP rfl rfl Try.underlying26 rfl sz24) ?_
                  refine RH.one 11 (by kernel_rfl) ?_
                  refine RO.u rfl rfl rfl (Yu.storeB 3 rfl rfl rfl rfl sz24 (Pw.own 5 rfl) rfl (Nat.le_of_ble_eq_true rfl)) (inX (r := .box b3 26 [.lit v1, .lit v18, .i p0.fLeft, .b p0.fDown]) 0 rfl) ?_
                  refine RH.sel [2, 2, 2, 2] rfl ?_
                  refine RH.done (by kernel_rfl) ?_
                  cases hm
                  exact ⟨v26, (Sub.cons rfl (Sub.cons rfl (Sub.cons rfl (Sub.cons rfl (Sub.cons rfl Sub.nil))))), rfl⟩
                ·
                  refine RO.p rfl rfl rfl rfl rfl (Yp.build rfl plc56 zer56 rfl rfl) ?_
                  refine RH.two 1 8 (by kernel_rfl) ?_ ?_
                  ·
                    refine RO.p rfl rfl rfl rfl rfl (Yp.loadB1 2 rfl rfl rfl one24 rfl) ?_
                    refine RH.one 8 (by kernel_rfl) ?_
                    refine RO.v rfl rfl rfl rfl rfl (Yv.lit Write.cells ([(Write.mk ((p0.fPending[Int.toNat n6]!).fAt) x2)] : List Write) rfl Try.underlying24 sz56 zer56 rfl rfl rfl rfl rfl (fun i hi => by match i, hi with | 0, _ => rfl) (by decide) (by decide)) (fun b hb => absurd hb (by simp)) ?_
                    rintro _ _ ⟨v27, rfl, rfl⟩
                    refine RH.one 9 (by kernel_rfl) ?_
                    refine RO.v rfl rfl rfl rfl rfl (Yv.app (l := l10) (l2 := ([(Write.mk ((p0.fPending[Int.toNat n6]!).fAt) x2)] : List Write)) 5 rfl rfl rfl (.inr (.inr ⟨0, _, rfl, rfl⟩)) Try.underlying24 szb56 zer56 rfl rfl (fun _ => rfl) hc4) (inX (r := .row v18 56 2 Write.cells l10) 2 rfl) ?_
                    rintro _ _ ⟨v28, rfl, rfl⟩
                    refine RH.take 10 rfl (by kernel_rfl) rfl rfl rfl hB2 (Yp.fieldP rfl rfl Try.underlying26 rfl sz24) ?_
                    refine RH.one 11 (by kernel_rfl) ?_
                    refine RO.u rfl rfl rfl (Yu.storeB 3 rfl rfl rfl rfl sz24 (Pw.own 5 rfl) rfl (Nat.le_of_ble_eq_true rfl)) (inX (r := .box b3 26 [.lit v1, .lit v18, .i p0.fLeft, .b p0.fDown]) 0 rfl) ?_
                    refine RH.sel [2, 2, 2, 2] rfl ?_
                    refine RH.done (by kernel_rfl) ?_
                    cases hm
                    exact ⟨v28, (Sub.cons rfl (Sub.cons rfl (Sub.cons rfl (Sub.cons rfl (Sub.cons rfl Sub.nil))))), rfl⟩
                  ·
                    refine RO.v rfl rfl rfl rfl rfl (Yv.lit Write.cells ([(Write.mk ((p0.fPending[Int.toNat n6]!).fAt) x2)] : List Write) rfl Try.underlying24 sz56 zer56 rfl rfl rfl rfl rfl (fun i hi => by match i, hi with | 0, _ => rfl) (by decide) (by decide)) (fun b hb => absurd hb (by simp)) ?_
                    rintro _ _ ⟨v29, rfl, rfl⟩
                    refine RH.one 1 (by kernel_rfl) ?_
                    refine RO.p rfl rfl rfl rfl rfl (Yp.loadB1 3 rfl rfl rfl one24 rfl) ?_
                    refine RH.one 9 (by kernel_rfl) ?_
                    refine RO.v rfl rfl rfl rfl rfl (Yv.app (l := l10) (l2 := ([(Write.mk ((p0.fPending[Int.toNat n6]!).fAt) x2)] : List Write)) 5 rfl rfl rfl (.inr (.inr ⟨0, _, rfl, rfl⟩)) Try.underlying24 szb56 zer56 rfl rfl (fun _ => rfl) hc4) (inX (r := .row v18 56 2 Write.cells l10) 2 rfl) ?_
                    rintro _ _ ⟨v30, rfl, rfl⟩
                    refine RH.take 10 rfl (by kernel_rfl) rfl rfl rfl hB2 (Yp.fieldP rfl rfl Try.underlying26 rfl sz24) ?_
                    refine RH.one 11 (by kernel_rfl) ?_
                    refine RO.u rfl rfl rfl (Yu.storeB 3 rfl rfl rfl rfl sz24 (Pw.own 5 rfl) rfl (Nat.le_of_ble_eq_true rfl)) (inX (r := .box b3 26 [.lit v1, .lit v18, .i p0.fLeft, .b p0.fDown]) 0 rfl) ?_
                    refine RH.sel [2, 2, 2, 2] rfl ?_
                    refine RH.done (by kernel_rfl) ?_
                    cases hm
                    exact ⟨v30, (Sub.cons rfl (Sub.cons rfl (Sub.cons rfl (Sub.cons rfl (Sub.cons rfl Sub.nil))))), rfl⟩
            ·
              rintro E σ ⟨v20, hsub5, rfl⟩
              have hm := hk6
              refine CW.weak ?_ hsub5
              refine CW.region ?_
              refine RW.p rfl rfl rfl (Yp.add rfl rfl rfl) ?_
              refine RW.p rfl rfl rfl (Yp.move rfl rfl) ?_
              refine RW.nil ?_
              exact ⟨k2, Nat.lt_succ_self _, _, _, v20, (Sub.cons rfl (Sub.cons rfl (Sub.cons rfl (Sub.cons rfl (Sub.cons rfl Sub.nil))))), rfl, hm⟩
          ·
            have hm := iff' hm hb2
            refine CW.exit ?_
            cases hm
            have hm := hk5
            cases hm
            exact ⟨v18, (Sub.cons rfl (Sub.cons rfl Sub.nil)), rfl⟩
    ·
      rintro E σ ⟨v15, hsub6, rfl⟩
      have hm := hk4
      refine CW.weak ?_ hsub6
      refine CW.seq ?_
      refine CW.region ?_
      refine RW.p rfl rfl rfl (Yp.loadBN 1 rfl rfl rfl many26 (Nat.le_of_ble_eq_true rfl)) ?_
      refine RW.u rfl rfl (Yu.storeB 0 rfl rfl rfl rfl sz26 (Pw.agg (PwL.own 2 rfl (PwL.own 3 rfl (PwL.p rfl (PwL.p rfl PwL.nil))))) rfl (Nat.le_of_ble_eq_true rfl)) ?_
      refine RW.nil ?_
      refine CW.sel [2, 2, 0] rfl ?_
      refine CW.ret ?_
      cases hm
      exact fin1 (.inr rfl) rfl (ResIs.cellN 2 rfl rfl many26 rfl) (.cons_cons _ (.cons_cons _ (List.nil_sublist _))) ⟨v1, v15, rfl, rfl⟩

def m20 (p0 : Disk) (p1 : Int) (p2 : List Int) : Option (Disk × Int) :=
  (m25 p0).bind fun x1 =>
  if (!x1) = true then
    some ((Disk.mk [] [] 0 false), 1)
  else
    (m30_1 p0).bind fun x2 =>
    Option.bind (
      if (decide (p1 < 0)) = true then
        some true
      else
        some (decide ((p0.fDurable.length : Int) ≤ p1))) fun c1 =>
    if c1 = true then
      some (x2, 3)
    else
      if (!decide ((p2.length : Int) = 96)) = true then
        some (x2, 2)
      else
        if p0.fDown = true then
          some (x2, 17)
        else
          if (decide ((p0.fPending.length : Int) = 8192)) = true then
            some (x2, 16)
          else
            if (decide (p0.fLeft = 0)) = true then
              some ((Disk.mk x2.fDurable x2.fPending x2.fLeft true), 17)
            else
              Option.bind (
                (m31 p2).bind fun x3 =>
                if (x2.fPending ++ [(Write.mk p1 x3)]).length ≤ 1073741824 then
                some (x2.fPending ++ [(Write.mk p1 x3)])
                else none) fun l1 =>
              Option.bind (
                if (decide ((0 : Int) < x2.fLeft)) = true then
                  some (w64 (x2.fLeft - 1))
                else
                  some x2.fLeft) fun n1 =>
              some ((Disk.mk x2.fDurable l1 n1 x2.fDown), 0)

theorem m20_ok (p0 : Disk) (p1 : Int) (p2 : List Int)  {r : Disk × Int} (hm : m20 p0 p1 p2 = some r) : Ab.Fn Try.prog 20 [.agg [.sl 1 (cL 1 (cN .u8)) p0.fDurable, .sl 2 Write.cells p0.fPending, .i p0.fLeft, .b p0.fDown], .i p1, .sl 1 (cN .u8) p2] [] (fun a s => a = .tup [.agg [.sl 1 (cL 1 (cN .u8)) r.1.fDurable, .sl 2 Write.cells r.1.fPending, .i r.1.fLeft, .b r.1.fDown], .i r.2] ∧ s = []) := by
  rw [m20] at hm
  refine Ab.Fn.of Try.func20 rfl rfl rfl (fun C => ?_)
  refine CW.seq ?_
  refine CW.region ?_
  refine RW.v rfl rfl rfl (Yv.box rfl rfl (Pw.p rfl)) ?_
  rintro _ _ ⟨b1, rfl, rfl⟩
  refine RW.v rfl rfl rfl (Yv.alloc rfl zerb26) ?_
  rintro _ _ ⟨b2, rfl, rfl⟩
  refine RW.p rfl rfl rfl (Yp.assign rfl rfl) ?_
  refine RW.nil ?_
  refine CW.seq ?_
  refine CW.seq ?_
  refine CW.region ?_
  refine RW.p rfl rfl rfl (Yp.loadBN 1 rfl rfl rfl many26 (Nat.le_of_ble_eq_true rfl)) ?_
  obtain ⟨x1, hx1, hm⟩ := bnd hm
  refine RW.c rfl rfl rfl (Yc.fnV (σp := []) (args' := [.agg [.sl 1 (cL 1 (cN .u8)) p0.fDurable, .sl 2 Write.cells p0.fPending, .i p0.fLeft, .b p0.fDown]]) rfl rfl ok25 rfl rfl rfl (VwL.id _) (m25_ok p0 hx1)) ?_
  rintro _ _ ⟨_, ⟨rfl, rfl⟩, rfl⟩
  refine RW.p rfl rfl rfl (Yp.not rfl rfl) ?_
  refine RW.nil ?_
  refine CW.cond rfl (fun hb1 => ?_) (fun hb1 => ?_)
  ·
    have hm := ift hm hb1
    refine CW.seq ?_
    refine CW.region ?_
    refine RW.p rfl rfl rfl (Yp.build rfl plc26 zer26 rfl rfl) ?_
    refine RW.u rfl rfl (Yu.storeB 0 rfl rfl rfl rfl sz26 (Pw.p rfl) rfl (Nat.le_of_ble_eq_true rfl)) ?_
    refine RW.p rfl rfl rfl (Yp.assign rfl rfl) ?_
    refine RW.nil ?_
    refine CW.sayB 0 rfl (VwL.cons (Vw.nil 1 (cL 1 (cN .u8))) (VwL.cons (Vw.nil 2 Write.cells) (VwL.cons (Vw.id _) (VwL.cons (Vw.id _) VwL.nil)))) ?_
    refine CW.ret ?_
    cases hm
    exact fin2 (.inr rfl) rfl (ResIs.cellN 0 rfl rfl many26 rfl) (ResIs.tmp rfl) (List.nil_sublist _) ⟨rfl, rfl⟩
  ·
    have hm := iff' hm hb1
    refine CW.skip ?_
    refine CW.seq ?_
    refine CW.region ?_
    refine RW.p rfl rfl rfl (Yp.loadBN 1 rfl rfl rfl many26 (Nat.le_of_ble_eq_true rfl)) ?_
    obtain ⟨x2, hx2, hm⟩ := bnd hm
    refine RW.c rfl rfl rfl (Yc.fnV (σp := []) (args' := [.agg [.sl 1 (cL 1 (cN .u8)) p0.fDurable, .sl 2 Write.cells p0.fPending, .i p0.fLeft, .b p0.fDown]]) rfl rfl ok30 rfl rfl rfl (VwL.id _) (m30_1_ok p0 hx2)) ?_
    rintro _ _ ⟨_, ⟨v1, v2, rfl, rfl⟩, rfl⟩
    refine RW.v rfl rfl rfl (Yv.alloc rfl zerb26) ?_
    rintro _ _ ⟨b3, rfl, rfl⟩
    refine RW.u rfl rfl (Yu.storeB 0 rfl rfl rfl rfl sz26 (Pw.agg (PwL.own 1 rfl (PwL.own 2 rfl (PwL.p rfl (PwL.p rfl PwL.nil))))) rfl (Nat.le_of_ble_eq_true rfl)) ?_
    refine RW.nil ?_
    refine CW.seq ?_
    refine CW.block ?_
    refine CW.seq ?_
    obtain ⟨c1, hs1, hk1⟩ := bnd hm
    refine CW.cut (fun E σ => Sub [(1, .i p1), (2, .sl 1 (cN .u8) p2), (3, .lit (.pointer (some ⟨b1, 0, none⟩))), (6, .lit (.pointer (some ⟨b2, 0, none⟩))), (8, .lit (.pointer (some ⟨b3, 0, none⟩))), (15, .b c1)] E ∧ σ = [.box b1 26 [.sl 1 (cL 1 (cN .u8)) p0.fDurable, .sl 2 Write.cells p0.fPending, .i p0.fLeft, .b p0.fDown], .box b2 26 [.lit (.slice none 0 0), .lit (.slice none 0 0), .i 0, .b false], .box b3 26 [.lit v1, .lit v2, .i x2.fLeft, .b x2.fDown], .row v1 29 1 (cL 1 (cN .u8)) x2.fDurable, .row v2 56 2 Write.cells x2.fPending]) ?_ ?_
    ·
      have hm := hs1
      refine CW.region ?_
      refine RW.p rfl rfl rfl (Yp.move rfl rfl) ?_
      refine RW.p rfl rfl rfl (Yp.lss rfl rfl rfl) ?_
      refine RW.p rfl rfl rfl (Yp.move rfl rfl) ?_
      rcases Bool.eq_false_or_eq_true (decide (p1 < 0)) with hb2 | hb2
      ·
        have hm := ift hm hb2
        refine RW.eqv 18 rfl (congrArg AV.b hb2) ?_
        refine RW.skip rfl rfl rfl ?_
        refine RW.skip rfl rfl rfl ?_
        refine RW.skip rfl rfl rfl ?_
        refine RW.skip rfl rfl rfl ?_
        refine RW.skip rfl rfl rfl ?_
        refine RW.p rfl rfl rfl (Yp.pickT rfl rfl rfl) ?_
        refine RW.p rfl rfl rfl (Yp.assign rfl rfl) ?_
        refine RW.sel [4, 3, 0, 0, 0] rfl ?_
        refine RW.nil ?_
        cases hm
        exact ⟨(Sub.cons rfl (Sub.cons rfl (Sub.cons rfl (Sub.cons rfl (Sub.cons rfl (Sub.cons rfl Sub.nil)))))), rfl⟩
      ·
        have hm := iff' hm hb2
        refine RW.eqv 18 rfl (congrArg AV.b hb2) ?_
        refine RW.p rfl rfl rfl (Yp.move rfl rfl) ?_
        refine RW.p rfl rfl rfl (Yp.fieldP rfl rfl Try.underlying26 rfl sz23) ?_
        refine RW.p rfl rfl rfl (Yp.loadB1 4 rfl rfl rfl one23 rfl) ?_
        refine RW.p rfl rfl rfl (Yp.lenSl rfl rfl Try.underlying23) ?_
        refine RW.p rfl rfl rfl (Yp.geq rfl rfl rfl) ?_
        refine RW.p rfl rfl rfl (Yp.pickF rfl rfl rfl) ?_
        refine RW.p rfl rfl rfl (Yp.assign rfl rfl) ?_
        refine RW.sel [4, 3, 0, 0, 0] rfl ?_
        refine RW.nil ?_
        cases hm
        exact ⟨(Sub.cons rfl (Sub.cons rfl (Sub.cons rfl (Sub.cons rfl (Sub.cons rfl (Sub.cons rfl Sub.nil)))))), rfl⟩
    ·
      rintro E σ ⟨hsub1, rfl⟩
      have hm := hk1
      refine CW.weak ?_ hsub1
      refine CW.cond rfl (fun hb3 => ?_) (fun hb3 => ?_)
      ·
        have hm := ift hm hb3
        refine CW.seq ?_
        refine CW.region ?_
        refine RW.p rfl rfl rfl (Yp.loadBN 2 rfl rfl rfl many26 (Nat.le_of_ble_eq_true rfl)) ?_
        refine RW.u rfl rfl (Yu.storeB 1 rfl rfl rfl rfl sz26 (Pw.agg (PwL.own 3 rfl (PwL.own 4 rfl (PwL.p rfl (PwL.p rfl PwL.nil))))) rfl (Nat.le_of_ble_eq_true rfl)) ?_
        refine RW.p rfl rfl rfl (Yp.assign rfl rfl) ?_
        refine RW.nil ?_
        refine CW.frzB 3 1 rfl rfl (VwL.cons (Vw.row 0 rfl) (VwL.cons (Vw.id _) (VwL.cons (Vw.id _) (VwL.cons (Vw.id _) VwL.nil)))) ?_
        refine CW.frzB 3 1 rfl rfl (VwL.cons (Vw.id _) (VwL.cons (Vw.row 0 rfl) (VwL.cons (Vw.id _) (VwL.cons (Vw.id _) VwL.nil)))) ?_
        refine CW.ret ?_
        cases hm
        exact fin2 (.inr rfl) rfl (ResIs.cellN 1 rfl rfl many26 rfl) (ResIs.tmp rfl) (List.nil_sublist _) ⟨rfl, rfl⟩
      ·
        have hm := iff' hm hb3
        refine CW.seq ?_
        refine CW.region ?_
        refine RW.p rfl rfl rfl (Yp.move rfl rfl) ?_
        refine RW.p rfl rfl rfl (Yp.lenSl rfl rfl Try.underlying29) ?_
        refine RW.p rfl rfl rfl (Yp.neq rfl rfl rfl) ?_
        refine RW.p rfl rfl rfl (Yp.assign rfl rfl) ?_
        refine RW.nil ?_
        refine CW.cond rfl (fun hb4 => ?_) (fun hb4 => ?_)
        ·
          have hm := ift hm hb4
          refine CW.seq ?_
          refine CW.region ?_
          refine RW.p rfl rfl rfl (Yp.loadBN 2 rfl rfl rfl many26 (Nat.le_of_ble_eq_true rfl)) ?_
          refine RW.u rfl rfl (Yu.storeB 1 rfl rfl rfl rfl sz26 (Pw.agg (PwL.own 3 rfl (PwL.own 4 rfl (PwL.p rfl (PwL.p rfl PwL.nil))))) rfl (Nat.le_of_ble_eq_true rfl)) ?_
          refine RW.p rfl rfl rfl (Yp.assign rfl rfl) ?_
          refine RW.nil ?_
          refine CW.frzB 3 1 rfl rfl (VwL.cons (Vw.row 0 rfl) (VwL.cons (Vw.id _) (VwL.cons (Vw.id _) (VwL.cons (Vw.id _) VwL.nil)))) ?_
          refine CW.frzB 3 1 rfl rfl (VwL.cons (Vw.id _) (VwL.cons (Vw.row 0 rfl) (VwL.cons (Vw.id _) (VwL.cons (Vw.id _) VwL.nil)))) ?_
          refine CW.ret ?_
          cases hm
          exact fin2 (.inr rfl) rfl (ResIs.cellN 1 rfl rfl many26 rfl) (ResIs.tmp rfl) (List.nil_sublist _) ⟨rfl, rfl⟩
        ·
          have hm := iff' hm hb4
          refine CW.seq ?_
          refine CW.region ?_
          refine RW.p rfl rfl rfl (Yp.fieldP rfl rfl Try.underlying26 rfl sz4) ?_
          refine RW.p rfl rfl rfl (Yp.loadB1 0 rfl rfl rfl one4 rfl) ?_
          refine RW.p rfl rfl rfl (Yp.assign rfl rfl) ?_
          refine RW.nil ?_
          refine CW.cond rfl (fun hb5 => ?_) (fun hb5 => ?_)
          ·
            have hm := ift hm hb5
            refine CW.seq ?_
            refine CW.region ?_
            refine RW.p rfl rfl rfl (Yp.loadBN 2 rfl rfl rfl many26 (Nat.le_of_ble_eq_true rfl)) ?_
            refine RW.u rfl rfl (Yu.storeB 1 rfl rfl rfl rfl sz26 (Pw.agg (PwL.own 3 rfl (PwL.own 4 rfl (PwL.p rfl (PwL.p rfl PwL.nil))))) rfl (Nat.le_of_ble_eq_true rfl)) ?_
            refine RW.p rfl rfl rfl (Yp.assign rfl rfl) ?_
            refine RW.nil ?_
            refine CW.frzB 3 1 rfl rfl (VwL.cons (Vw.row 0 rfl) (VwL.cons (Vw.id _) (VwL.cons (Vw.id _) (VwL.cons (Vw.id _) VwL.nil)))) ?_
            refine CW.frzB 3 1 rfl rfl (VwL.cons (Vw.id _) (VwL.cons (Vw.row 0 rfl) (VwL.cons (Vw.id _) (VwL.cons (Vw.id _) VwL.nil)))) ?_
            refine CW.ret ?_
            cases hm
            exact fin2 (.inr rfl) rfl (ResIs.cellN 1 rfl rfl many26 rfl) (ResIs.tmp rfl) (List.nil_sublist _) ⟨rfl, rfl⟩
          ·
            have hm := iff' hm hb5
            refine CW.seq ?_
            refine CW.region ?_
            refine RW.p rfl rfl rfl (Yp.fieldP rfl rfl Try.underlying26 rfl sz24) ?_
            refine RW.p rfl rfl rfl (Yp.loadB1 0 rfl rfl rfl one24 rfl) ?_
            refine RW.p rfl rfl rfl (Yp.lenSl rfl rfl Try.underlying24) ?_
            refine RW.p rfl rfl rfl (Yp.eql rfl rfl rfl) ?_
            refine RW.p rfl rfl rfl (Yp.assign rfl rfl) ?_
            refine RW.nil ?_
            refine CW.cond rfl (fun hb6 => ?_) (fun hb6 => ?_)
            ·
              have hm := ift hm hb6
              refine CW.seq ?_
              refine CW.region ?_
              refine RW.p rfl rfl rfl (Yp.loadBN 2 rfl rfl rfl many26 (Nat.le_of_ble_eq_true rfl)) ?_
              refine RW.u rfl rfl (Yu.storeB 1 rfl rfl rfl rfl sz26 (Pw.agg (PwL.own 3 rfl (PwL.own 4 rfl (PwL.p rfl (PwL.p rfl PwL.nil))))) rfl (Nat.le_of_ble_eq_true rfl)) ?_
              refine RW.p rfl rfl rfl (Yp.assign rfl rfl) ?_
              refine RW.nil ?_
              refine CW.frzB 3 1 rfl rfl (VwL.cons (Vw.row 0 rfl) (VwL.cons (Vw.id _) (VwL.cons (Vw.id _) (VwL.cons (Vw.id _) VwL.nil)))) ?_
              refine CW.frzB 3 1 rfl rfl (VwL.cons (Vw.id _) (VwL.cons (Vw.row 0 rfl) (VwL.cons (Vw.id _) (VwL.cons (Vw.id _) VwL.nil)))) ?_
              refine CW.ret ?_
              cases hm
              exact fin2 (.inr rfl) rfl (ResIs.cellN 1 rfl rfl many26 rfl) (ResIs.tmp rfl) (List.nil_sublist _) ⟨rfl, rfl⟩
            ·
              have hm := iff' hm hb6
              refine CW.seq ?_
              refine CW.region ?_
              refine RW.p rfl rfl rfl (Yp.fieldP rfl rfl Try.underlying26 rfl sz3) ?_
              refine RW.p rfl rfl rfl (Yp.loadB1 0 rfl rfl rfl one3 rfl) ?_
              refine RW.p rfl rfl rfl (Yp.eql rfl rfl rfl) ?_
              refine RW.p rfl rfl rfl (Yp.assign rfl rfl) ?_
              refine RW.nil ?_
              refine CW.cond rfl (fun hb7 => ?_) (fun hb7 => ?_)
              ·
                have hm := ift hm hb7
                refine CW.seq ?_
                refine CW.region ?_
                refine RW.p rfl rfl rfl (Yp.fieldP rfl rfl Try.underlying26 rfl sz4) ?_
                refine RW.u rfl rfl (Yu.storeB 2 rfl rfl rfl rfl sz4 (Pw.p rfl) rfl (Nat.le_of_ble_eq_true rfl)) ?_
                refine RW.nil ?_
                refine CW.seq ?_
                refine CW.region ?_
                refine RW.p rfl rfl rfl (Yp.loadBN 2 rfl rfl rfl many26 (Nat.le_of_ble_eq_true rfl)) ?_
                refine RW.u rfl rfl (Yu.storeB 1 rfl rfl rfl rfl sz26 (Pw.agg (PwL.own 3 rfl (PwL.own 4 rfl (PwL.p rfl (PwL.p rfl PwL.nil))))) rfl (Nat.le_of_ble_eq_true rfl)) ?_
                refine RW.p rfl rfl rfl (Yp.assign rfl rfl) ?_
                refine RW.nil ?_
                refine CW.frzB 3 1 rfl rfl (VwL.cons (Vw.row 0 rfl) (VwL.cons (Vw.id _) (VwL.cons (Vw.id _) (VwL.cons (Vw.id _) VwL.nil)))) ?_
                refine CW.frzB 3 1 rfl rfl (VwL.cons (Vw.id _) (VwL.cons (Vw.row 0 rfl) (VwL.cons (Vw.id _) (VwL.cons (Vw.id _) VwL.nil)))) ?_
                refine CW.ret ?_
                cases hm
                exact fin2 (.inr rfl) rfl (ResIs.cellN 1 rfl rfl many26 rfl) (ResIs.tmp rfl) (List.nil_sublist _) ⟨rfl, rfl⟩
              ·
                have hm := iff' hm hb7
                refine CW.skip ?_
                refine CW.seq ?_
                obtain ⟨l1, hs2, hk2⟩ := bnd hm
                refine CW.cut (fun E σ => ∃ v3 : Value, Sub [(6, .lit (.pointer (some ⟨b2, 0, none⟩))), (8, .lit (.pointer (some ⟨b3, 0, none⟩)))] E ∧ σ = [.box b2 26 [.lit (.slice none 0 0), .lit (.slice none 0 0), .i 0, .b false], .box b3 26 [.lit v1, .lit v3, .i x2.fLeft, .b x2.fDown], .row v1 29 1 (cL 1 (cN .u8)) x2.fDurable, .row v3 56 2 Write.cells l1]) ?_ ?_
                ·
                  have hm := hs2
                  obtain ⟨x3, hx3, hm⟩ := bnd hm
                  obtain ⟨hc1, hm⟩ := chk hm
                  refine CW.drawSel 10 rfl [2, 2, 2, 0, 0] [.box b3 26 [.lit v1, .lit v2, .i x2.fLeft, .b x2.fDown], .row v1 29 1 (cL 1 (cN .u8)) x2.fDurable, .row v2 56 2 Write.cells x2.fPending] [.box b1 26 [.sl 1 (cL 1 (cN .u8)) p0.fDurable, .sl 2 Write.cells p0.fPending, .i p0.fLeft, .b p0.fDown], .box b2 26 [.lit (.slice none 0 0), .lit (.slice none 0 0), .i 0, .b false]] rfl (by kernel_rfl) ?_
                  intro A1 w1 hB1
                  refine RH.take 0 rfl (by kernel_rfl) rfl rfl rfl hB1 (Yp.fieldP rfl rfl Try.underlying26 rfl sz24) ?_
                  refine RH.take 2 rfl (by kernel_rfl) rfl rfl rfl hB1 (Yp.move rfl rfl) ?_
                  refine RH.take 3 rfl (by kernel_rfl) rfl rfl rfl hB1 (Yp.move rfl rfl) ?_
                  refine RH.two 1 4 (by kernel_rfl) ?_ ?_
                  ·
                    refine RO.p rfl rfl rfl rfl rfl (Yp.loadB1 2 rfl rfl rfl one24 rfl) ?_
                    refine RH.one 4 (by kernel_rfl) ?_
                    refine RO.c rfl rfl rfl rfl rfl (Yc.fnV (σp := []) (args' := [.sl 1 (cN .u8) p2]) rfl rfl ok31 rfl rfl rfl (VwL.id _) (m31_ok p2 hx3)) (fun b hb => absurd hb (by simp [blks])) ?_
                    rintro _ _ ⟨_, ⟨rfl, rfl⟩, rfl⟩
                    refine RH.one 5 (by kernel_rfl) ?_
                    refine RO.p rfl rfl rfl rfl rfl (Yp.build rfl plc56 zer56 rfl rfl) ?_
                    refine RH.one 6 (by kernel_rfl) ?_
                    refine RO.v rfl rfl rfl rfl rfl (Yv.lit Write.cells ([(Write.mk p1 x3)] : List Write) rfl Try.underlying24 sz56 zer56 rfl rfl rfl rfl rfl (fun i hi => by match i, hi with | 0, _ => rfl) (by decide) (by decide)) (fun b hb => absurd hb (by simp)) ?_
                    rintro _ _ ⟨v6, rfl, rfl⟩
                    refine RH.one 7 (by kernel_rfl) ?_
                    refine RO.v rfl rfl rfl rfl rfl (Yv.app (l := x2.fPending) (l2 := ([(Write.mk p1 x3)] : List Write)) 5 rfl rfl rfl (.inr (.inr ⟨0, _, rfl, rfl⟩)) Try.underlying24 szb56 zer56 rfl rfl (fun _ => rfl) hc1) (inX (r := .row v2 56 2 Write.cells x2.fPending) 2 rfl) ?_
                    rintro _ _ ⟨v7, rfl, rfl⟩
                    refine RH.take 8 rfl (by kernel_rfl) rfl rfl rfl hB1 (Yp.fieldP rfl rfl Try.underlying26 rfl sz24) ?_
                    refine RH.one 9 (by kernel_rfl) ?_
                    refine RO.u rfl rfl rfl (Yu.storeB 3 rfl rfl rfl rfl sz24 (Pw.own 5 rfl) rfl (Nat.le_of_ble_eq_true rfl)) (inX (r := .box b3 26 [.lit v1, .lit v2, .i x2.fLeft, .b x2.fDown]) 0 rfl) ?_
                    refine RH.sel [2, 2, 2, 2] rfl ?_
                    refine RH.done (by kernel_rfl) ?_
                    cases hm
                    exact ⟨v7, (Sub.cons rfl (Sub.cons rfl Sub.nil)), rfl⟩
                  ·
                    refine RO.c rfl rfl rfl rfl rfl (Yc.fnV (σp := []) (args' := [.sl 1 (cN .u8) p2]) rfl rfl ok31 rfl rfl rfl (VwL.id _) (m31_ok p2 hx3)) (fun b hb => absurd hb (by simp [blks])) ?_
                    rintro _ _ ⟨_, ⟨rfl, rfl⟩, rfl⟩
                    refine RH.two 1 5 (by kernel_rfl) ?_ ?_
                    ·
                      refine RO.p rfl rfl rfl rfl rfl (Yp.loadB1 2 rfl rfl rfl one24 rfl) ?_
                      refine RH.one 5 (by kernel_rfl) ?_
                      refine RO.p rfl rfl rfl rfl rfl (Yp.build rfl plc56 zer56 rfl rfl) ?_
                      refine RH.one 6 (by kernel_rfl) ?_
                      refine RO.v rfl rfl rfl rfl rfl (Yv.lit Write.cells ([(Write.mk p1 x3)] : List Write) rfl Try.underlying24 sz56 zer56 rfl rfl rfl rfl rfl (fun i hi => by match i, hi with | 0, _ => rfl) (by decide) (by decide)) (fun b hb => absurd hb (by simp)) ?_
                      rintro _ _ ⟨v8, rfl, rfl⟩
                      refine RH.one 7 (by kernel_rfl) ?_
                      refine RO.v rfl rfl rfl rfl rfl (Yv.app (l := x2.fPending) (l2 := ([(Write.mk p1 x3)] : List Write)) 5 rfl rfl rfl (.inr (.inr ⟨0, _, rfl, rfl⟩)) Try.underlying24 szb56 zer56 rfl rfl (fun _ => rfl) hc1) (inX (r := .row v2 56 2 Write.cells x2.fPending) 2 rfl) ?_
                      rintro _ _ ⟨v9, rfl, rfl⟩
                      refine RH.take 8 rfl (by kernel_rfl) rfl rfl rfl hB1 (Yp.fieldP rfl rfl Try.underlying26 rfl sz24) ?_
                      refine RH.one 9 (by kernel_rfl) ?_
                      refine RO.u rfl rfl rfl (Yu.storeB 3 rfl rfl rfl rfl sz24 (Pw.own 5 rfl) rfl (Nat.le_of_ble_eq_true rfl)) (inX (r := .box b3 26 [.lit v1, .lit v2, .i x2.fLeft, .b x2.fDown]) 0 rfl) ?_
                      refine RH.sel [2, 2, 2, 2] rfl ?_
                      refine RH.done (by kernel_rfl) ?_
                      cases hm
                      exact ⟨v9, (Sub.cons rfl (Sub.cons rfl Sub.nil)), rfl⟩
                    ·
                      refine RO.p rfl rfl rfl rfl rfl (Yp.build rfl plc56 zer56 rfl rfl) ?_
                      refine RH.two 1 6 (by kernel_rfl) ?_ ?_
                      ·
                        refine RO.p rfl rfl rfl rfl rfl (Yp.loadB1 2 rfl rfl rfl one24 rfl) ?_
                        refine RH.one 6 (by kernel_rfl) ?_
                        refine RO.v rfl rfl rfl rfl rfl (Yv.lit Write.cells ([(Write.mk p1 x3)] : List Write) rfl Try.underlying24 sz56 zer56 rfl rfl rfl rfl rfl (fun i hi => by match i, hi with | 0, _ => rfl) (by decide) (by decide)) (fun b hb => absurd hb (by simp)) ?_
                        rintro _ _ ⟨v10, rfl, rfl⟩
                        refine RH.one 7 (by kernel_rfl) ?_
                        refine RO.v rfl rfl rfl rfl rfl (Yv.app (l := x2.fPending) (l2 := ([(Write.mk p1 x3)] : List Write)) 5 rfl rfl rfl (.inr (.inr ⟨0, _, rfl, rfl⟩)) Try.underlying24 szb56 zer56 rfl rfl (fun _ => rfl) hc1) (inX (r := .row v2 56 2 Write.cells x2.fPending) 2 rfl) ?_
                        rintro _ _ ⟨v11, rfl, rfl⟩
                        refine RH.take 8 rfl (by kernel_rfl) rfl rfl rfl hB1 (Yp.fieldP rfl rfl Try.underlying26 rfl sz24) ?_
                        refine RH.one 9 (by kernel_rfl) ?_
                        refine RO.u rfl rfl rfl (Yu.storeB 3 rfl rfl rfl rfl sz24 (Pw.own 5 rfl) rfl (Nat.le_of_ble_eq_true rfl)) (inX (r := .box b3 26 [.lit v1, .lit v2, .i x2.fLeft, .b x2.fDown]) 0 rfl) ?_
                        refine RH.sel [2, 2, 2, 2] rfl ?_
                        refine RH.done (by kernel_rfl) ?_
                        cases hm
                        exact ⟨v11, (Sub.cons rfl (Sub.cons rfl Sub.nil)), rfl⟩
                      ·
                        refine RO.v rfl rfl rfl rfl rfl (Yv.lit Write.cells ([(Write.mk p1 x3)] : List Write) rfl Try.underlying24 sz56 zer56 rfl rfl rfl rfl rfl (fun i hi => by match i, hi with | 0, _ => rfl) (by decide) (by decide)) (fun b hb => absurd hb (by simp)) ?_
                        rintro _ _ ⟨v12, rfl, rfl⟩
                        refine RH.one 1 (by kernel_rfl) ?_
                        refine RO.p rfl rfl rfl rfl rfl (Yp.loadB1 3 rfl rfl rfl one24 rfl) ?_
                        refine RH.one 7 (by kernel_rfl) ?_
                        refine RO.v rfl rfl rfl rfl rfl (Yv.app (l := x2.fPending) (l2 := ([(Write.mk p1 x3)] : List Write)) 5 rfl rfl rfl (.inr (.inr ⟨0, _, rfl, rfl⟩)) Try.underlying24 szb56 zer56 rfl rfl (fun _ => rfl) hc1) (inX (r := .row v2 56 2 Write.cells x2.fPending) 2 rfl) ?_
                        rintro _ _ ⟨v13, rfl, rfl⟩
                        refine RH.take 8 rfl (by kernel_rfl) rfl rfl rfl hB1 (Yp.fieldP rfl rfl Try.underlying26 rfl sz24) ?_
                        refine RH.one 9 (by kernel_rfl) ?_
                        refine RO.u rfl rfl rfl (Yu.storeB 3 rfl rfl rfl rfl sz24 (Pw.own 5 rfl) rfl (Nat.le_of_ble_eq_true rfl)) (inX (r := .box b3 26 [.lit v1, .lit v2, .i x2.fLeft, .b x2.fDown]) 0 rfl) ?_
                        refine RH.sel [2, 2, 2, 2] rfl ?_
                        refine RH.done (by kernel_rfl) ?_
                        cases hm
                        exact ⟨v13, (Sub.cons rfl (Sub.cons rfl Sub.nil)), rfl⟩
                ·
                  rintro E σ ⟨v3, hsub2, rfl⟩
                  have hm := hk2
                  refine CW.weak ?_ hsub2
                  refine CW.seq ?_
                  obtain ⟨n1, hs3, hk3⟩ := bnd hm
                  refine CW.cut (fun E σ => Sub [(6, .lit (.pointer (some ⟨b2, 0, none⟩))), (8, .lit (.pointer (some ⟨b3, 0, none⟩)))] E ∧ σ = [.box b2 26 [.lit (.slice none 0 0), .lit (.slice none 0 0), .i 0, .b false], .box b3 26 [.lit v1, .lit v3, .i n1, .b x2.fDown], .row v1 29 1 (cL 1 (cN .u8)) x2.fDurable, .row v3 56 2 Write.cells l1]) ?_ ?_
                  ·
                    have hm := hs3
                    refine CW.seq ?_
                    refine CW.region ?_
                    refine RW.p rfl rfl rfl (Yp.fieldP rfl rfl Try.underlying26 rfl sz3) ?_
                    refine RW.p rfl rfl rfl (Yp.loadB1 1 rfl rfl rfl one3 rfl) ?_
                    refine RW.p rfl rfl rfl (Yp.gtr rfl rfl rfl) ?_
                    refine RW.nil ?_
                    refine CW.cond rfl (fun hb8 => ?_) (fun hb8 => ?_)
                    ·
                      have hm := ift hm hb8
                      refine CW.region ?_
                      refine RW.p rfl rfl rfl (Yp.fieldP rfl rfl Try.underlying26 rfl sz3) ?_
                      refine RW.p rfl rfl rfl (Yp.loadB1 1 rfl rfl rfl one3 rfl) ?_
                      refine RW.p rfl rfl rfl (Yp.sub rfl rfl rfl) ?_
                      refine RW.p rfl rfl rfl (Yp.fieldP rfl rfl Try.underlying26 rfl sz3) ?_
                      refine RW.u rfl rfl (Yu.storeB 1 rfl rfl rfl rfl sz3 (Pw.p rfl) rfl (Nat.le_of_ble_eq_true rfl)) ?_
                      refine RW.nil ?_
                      cases hm
                      exact ⟨(Sub.cons rfl (Sub.cons rfl Sub.nil)), rfl⟩
                    ·
                      have hm := iff' hm hb8
                      refine CW.skip ?_
                      cases hm
                      exact ⟨(Sub.cons rfl (Sub.cons rfl Sub.nil)), rfl⟩
                  ·
                    rintro E σ ⟨hsub3, rfl⟩
                    have hm := hk3
                    refine CW.weak ?_ hsub3
                    refine CW.seq ?_
                    refine CW.region ?_
                    refine RW.p rfl rfl rfl (Yp.loadBN 1 rfl rfl rfl many26 (Nat.le_of_ble_eq_true rfl)) ?_
                    refine RW.u rfl rfl (Yu.storeB 0 rfl rfl rfl rfl sz26 (Pw.agg (PwL.own 2 rfl (PwL.own 3 rfl (PwL.p rfl (PwL.p rfl PwL.nil))))) rfl (Nat.le_of_ble_eq_true rfl)) ?_
                    refine RW.p rfl rfl rfl (Yp.assign rfl rfl) ?_
                    refine RW.nil ?_
                    refine CW.frzB 2 0 rfl rfl (VwL.cons (Vw.row 0 rfl) (VwL.cons (Vw.id _) (VwL.cons (Vw.id _) (VwL.cons (Vw.id _) VwL.nil)))) ?_
                    refine CW.frzB 2 0 rfl rfl (VwL.cons (Vw.id _) (VwL.cons (Vw.row 0 rfl) (VwL.cons (Vw.id _) (VwL.cons (Vw.id _) VwL.nil)))) ?_
                    refine CW.ret ?_
                    cases hm
                    exact fin2 (.inr rfl) rfl (ResIs.cellN 0 rfl rfl many26 rfl) (ResIs.tmp rfl) (List.nil_sublist _) ⟨rfl, rfl⟩

def m42_l1 (p0 : List (List Int)) (p1 : List (List Int)) : Nat → Int → Option (Sum Unit Bool)
  | 0, _ => none
  | k1 + 1, n3 =>
    if (decide (n3 < (p0.length : Int))) = true then
      if 0 ≤ n3 ∧ n3 < (p0.length : Int) then
      if 0 ≤ n3 ∧ n3 < (p1.length : Int) then
      (m14 (p0[Int.toNat n3]!) (p1[Int.toNat n3]!)).bind fun x1 =>
      if (!x1) = true then
        some (Sum.inr false)
      else
        m42_l1 p0 p1 k1 (w64 (n3 + 1))
      else none
      else none
    else
      some (Sum.inl ())
def m42 (p0 : List (List Int)) (p1 : List (List Int)) : Option Bool :=
  if (!decide ((p0.length : Int) = (p1.length : Int))) = true then
    some false
  else
    Option.bind (
      (m42_l1 p0 p1 (Int.toNat (p0.length : Int) + 1) 0).bind fun o2 =>
      match o2 with
      | .inl () =>
        some (Sum.inl ())
      | .inr r =>
        some (Sum.inr r)) fun o1 =>
    match o1 with
    | .inl () =>
      some true
    | .inr r =>
      some r

theorem m42_ok (p0 : List (List Int)) (p1 : List (List Int))  {r : Bool} (hm : m42 p0 p1 = some r) : Ab.Fn Try.prog 42 [.sl 1 (cL 1 (cN .u8)) p0, .sl 1 (cL 1 (cN .u8)) p1, .fn (.func 14) []] [] (fun a s => a = .b r ∧ s = []) := by
  rw [m42] at hm
  refine Ab.Fn.of Try.func42 rfl rfl rfl (fun C => ?_)
  refine CW.seq ?_
  refine CW.region ?_
  refine RW.p rfl rfl rfl (Yp.assign rfl rfl) ?_
  refine RW.nil ?_
  refine CW.seq ?_
  refine CW.seq ?_
  refine CW.region ?_
  refine RW.p rfl rfl rfl (Yp.move rfl rfl) ?_
  refine RW.p rfl rfl rfl (Yp.lenSl rfl rfl Try.underlying23) ?_
  refine RW.p rfl rfl rfl (Yp.move rfl rfl) ?_
  refine RW.p rfl rfl rfl (Yp.lenSl rfl rfl Try.underlying23) ?_
  refine RW.p rfl rfl rfl (Yp.neq rfl rfl rfl) ?_
  refine RW.nil ?_
  refine CW.cond rfl (fun hb1 => ?_) (fun hb1 => ?_)
  ·
    have hm := ift hm hb1
    refine CW.seq ?_
    refine CW.region ?_
    refine RW.p rfl rfl rfl (Yp.assign rfl rfl) ?_
    refine RW.nil ?_
    refine CW.ret ?_
    cases hm
    exact fin1 (.inr rfl) rfl (ResIs.tmp rfl) (List.nil_sublist _) ⟨rfl, rfl⟩
  ·
    have hm := iff' hm hb1
    refine CW.skip ?_
    refine CW.seq ?_
    obtain ⟨o1, hs1, hk1⟩ := bnd hm
    refine CW.cut (fun E σ => o1 = Sum.inl () ∧ Sub [] E ∧ σ = []) ?_ ?_
    ·
      have hm := hs1
      refine CW.seq ?_
      refine CW.region ?_
      refine RW.p rfl rfl rfl (Yp.move rfl rfl) ?_
      refine RW.p rfl rfl rfl (Yp.lenSl rfl rfl Try.underlying23) ?_
      refine RW.p rfl rfl rfl (Yp.move rfl rfl) ?_
      refine RW.nil ?_
      refine CW.block ?_
      obtain ⟨o2, hs2, hk2⟩ := bnd hm
      refine CW.lp (fun k1 E σ => ∃ n3 : Int, Sub [(1, .sl 1 (cL 1 (cN .u8)) p1), (2, .fn (.func 14) []), (15, .sl 1 (cL 1 (cN .u8)) p0), (16, .i (p0.length : Int)), (17, .i n3)] E ∧ σ = [] ∧ m42_l1 p0 p1 k1 n3 = some o2) (Int.toNat (p0.length : Int) + 1) ?_ ?_
      · exact ⟨0, (Sub.cons rfl (Sub.cons rfl (Sub.cons rfl (Sub.cons rfl (Sub.cons rfl Sub.nil))))), rfl, hs2⟩
      ·
        rintro k1 E σ ⟨n3, hsub1, rfl, hm⟩
        refine CW.weak ?_ hsub1
        cases k1 with
        | zero => cases hm
        | succ k1 =>
          rw [m42_l1] at hm
          refine CW.seq ?_
          refine CW.region ?_
          refine RW.p rfl rfl rfl (Yp.lss rfl rfl rfl) ?_
          refine RW.nil ?_
          refine CW.seq ?_
          refine CW.cond rfl (fun hb2 => ?_) (fun hb2 => ?_)
          ·
            have hm := ift hm hb2
            refine CW.skip ?_
            refine CW.seq ?_
            refine CW.block ?_
            refine CW.seq ?_
            refine CW.region ?_
            refine RW.p rfl rfl rfl (Yp.move rfl rfl) ?_
            obtain ⟨hc1, hm⟩ := chk hm
            refine RW.p rfl rfl rfl (Yp.indexSl rfl rfl rfl Try.underlying23 sz29 hc1) ?_
            refine RW.p rfl rfl rfl (Yp.loadF1 rfl rfl one29 rfl) ?_
            refine RW.p rfl rfl rfl (Yp.assign rfl rfl) ?_
            refine RW.p rfl rfl rfl (Yp.assign rfl rfl) ?_
            refine RW.nil ?_
            refine CW.seq ?_
            refine CW.region ?_
            refine RW.p rfl rfl rfl (Yp.move rfl rfl) ?_
            refine RW.p rfl rfl rfl (Yp.move rfl rfl) ?_
            obtain ⟨hc2, hm⟩ := chk hm
            refine RW.p rfl rfl rfl (Yp.indexSl rfl rfl rfl Try.underlying23 sz29 hc2) ?_
            refine RW.p rfl rfl rfl (Yp.loadF1 rfl rfl one29 rfl) ?_
            refine RW.p rfl rfl rfl (Yp.assign rfl rfl) ?_
            refine RW.nil ?_
            refine CW.seq ?_
            refine CW.region ?_
            refine RW.p rfl rfl rfl (Yp.move rfl rfl) ?_
            refine RW.p rfl rfl rfl (Yp.move rfl rfl) ?_
            refine RW.p rfl rfl rfl (Yp.move rfl rfl) ?_
            obtain ⟨x1, hx1, hm⟩ := bnd hm
            refine RW.c rfl rfl rfl (Yc.fnV (σp := []) (args' := [.sl 1 (cN .u8) (p0[Int.toNat n3]!), .sl 1 (cN .u8) (p1[Int.toNat n3]!)]) rfl rfl ok14 rfl rfl rfl (VwL.id _) (m14_ok (p0[Int.toNat n3]!) (p1[Int.toNat n3]!) hx1)) ?_
            rintro _ _ ⟨_, ⟨rfl, rfl⟩, rfl⟩
            refine RW.p rfl rfl rfl (Yp.not rfl rfl) ?_
            refine RW.nil ?_
            refine CW.cond rfl (fun hb3 => ?_) (fun hb3 => ?_)
            ·
              have hm := ift hm hb3
              refine CW.seq ?_
              refine CW.region ?_
              refine RW.p rfl rfl rfl (Yp.assign rfl rfl) ?_
              refine RW.nil ?_
              refine CW.ret ?_
              cases hm
              have hm := hk2
              cases hm
              have hm := hk1
              cases hm
              exact fin1 (.inr rfl) rfl (ResIs.tmp rfl) (List.nil_sublist _) ⟨rfl, rfl⟩
            ·
              have hm := iff' hm hb3
              refine CW.skip ?_
              refine CW.region ?_
              refine RW.p rfl rfl rfl (Yp.add rfl rfl rfl) ?_
              refine RW.p rfl rfl rfl (Yp.move rfl rfl) ?_
              refine RW.nil ?_
              exact ⟨k1, Nat.lt_succ_self _, _, (Sub.cons rfl (Sub.cons rfl (Sub.cons rfl (Sub.cons rfl (Sub.cons rfl Sub.nil))))), rfl, hm⟩
          ·
            have hm := iff' hm hb2
            refine CW.exit ?_
            cases hm
            have hm := hk2
            cases hm
            exact ⟨rfl, Sub.nil, rfl⟩
    ·
      rintro E σ ⟨rfl, hsub2, rfl⟩
      have hm := hk1
      refine CW.weak ?_ hsub2
      refine CW.seq ?_
      refine CW.region ?_
      refine RW.p rfl rfl rfl (Yp.assign rfl rfl) ?_
      refine RW.nil ?_
      refine CW.ret ?_
      cases hm
      exact fin1 (.inr rfl) rfl (ResIs.tmp rfl) (List.nil_sublist _) ⟨rfl, rfl⟩

def m44 (p0 : Write) (p1 : Write) : Option Bool :=
  Option.bind (
    if (decide (p0.fAt = p1.fAt)) = true then
      (m14 p0.fData p1.fData).bind fun x1 =>
      some x1
    else
      some false) fun c1 =>
  some c1

theorem m44_ok (p0 : Write) (p1 : Write)  {r : Bool} (hm : m44 p0 p1 = some r) : Ab.Fn Try.prog 44 [.agg [.i p0.fAt, .sl 1 (cN .u8) p0.fData], .agg [.i p1.fAt, .sl 1 (cN .u8) p1.fData]] [] (fun a s => a = .b r ∧ s = []) := by
  rw [m44] at hm
  refine Ab.Fn.of Try.func44 rfl rfl rfl (fun C => ?_)
  refine CW.seq ?_
  refine CW.region ?_
  refine RW.v rfl rfl rfl (Yv.box rfl rfl (Pw.p rfl)) ?_
  rintro _ _ ⟨b1, rfl, rfl⟩
  refine RW.v rfl rfl rfl (Yv.box rfl rfl (Pw.p rfl)) ?_
  rintro _ _ ⟨b2, rfl, rfl⟩
  refine RW.p rfl rfl rfl (Yp.assign rfl rfl) ?_
  refine RW.nil ?_
  refine CW.seq ?_
  obtain ⟨c1, hs1, hk1⟩ := bnd hm
  refine CW.cut (fun E σ => Sub [(4, .b c1)] E ∧ σ = []) ?_ ?_
  ·
    have hm := hs1
    refine CW.region ?_
    refine RW.p rfl rfl rfl (Yp.fieldP rfl rfl Try.underlying56 rfl sz3) ?_
    refine RW.p rfl rfl rfl (Yp.loadB1 1 rfl rfl rfl one3 rfl) ?_
    refine RW.p rfl rfl rfl (Yp.fieldP rfl rfl Try.underlying56 rfl sz3) ?_
    refine RW.p rfl rfl rfl (Yp.loadB1 0 rfl rfl rfl one3 rfl) ?_
    refine RW.p rfl rfl rfl (Yp.eql rfl rfl rfl) ?_
    refine RW.p rfl rfl rfl (Yp.move rfl rfl) ?_
    rcases Bool.eq_false_or_eq_true (decide (p0.fAt = p1.fAt)) with hb1 | hb1
    ·
      have hm := ift hm hb1
      refine RW.eqv 10 rfl (congrArg AV.b hb1) ?_
      refine RW.p rfl rfl rfl (Yp.fieldP rfl rfl Try.underlying56 rfl sz29) ?_
      refine RW.p rfl rfl rfl (Yp.loadB1 1 rfl rfl rfl one29 rfl) ?_
      refine RW.p rfl rfl rfl (Yp.fieldP rfl rfl Try.underlying56 rfl sz29) ?_
      refine RW.p rfl rfl rfl (Yp.loadB1 0 rfl rfl rfl one29 rfl) ?_
      obtain ⟨x1, hx1, hm⟩ := bnd hm
      refine RW.c rfl rfl rfl (Yc.fnV (σp := []) (args' := [.sl 1 (cN .u8) p0.fData, .sl 1 (cN .u8) p1.fData]) rfl rfl ok14 rfl rfl rfl (VwL.id _) (m14_ok p0.fData p1.fData hx1)) ?_
      rintro _ _ ⟨_, ⟨rfl, rfl⟩, rfl⟩
      refine RW.p rfl rfl rfl (Yp.pickT rfl rfl rfl) ?_
      refine RW.p rfl rfl rfl (Yp.assign rfl rfl) ?_
      refine RW.sel [] rfl ?_
      refine RW.nil ?_
      cases hm
      exact ⟨(Sub.cons rfl Sub.nil), rfl⟩
    ·
      have hm := iff' hm hb1
      refine RW.eqv 10 rfl (congrArg AV.b hb1) ?_
      refine RW.skip rfl rfl rfl ?_
      refine RW.skip rfl rfl rfl ?_
      refine RW.skip rfl rfl rfl ?_
      refine RW.skip rfl rfl rfl ?_
      refine RW.skip rfl rfl rfl ?_
      refine RW.p rfl rfl rfl (Yp.pickF rfl rfl rfl) ?_
      refine RW.p rfl rfl rfl (Yp.assign rfl rfl) ?_
      refine RW.sel [] rfl ?_
      refine RW.nil ?_
      cases hm
      exact ⟨(Sub.cons rfl Sub.nil), rfl⟩
  ·
    rintro E σ ⟨hsub1, rfl⟩
    have hm := hk1
    refine CW.weak ?_ hsub1
    refine CW.ret ?_
    cases hm
    exact fin1 (.inr rfl) rfl (ResIs.tmp rfl) (List.nil_sublist _) ⟨rfl, rfl⟩

def m43_l1 (p0 : List Write) (p1 : List Write) : Nat → Int → Option (Sum Unit Bool)
  | 0, _ => none
  | k1 + 1, n3 =>
    if (decide (n3 < (p0.length : Int))) = true then
      if 0 ≤ n3 ∧ n3 < (p0.length : Int) then
      if 0 ≤ n3 ∧ n3 < (p1.length : Int) then
      (m44 (p0[Int.toNat n3]!) (p1[Int.toNat n3]!)).bind fun x1 =>
      if (!x1) = true then
        some (Sum.inr false)
      else
        m43_l1 p0 p1 k1 (w64 (n3 + 1))
      else none
      else none
    else
      some (Sum.inl ())
def m43 (p0 : List Write) (p1 : List Write) : Option Bool :=
  if (!decide ((p0.length : Int) = (p1.length : Int))) = true then
    some false
  else
    Option.bind (
      (m43_l1 p0 p1 (Int.toNat (p0.length : Int) + 1) 0).bind fun o2 =>
      match o2 with
      | .inl () =>
        some (Sum.inl ())
      | .inr r =>
        some (Sum.inr r)) fun o1 =>
    match o1 with
    | .inl () =>
      some true
    | .inr r =>
      some r

theorem m43_ok (p0 : List Write) (p1 : List Write)  {r : Bool} (hm : m43 p0 p1 = some r) : Ab.Fn Try.prog 43 [.sl 2 Write.cells p0, .sl 2 Write.cells p1, .fn (.func 44) []] [] (fun a s => a = .b r ∧ s = []) := by
  rw [m43] at hm
  refine Ab.Fn.of Try.func43 rfl rfl rfl (fun C => ?_)
  refine CW.seq ?_
  refine CW.region ?_
  refine RW.p rfl rfl rfl (Yp.assign rfl rfl) ?_
  refine RW.nil ?_
  refine CW.seq ?_
  refine CW.seq ?_
  refine CW.region ?_
  refine RW.p rfl rfl rfl (Yp.move rfl rfl) ?_
  refine RW.p rfl rfl rfl (Yp.lenSl rfl rfl Try.underlying24) ?_
  refine RW.p rfl rfl rfl (Yp.move rfl rfl) ?_
  refine RW.p rfl rfl rfl (Yp.lenSl rfl rfl Try.underlying24) ?_
  refine RW.p rfl rfl rfl (Yp.neq rfl rfl rfl) ?_
  refine RW.nil ?_
  refine CW.cond rfl (fun hb1 => ?_) (fun hb1 => ?_)
  ·
    have hm := ift hm hb1
    refine CW.seq ?_
    refine CW.region ?_
    refine RW.p rfl rfl rfl (Yp.assign rfl rfl) ?_
    refine RW.nil ?_
    refine CW.ret ?_
    cases hm
    exact fin1 (.inr rfl) rfl (ResIs.tmp rfl) (List.nil_sublist _) ⟨rfl, rfl⟩
  ·
    have hm := iff' hm hb1
    refine CW.skip ?_
    refine CW.seq ?_
    obtain ⟨o1, hs1, hk1⟩ := bnd hm
    refine CW.cut (fun E σ => o1 = Sum.inl () ∧ Sub [] E ∧ σ = []) ?_ ?_
    ·
      have hm := hs1
      refine CW.seq ?_
      refine CW.region ?_
      refine RW.p rfl rfl rfl (Yp.move rfl rfl) ?_
      refine RW.p rfl rfl rfl (Yp.lenSl rfl rfl Try.underlying24) ?_
      refine RW.p rfl rfl rfl (Yp.move rfl rfl) ?_
      refine RW.nil ?_
      refine CW.block ?_
      obtain ⟨o2, hs2, hk2⟩ := bnd hm
      refine CW.lp (fun k1 E σ => ∃ n3 : Int, Sub [(1, .sl 2 Write.cells p1), (2, .fn (.func 44) []), (15, .sl 2 Write.cells p0), (16, .i (p0.length : Int)), (17, .i n3)] E ∧ σ = [] ∧ m43_l1 p0 p1 k1 n3 = some o2) (Int.toNat (p0.length : Int) + 1) ?_ ?_
      · exact ⟨0, (Sub.cons rfl (Sub.cons rfl (Sub.cons rfl (Sub.cons rfl (Sub.cons rfl Sub.nil))))), rfl, hs2⟩
      ·
        rintro k1 E σ ⟨n3, hsub1, rfl, hm⟩
        refine CW.weak ?_ hsub1
        cases k1 with
        | zero => cases hm
        | succ k1 =>
          rw [m43_l1] at hm
          refine CW.seq ?_
          refine CW.region ?_
          refine RW.p rfl rfl rfl (Yp.lss rfl rfl rfl) ?_
          refine RW.nil ?_
          refine CW.seq ?_
          refine CW.cond rfl (fun hb2 => ?_) (fun hb2 => ?_)
          ·
            have hm := ift hm hb2
            refine CW.skip ?_
            refine CW.seq ?_
            refine CW.block ?_
            refine CW.seq ?_
            refine CW.region ?_
            refine RW.p rfl rfl rfl (Yp.move rfl rfl) ?_
            obtain ⟨hc1, hm⟩ := chk hm
            refine RW.p rfl rfl rfl (Yp.indexSl rfl rfl rfl Try.underlying24 sz56 hc1) ?_
            refine RW.p rfl rfl rfl (Yp.loadFN rfl rfl many56 (Nat.le_of_ble_eq_true rfl)) ?_
            refine RW.v rfl rfl rfl (Yv.alloc rfl zerb56) ?_
            rintro _ _ ⟨b1, rfl, rfl⟩
            refine RW.p rfl rfl rfl (Yp.assign rfl rfl) ?_
            refine RW.u rfl rfl (Yu.storeB 0 rfl rfl rfl rfl sz56 (Pw.p rfl) rfl (Nat.le_of_ble_eq_true rfl)) ?_
            refine RW.nil ?_
            refine CW.seq ?_
            refine CW.region ?_
            refine RW.p rfl rfl rfl (Yp.move rfl rfl) ?_
            refine RW.p rfl rfl rfl (Yp.move rfl rfl) ?_
            obtain ⟨hc2, hm⟩ := chk hm
            refine RW.p rfl rfl rfl (Yp.indexSl rfl rfl rfl Try.underlying24 sz56 hc2) ?_
            refine RW.p rfl rfl rfl (Yp.loadFN rfl rfl many56 (Nat.le_of_ble_eq_true rfl)) ?_
            refine RW.v rfl rfl rfl (Yv.alloc rfl zerb56) ?_
            rintro _ _ ⟨b2, rfl, rfl⟩
            refine RW.u rfl rfl (Yu.storeB 0 rfl rfl rfl rfl sz56 (Pw.p rfl) rfl (Nat.le_of_ble_eq_true rfl)) ?_
            refine RW.nil ?_
            refine CW.seq ?_
            refine CW.region ?_
            refine RW.p rfl rfl rfl (Yp.move rfl rfl) ?_
            refine RW.p rfl rfl rfl (Yp.loadBN 1 rfl rfl rfl many56 (Nat.le_of_ble_eq_true rfl)) ?_
            refine RW.p rfl rfl rfl (Yp.loadBN 0 rfl rfl rfl many56 (Nat.le_of_ble_eq_true rfl)) ?_
            obtain ⟨x1, hx1, hm⟩ := bnd hm
            refine RW.c rfl rfl rfl (Yc.fnV (σp := []) (args' := [.agg [.i ((p0[Int.toNat n3]!).fAt), .sl 1 (cN .u8) ((p0[Int.toNat n3]!).fData)], .agg [.i ((p1[Int.toNat n3]!).fAt), .sl 1 (cN .u8) ((p1[Int.toNat n3]!).fData)]]) rfl rfl ok44 rfl rfl rfl (VwL.id _) (m44_ok (p0[Int.toNat n3]!) (p1[Int.toNat n3]!) hx1)) ?_
            rintro _ _ ⟨_, ⟨rfl, rfl⟩, rfl⟩
            refine RW.p rfl rfl rfl (Yp.not rfl rfl) ?_
            refine RW.nil ?_
            refine CW.cond rfl (fun hb3 => ?_) (fun hb3 => ?_)
            ·
              have hm := ift hm hb3
              refine CW.seq ?_
              refine CW.region ?_
              refine RW.p rfl rfl rfl (Yp.assign rfl rfl) ?_
              refine RW.nil ?_
              refine CW.ret ?_
              cases hm
              have hm := hk2
              cases hm
              have hm := hk1
              cases hm
              exact fin1 (.inr rfl) rfl (ResIs.tmp rfl) (List.nil_sublist _) ⟨rfl, rfl⟩
            ·
              have hm := iff' hm hb3
              refine CW.skip ?_
              refine CW.region ?_
              refine RW.p rfl rfl rfl (Yp.add rfl rfl rfl) ?_
              refine RW.p rfl rfl rfl (Yp.move rfl rfl) ?_
              refine RW.sel [] rfl ?_
              refine RW.nil ?_
              exact ⟨k1, Nat.lt_succ_self _, _, (Sub.cons rfl (Sub.cons rfl (Sub.cons rfl (Sub.cons rfl (Sub.cons rfl Sub.nil))))), rfl, hm⟩
          ·
            have hm := iff' hm hb2
            refine CW.exit ?_
            cases hm
            have hm := hk2
            cases hm
            exact ⟨rfl, Sub.nil, rfl⟩
    ·
      rintro E σ ⟨rfl, hsub2, rfl⟩
      have hm := hk1
      refine CW.weak ?_ hsub2
      refine CW.seq ?_
      refine CW.region ?_
      refine RW.p rfl rfl rfl (Yp.assign rfl rfl) ?_
      refine RW.nil ?_
      refine CW.ret ?_
      cases hm
      exact fin1 (.inr rfl) rfl (ResIs.tmp rfl) (List.nil_sublist _) ⟨rfl, rfl⟩

def m21 (p0 : Disk) (p1 : Disk) : Option Bool :=
  Option.bind (
    if (decide (p0.fLeft = p1.fLeft)) = true then
      if (p0.fDown == p1.fDown) = true then
        (m42 p0.fDurable p1.fDurable).bind fun x1 =>
        if x1 = true then
          (m43 p0.fPending p1.fPending).bind fun x2 =>
          some x2
        else
          some false
      else
        some false
    else
      some false) fun c1 =>
  some c1

theorem m21_ok (p0 : Disk) (p1 : Disk)  {r : Bool} (hm : m21 p0 p1 = some r) : Ab.Fn Try.prog 21 [.agg [.sl 1 (cL 1 (cN .u8)) p0.fDurable, .sl 2 Write.cells p0.fPending, .i p0.fLeft, .b p0.fDown], .agg [.sl 1 (cL 1 (cN .u8)) p1.fDurable, .sl 2 Write.cells p1.fPending, .i p1.fLeft, .b p1.fDown]] [] (fun a s => a = .b r ∧ s = []) := by
  rw [m21] at hm
  refine Ab.Fn.of Try.func21 rfl rfl rfl (fun C => ?_)
  refine CW.seq ?_
  refine CW.region ?_
  refine RW.v rfl rfl rfl (Yv.box rfl rfl (Pw.p rfl)) ?_
  rintro _ _ ⟨b1, rfl, rfl⟩
  refine RW.v rfl rfl rfl (Yv.box rfl rfl (Pw.p rfl)) ?_
  rintro _ _ ⟨b2, rfl, rfl⟩
  refine RW.p rfl rfl rfl (Yp.assign rfl rfl) ?_
  refine RW.nil ?_
  refine CW.seq ?_
  obtain ⟨c1, hs1, hk1⟩ := bnd hm
  refine CW.cut (fun E σ => Sub [(4, .b c1)] E ∧ σ = []) ?_ ?_
  ·
    have hm := hs1
    refine CW.region ?_
    refine RW.p rfl rfl rfl (Yp.fieldP rfl rfl Try.underlying26 rfl sz3) ?_
    refine RW.p rfl rfl rfl (Yp.loadB1 1 rfl rfl rfl one3 rfl) ?_
    refine RW.p rfl rfl rfl (Yp.fieldP rfl rfl Try.underlying26 rfl sz3) ?_
    refine RW.p rfl rfl rfl (Yp.loadB1 0 rfl rfl rfl one3 rfl) ?_
    refine RW.p rfl rfl rfl (Yp.eql rfl rfl rfl) ?_
    refine RW.p rfl rfl rfl (Yp.move rfl rfl) ?_
    rcases Bool.eq_false_or_eq_true (decide (p0.fLeft = p1.fLeft)) with hb1 | hb1
    ·
      have hm := ift hm hb1
      refine RW.eqv 10 rfl (congrArg AV.b hb1) ?_
      refine RW.p rfl rfl rfl (Yp.fieldP rfl rfl Try.underlying26 rfl sz4) ?_
      refine RW.p rfl rfl rfl (Yp.loadB1 1 rfl rfl rfl one4 rfl) ?_
      refine RW.p rfl rfl rfl (Yp.fieldP rfl rfl Try.underlying26 rfl sz4) ?_
      refine RW.p rfl rfl rfl (Yp.loadB1 0 rfl rfl rfl one4 rfl) ?_
      refine RW.p rfl rfl rfl (Yp.beql rfl Try.underlying4 rfl rfl) ?_
      refine RW.p rfl rfl rfl (Yp.pickT rfl rfl rfl) ?_
      refine RW.p rfl rfl rfl (Yp.move rfl rfl) ?_
      rcases Bool.eq_false_or_eq_true (p0.fDown == p1.fDown) with hb2 | hb2
      ·
        have hm := ift hm hb2
        refine RW.eqv 17 rfl (congrArg AV.b hb2) ?_
        refine RW.p rfl rfl rfl (Yp.fieldP rfl rfl Try.underlying26 rfl sz23) ?_
        refine RW.p rfl rfl rfl (Yp.loadB1 1 rfl rfl rfl one23 rfl) ?_
        refine RW.p rfl rfl rfl (Yp.fieldP rfl rfl Try.underlying26 rfl sz23) ?_
        refine RW.p rfl rfl rfl (Yp.loadB1 0 rfl rfl rfl one23 rfl) ?_
        obtain ⟨x1, hx1, hm⟩ := bnd hm
        refine RW.c rfl rfl rfl (Yc.fnV (σp := []) (args' := [.sl 1 (cL 1 (cN .u8)) p0.fDurable, .sl 1 (cL 1 (cN .u8)) p1.fDurable, .fn (.func 14) []]) rfl rfl ok42 rfl rfl rfl (VwL.id _) (m42_ok p0.fDurable p1.fDurable hx1)) ?_
        rintro _ _ ⟨_, ⟨rfl, rfl⟩, rfl⟩
        refine RW.p rfl rfl rfl (Yp.pickT rfl rfl rfl) ?_
        refine RW.p rfl rfl rfl (Yp.move rfl rfl) ?_
        rcases Bool.eq_false_or_eq_true x1 with hb3 | hb3
        ·
          have hm := ift hm hb3
          refine RW.eqv 24 rfl (congrArg AV.b hb3) ?_
          refine RW.p rfl rfl rfl (Yp.fieldP rfl rfl Try.underlying26 rfl sz24) ?_
          refine RW.p rfl rfl rfl (Yp.loadB1 1 rfl rfl rfl one24 rfl) ?_
          refine RW.p rfl rfl rfl (Yp.fieldP rfl rfl Try.underlying26 rfl sz24) ?_
          refine RW.p rfl rfl rfl (Yp.loadB1 0 rfl rfl rfl one24 rfl) ?_
          obtain ⟨x2, hx2, hm⟩ := bnd hm
          refine RW.c rfl rfl rfl (Yc.fnV (σp := []) (args' := [.sl 2 Write.cells p0.fPending, .sl 2 Write.cells p1.fPending, .fn (.func 44) []]) rfl rfl ok43 rfl rfl rfl (VwL.id _) (m43_ok p0.fPending p1.fPending hx2)) ?_
          rintro _ _ ⟨_, ⟨rfl, rfl⟩, rfl⟩
          refine RW.p rfl rfl rfl (Yp.pickT rfl rfl rfl) ?_
          refine RW.p rfl rfl rfl (Yp.assign rfl rfl) ?_
          refine RW.sel [] rfl ?_
          refine RW.nil ?_
          cases hm
          exact ⟨(Sub.cons rfl Sub.nil), rfl⟩
        ·
          have hm := iff' hm hb3
          refine RW.eqv 24 rfl (congrArg AV.b hb3) ?_
          refine RW.skip rfl rfl rfl ?_
          refine RW.skip rfl rfl rfl ?_
          refine RW.skip rfl rfl rfl ?_
          refine RW.skip rfl rfl rfl ?_
          refine RW.skip rfl rfl rfl ?_
          refine RW.p rfl rfl rfl (Yp.pickF rfl rfl rfl) ?_
          refine RW.p rfl rfl rfl (Yp.assign rfl rfl) ?_
          refine RW.sel [] rfl ?_
          refine RW.nil ?_
          cases hm
          exact ⟨(Sub.cons rfl Sub.nil), rfl⟩
      ·
        have hm := iff' hm hb2
        refine RW.eqv 17 rfl (congrArg AV.b hb2) ?_
        refine RW.skip rfl rfl rfl ?_
        refine RW.skip rfl rfl rfl ?_
        refine RW.skip rfl rfl rfl ?_
        refine RW.skip rfl rfl rfl ?_
        refine RW.skip rfl rfl rfl ?_
        refine RW.p rfl rfl rfl (Yp.pickF rfl rfl rfl) ?_
        refine RW.p rfl rfl rfl (Yp.move rfl rfl) ?_
        refine RW.skip rfl rfl rfl ?_
        refine RW.skip rfl rfl rfl ?_
        refine RW.skip rfl rfl rfl ?_
        refine RW.skip rfl rfl rfl ?_
        refine RW.skip rfl rfl rfl ?_
        refine RW.p rfl rfl rfl (Yp.pickF rfl rfl rfl) ?_
        refine RW.p rfl rfl rfl (Yp.assign rfl rfl) ?_
        refine RW.sel [] rfl ?_
        refine RW.nil ?_
        cases hm
        exact ⟨(Sub.cons rfl Sub.nil), rfl⟩
    ·
      have hm := iff' hm hb1
      refine RW.eqv 10 rfl (congrArg AV.b hb1) ?_
      refine RW.skip rfl rfl rfl ?_
      refine RW.skip rfl rfl rfl ?_
      refine RW.skip rfl rfl rfl ?_
      refine RW.skip rfl rfl rfl ?_
      refine RW.skip rfl rfl rfl ?_
      refine RW.p rfl rfl rfl (Yp.pickF rfl rfl rfl) ?_
      refine RW.p rfl rfl rfl (Yp.move rfl rfl) ?_
      refine RW.skip rfl rfl rfl ?_
      refine RW.skip rfl rfl rfl ?_
      refine RW.skip rfl rfl rfl ?_
      refine RW.skip rfl rfl rfl ?_
      refine RW.skip rfl rfl rfl ?_
      refine RW.p rfl rfl rfl (Yp.pickF rfl rfl rfl) ?_
      refine RW.p rfl rfl rfl (Yp.move rfl rfl) ?_
      refine RW.skip rfl rfl rfl ?_
      refine RW.skip rfl rfl rfl ?_
      refine RW.skip rfl rfl rfl ?_
      refine RW.skip rfl rfl rfl ?_
      refine RW.skip rfl rfl rfl ?_
      refine RW.p rfl rfl rfl (Yp.pickF rfl rfl rfl) ?_
      refine RW.p rfl rfl rfl (Yp.assign rfl rfl) ?_
      refine RW.sel [] rfl ?_
      refine RW.nil ?_
      cases hm
      exact ⟨(Sub.cons rfl Sub.nil), rfl⟩
  ·
    rintro E σ ⟨hsub1, rfl⟩
    have hm := hk1
    refine CW.weak ?_ hsub1
    refine CW.ret ?_
    cases hm
    exact fin1 (.inr rfl) rfl (ResIs.tmp rfl) (List.nil_sublist _) ⟨rfl, rfl⟩

def m5 (p0 : Disk) (p1 : Int) (p2 : List Int) : Option Bool :=
  (m11).bind fun x1 =>
  if (!x1) = true then
    some false
  else
    Option.bind (
      (m16 (Disk.mk p0.fDurable p0.fPending p0.fLeft p0.fDown)).bind fun x2 =>
      if (!x2) = true then
        some true
      else
        some (decide ((200 : Int) < (p2.length : Int)))) fun c1 =>
    if c1 = true then
      some true
    else
      (m19 (Disk.mk p0.fDurable p0.fPending p0.fLeft p0.fDown) p1 p2).bind fun x3 =>
      (m20 (Disk.mk p0.fDurable p0.fPending p0.fLeft p0.fDown) p1 p2).bind fun x4 =>
      Option.bind (
        if (decide (x3.2 = x4.2)) = true then
          (m21 x3.1 x4.1).bind fun x5 =>
          some x5
        else
          some false) fun c2 =>
      some c2

theorem m5_ok (p0 : Disk) (p1 : Int) (p2 : List Int)  {r : Bool} (hm : m5 p0 p1 p2 = some r) : Ab.Fn Try.prog 5 [.agg [.sl 1 (cL 1 (cN .u8)) p0.fDurable, .sl 2 Write.cells p0.fPending, .i p0.fLeft, .b p0.fDown], .i p1, .sl 1 (cN .u8) p2] [] (fun a s => a = .b r ∧ s = []) := by
  rw [m5] at hm
  refine Ab.Fn.of Try.func5 rfl rfl rfl (fun C => ?_)
  refine CW.seq ?_
  refine CW.region ?_
  refine RW.v rfl rfl rfl (Yv.box rfl rfl (Pw.p rfl)) ?_
  rintro _ _ ⟨b1, rfl, rfl⟩
  refine RW.p rfl rfl rfl (Yp.assign rfl rfl) ?_
  refine RW.nil ?_
  refine CW.seq ?_
  refine CW.seq ?_
  refine CW.region ?_
  obtain ⟨x1, hx1, hm⟩ := bnd hm
  refine RW.c rfl rfl rfl (Yc.fnV (σp := []) (args' := []) rfl rfl ok11 rfl rfl rfl (VwL.id _) (m11_ok  hx1)) ?_
  rintro _ _ ⟨_, ⟨rfl, rfl⟩, rfl⟩
  refine RW.p rfl rfl rfl (Yp.not rfl rfl) ?_
  refine RW.nil ?_
  refine CW.cond rfl (fun hb1 => ?_) (fun hb1 => ?_)
  ·
    have hm := ift hm hb1
    refine CW.seq ?_
    refine CW.region ?_
    refine RW.p rfl rfl rfl (Yp.assign rfl rfl) ?_
    refine RW.nil ?_
    refine CW.ret ?_
    cases hm
    exact fin1 (.inr rfl) rfl (ResIs.tmp rfl) (List.nil_sublist _) ⟨rfl, rfl⟩
  ·
    have hm := iff' hm hb1
    refine CW.skip ?_
    refine CW.seq ?_
    refine CW.seq ?_
    obtain ⟨c1, hs1, hk1⟩ := bnd hm
    refine CW.cut (fun E σ => Sub [(1, .i p1), (2, .sl 1 (cN .u8) p2), (3, .lit (.pointer (some ⟨b1, 0, none⟩))), (20, .b c1)] E ∧ σ = [.box b1 26 [.sl 1 (cL 1 (cN .u8)) p0.fDurable, .sl 2 Write.cells p0.fPending, .i p0.fLeft, .b p0.fDown]]) ?_ ?_
    ·
      have hm := hs1
      refine CW.region ?_
      refine RW.p rfl rfl rfl (Yp.loadBN 0 rfl rfl rfl many26 (Nat.le_of_ble_eq_true rfl)) ?_
      obtain ⟨x2, hx2, hm⟩ := bnd hm
      refine RW.c rfl rfl rfl (Yc.fnV (σp := []) (args' := [.agg [.sl 1 (cL 1 (cN .u8)) ((Disk.mk p0.fDurable p0.fPending p0.fLeft p0.fDown).fDurable), .sl 2 Write.cells ((Disk.mk p0.fDurable p0.fPending p0.fLeft p0.fDown).fPending), .i ((Disk.mk p0.fDurable p0.fPending p0.fLeft p0.fDown).fLeft), .b ((Disk.mk p0.fDurable p0.fPending p0.fLeft p0.fDown).fDown)]]) rfl rfl ok16 rfl rfl rfl (VwL.id _) (m16_ok (Disk.mk p0.fDurable p0.fPending p0.fLeft p0.fDown) hx2)) ?_
      rintro _ _ ⟨_, ⟨rfl, rfl⟩, rfl⟩
      refine RW.p rfl rfl rfl (Yp.not rfl rfl) ?_
      refine RW.p rfl rfl rfl (Yp.move rfl rfl) ?_
      rcases Bool.eq_false_or_eq_true (!x2) with hb2 | hb2
      ·
        have hm := ift hm hb2
        refine RW.eqv 16 rfl (congrArg AV.b hb2) ?_
        refine RW.skip rfl rfl rfl ?_
        refine RW.skip rfl rfl rfl ?_
        refine RW.skip rfl rfl rfl ?_
        refine RW.p rfl rfl rfl (Yp.pickT rfl rfl rfl) ?_
        refine RW.nil ?_
        cases hm
        exact ⟨(Sub.cons rfl (Sub.cons rfl (Sub.cons rfl (Sub.cons rfl Sub.nil)))), rfl⟩
      ·
        have hm := iff' hm hb2
        refine RW.eqv 16 rfl (congrArg AV.b hb2) ?_
        refine RW.p rfl rfl rfl (Yp.move rfl rfl) ?_
        refine RW.p rfl rfl rfl (Yp.lenSl rfl rfl Try.underlying29) ?_
        refine RW.p rfl rfl rfl (Yp.gtr rfl rfl rfl) ?_
        refine RW.p rfl rfl rfl (Yp.pickF rfl rfl rfl) ?_
        refine RW.nil ?_
        cases hm
        exact ⟨(Sub.cons rfl (Sub.cons rfl (Sub.cons rfl (Sub.cons rfl Sub.nil)))), rfl⟩
    ·
      rintro E σ ⟨hsub1, rfl⟩
      have hm := hk1
      refine CW.weak ?_ hsub1
      refine CW.cond rfl (fun hb3 => ?_) (fun hb3 => ?_)
      ·
        have hm := ift hm hb3
        refine CW.seq ?_
        refine CW.region ?_
        refine RW.p rfl rfl rfl (Yp.assign rfl rfl) ?_
        refine RW.nil ?_
        refine CW.ret ?_
        cases hm
        exact fin1 (.inr rfl) rfl (ResIs.tmp rfl) (List.nil_sublist _) ⟨rfl, rfl⟩
      ·
        have hm := iff' hm hb3
        refine CW.skip ?_
        refine CW.seq ?_
        refine CW.region ?_
        refine RW.p rfl rfl rfl (Yp.loadBN 0 rfl rfl rfl many26 (Nat.le_of_ble_eq_true rfl)) ?_
        refine RW.p rfl rfl rfl (Yp.move rfl rfl) ?_
        refine RW.p rfl rfl rfl (Yp.move rfl rfl) ?_
        obtain ⟨x3, hx3, hm⟩ := bnd hm
        refine RW.c rfl rfl rfl (Yc.fnV (σp := []) (args' := [.agg [.sl 1 (cL 1 (cN .u8)) ((Disk.mk p0.fDurable p0.fPending p0.fLeft p0.fDown).fDurable), .sl 2 Write.cells ((Disk.mk p0.fDurable p0.fPending p0.fLeft p0.fDown).fPending), .i ((Disk.mk p0.fDurable p0.fPending p0.fLeft p0.fDown).fLeft), .b ((Disk.mk p0.fDurable p0.fPending p0.fLeft p0.fDown).fDown)], .i p1, .sl 1 (cN .u8) p2]) rfl rfl ok19 rfl rfl rfl (VwL.id _) (m19_ok (Disk.mk p0.fDurable p0.fPending p0.fLeft p0.fDown) p1 p2 hx3)) ?_
        rintro _ _ ⟨_, ⟨rfl, rfl⟩, rfl⟩
        refine RW.p rfl rfl rfl (Yp.move rfl rfl) ?_
        refine RW.p rfl rfl rfl (Yp.extract rfl rfl rfl) ?_
        refine RW.p rfl rfl rfl (Yp.extract rfl rfl rfl) ?_
        refine RW.v rfl rfl rfl (Yv.alloc rfl zerb26) ?_
        rintro _ _ ⟨b2, rfl, rfl⟩
        refine RW.u rfl rfl (Yu.storeB 0 rfl rfl rfl rfl sz26 (Pw.p rfl) rfl (Nat.le_of_ble_eq_true rfl)) ?_
        refine RW.p rfl rfl rfl (Yp.assign rfl rfl) ?_
        refine RW.nil ?_
        refine CW.seq ?_
        refine CW.region ?_
        refine RW.p rfl rfl rfl (Yp.loadBN 1 rfl rfl rfl many26 (Nat.le_of_ble_eq_true rfl)) ?_
        refine RW.p rfl rfl rfl (Yp.move rfl rfl) ?_
        refine RW.p rfl rfl rfl (Yp.move rfl rfl) ?_
        obtain ⟨x4, hx4, hm⟩ := bnd hm
        refine RW.c rfl rfl rfl (Yc.fnV (σp := []) (args' := [.agg [.sl 1 (cL 1 (cN .u8)) ((Disk.mk p0.fDurable p0.fPending p0.fLeft p0.fDown).fDurable), .sl 2 Write.cells ((Disk.mk p0.fDurable p0.fPending p0.fLeft p0.fDown).fPending), .i ((Disk.mk p0.fDurable p0.fPending p0.fLeft p0.fDown).fLeft), .b ((Disk.mk p0.fDurable p0.fPending p0.fLeft p0.fDown).fDown)], .i p1, .sl 1 (cN .u8) p2]) rfl rfl ok20 rfl rfl rfl (VwL.id _) (m20_ok (Disk.mk p0.fDurable p0.fPending p0.fLeft p0.fDown) p1 p2 hx4)) ?_
        rintro _ _ ⟨_, ⟨rfl, rfl⟩, rfl⟩
        refine RW.p rfl rfl rfl (Yp.move rfl rfl) ?_
        refine RW.p rfl rfl rfl (Yp.extract rfl rfl rfl) ?_
        refine RW.p rfl rfl rfl (Yp.extract rfl rfl rfl) ?_
        refine RW.v rfl rfl rfl (Yv.alloc rfl zerb26) ?_
        rintro _ _ ⟨b3, rfl, rfl⟩
        refine RW.u rfl rfl (Yu.storeB 0 rfl rfl rfl rfl sz26 (Pw.p rfl) rfl (Nat.le_of_ble_eq_true rfl)) ?_
        refine RW.p rfl rfl rfl (Yp.assign rfl rfl) ?_
        refine RW.nil ?_
        refine CW.seq ?_
        obtain ⟨c2, hs2, hk2⟩ := bnd hm
        refine CW.cut (fun E σ => Sub [(6, .b c2)] E ∧ σ = []) ?_ ?_
        ·
          have hm := hs2
          refine CW.region ?_
          refine RW.p rfl rfl rfl (Yp.move rfl rfl) ?_
          refine RW.p rfl rfl rfl (Yp.move rfl rfl) ?_
          refine RW.p rfl rfl rfl (Yp.eql rfl rfl rfl) ?_
          refine RW.p rfl rfl rfl (Yp.move rfl rfl) ?_
          rcases Bool.eq_false_or_eq_true (decide (x3.2 = x4.2)) with hb4 | hb4
          ·
            have hm := ift hm hb4
            refine RW.eqv 38 rfl (congrArg AV.b hb4) ?_
            refine RW.p rfl rfl rfl (Yp.loadBN 1 rfl rfl rfl many26 (Nat.le_of_ble_eq_true rfl)) ?_
            refine RW.p rfl rfl rfl (Yp.loadBN 0 rfl rfl rfl many26 (Nat.le_of_ble_eq_true rfl)) ?_
            obtain ⟨x5, hx5, hm⟩ := bnd hm
            refine RW.c rfl rfl rfl (Yc.fnV (σp := []) (args' := [.agg [.sl 1 (cL 1 (cN .u8)) x3.1.fDurable, .sl 2 Write.cells x3.1.fPending, .i x3.1.fLeft, .b x3.1.fDown], .agg [.sl 1 (cL 1 (cN .u8)) x4.1.fDurable, .sl 2 Write.cells x4.1.fPending, .i x4.1.fLeft, .b x4.1.fDown]]) rfl rfl ok21 rfl rfl rfl (VwL.id _) (m21_ok x3.1 x4.1 hx5)) ?_
            rintro _ _ ⟨_, ⟨rfl, rfl⟩, rfl⟩
            refine RW.p rfl rfl rfl (Yp.pickT rfl rfl rfl) ?_
            refine RW.p rfl rfl rfl (Yp.assign rfl rfl) ?_
            refine RW.sel [] rfl ?_
            refine RW.nil ?_
            cases hm
            exact ⟨(Sub.cons rfl Sub.nil), rfl⟩
          ·
            have hm := iff' hm hb4
            refine RW.eqv 38 rfl (congrArg AV.b hb4) ?_
            refine RW.skip rfl rfl rfl ?_
            refine RW.skip rfl rfl rfl ?_
            refine RW.skip rfl rfl rfl ?_
            refine RW.p rfl rfl rfl (Yp.pickF rfl rfl rfl) ?_
            refine RW.p rfl rfl rfl (Yp.assign rfl rfl) ?_
            refine RW.sel [] rfl ?_
            refine RW.nil ?_
            cases hm
            exact ⟨(Sub.cons rfl Sub.nil), rfl⟩
        ·
          rintro E σ ⟨hsub2, rfl⟩
          have hm := hk2
          refine CW.weak ?_ hsub2
          refine CW.ret ?_
          cases hm
          exact fin1 (.inr rfl) rfl (ResIs.tmp rfl) (List.nil_sublist _) ⟨rfl, rfl⟩

def m26_l1 (p1 : List Bool) (x2 : Disk) : Nat → (List (List Int)) → Int → Option (List (List Int))
  | 0, _, _ => none
  | k1 + 1, l4, n3 =>
    if (decide (n3 < (x2.fPending.length : Int))) = true then
      Option.bind (
        if 0 ≤ n3 ∧ n3 < (x2.fPending.length : Int) then
        Option.bind (
          if (decide (n3 < (p1.length : Int))) = true then
            if 0 ≤ n3 ∧ n3 < (p1.length : Int) then
            some (p1[Int.toNat n3]!)
            else none
          else
            some false) fun c1 =>
        if c1 = true then
          if 0 ≤ ((x2.fPending[Int.toNat n3]!).fAt) ∧ ((x2.fPending[Int.toNat n3]!).fAt) < (l4.length : Int) then
          some (l4.set (Int.toNat ((x2.fPending[Int.toNat n3]!).fAt)) ((x2.fPending[Int.toNat n3]!).fData))
          else none
        else
          some l4
        else none) fun l6 =>
      m26_l1 p1 x2 k1 l6 (w64 (n3 + 1))
    else
      some l4
def m26 (p0 : Disk) (p1 : List Bool) : Option (Disk × Int) :=
  (m25 p0).bind fun x1 =>
  if (!x1) = true then
    some ((Disk.mk [] [] 0 false), 1)
  else
    (m30_1 p0).bind fun x2 =>
    Option.bind (
      (m26_l1 p1 x2 (Int.toNat (x2.fPending.length : Int) + 1) x2.fDurable 0).bind fun l5 =>
      some l5) fun l1 =>
    some ((Disk.mk l1 [] (-1) false), 0)

theorem m26_ok (p0 : Disk) (p1 : List Bool)  {r : Disk × Int} (hm : m26 p0 p1 = some r) : Ab.Fn Try.prog 26 [.agg [.sl 1 (cL 1 (cN .u8)) p0.fDurable, .sl 2 Write.cells p0.fPending, .i p0.fLeft, .b p0.fDown], .sl 1 cB p1] [] (fun a s => a = .tup [.agg [.sl 1 (cL 1 (cN .u8)) r.1.fDurable, .sl 2 Write.cells r.1.fPending, .i r.1.fLeft, .b r.1.fDown], .i r.2] ∧ s = []) := by
  rw [m26] at hm
  refine Ab.Fn.of Try.func26 rfl rfl rfl (fun C => ?_)
  refine CW.seq ?_
  refine CW.region ?_
  refine RW.v rfl rfl rfl (Yv.box rfl rfl (Pw.p rfl)) ?_
  rintro _ _ ⟨b1, rfl, rfl⟩
  refine RW.v rfl rfl rfl (Yv.alloc rfl zerb26) ?_
  rintro _ _ ⟨b2, rfl, rfl⟩
  refine RW.p rfl rfl rfl (Yp.assign rfl rfl) ?_
  refine RW.nil ?_
  refine CW.seq ?_
  refine CW.seq ?_
  refine CW.region ?_
  refine RW.p rfl rfl rfl (Yp.loadBN 1 rfl rfl rfl many26 (Nat.le_of_ble_eq_true rfl)) ?_
  obtain ⟨x1, hx1, hm⟩ := bnd hm
  refine RW.c rfl rfl rfl (Yc.fnV (σp := []) (args' := [.agg [.sl 1 (cL 1 (cN .u8)) p0.fDurable, .sl 2 Write.cells p0.fPending, .i p0.fLeft, .b p0.fDown]]) rfl rfl ok25 rfl rfl rfl (VwL.id _) (m25_ok p0 hx1)) ?_
  rintro _ _ ⟨_, ⟨rfl, rfl⟩, rfl⟩
  refine RW.p rfl rfl rfl (Yp.not rfl rfl) ?_
  refine RW.nil ?_
  refine CW.cond rfl (fun hb1 => ?_) (fun hb1 => ?_)
  ·
    have hm := ift hm hb1
    refine CW.seq ?_
    refine CW.region ?_
    refine RW.p rfl rfl rfl (Yp.build rfl plc26 zer26 rfl rfl) ?_
    refine RW.u rfl rfl (Yu.storeB 0 rfl rfl rfl rfl sz26 (Pw.p rfl) rfl (Nat.le_of_ble_eq_true rfl)) ?_
    refine RW.p rfl rfl rfl (Yp.assign rfl rfl) ?_
    refine RW.nil ?_
    refine CW.sayB 0 rfl (VwL.cons (Vw.nil 1 (cL 1 (cN .u8))) (VwL.cons (Vw.nil 2 Write.cells) (VwL.cons (Vw.id _) (VwL.cons (Vw.id _) VwL.nil)))) ?_
    refine CW.ret ?_
    cases hm
    exact fin2 (.inr rfl) rfl (ResIs.cellN 0 rfl rfl many26 rfl) (ResIs.tmp rfl) (List.nil_sublist _) ⟨rfl, rfl⟩
  ·
    have hm := iff' hm hb1
    refine CW.skip ?_
    refine CW.seq ?_
    refine CW.region ?_
    refine RW.p rfl rfl rfl (Yp.loadBN 1 rfl rfl rfl many26 (Nat.le_of_ble_eq_true rfl)) ?_
    obtain ⟨x2, hx2, hm⟩ := bnd hm
    refine RW.c rfl rfl rfl (Yc.fnV (σp := []) (args' := [.agg [.sl 1 (cL 1 (cN .u8)) p0.fDurable, .sl 2 Write.cells p0.fPending, .i p0.fLeft, .b p0.fDown]]) rfl rfl ok30 rfl rfl rfl (VwL.id _) (m30_1_ok p0 hx2)) ?_
    rintro _ _ ⟨_, ⟨v1, v2, rfl, rfl⟩, rfl⟩
    refine RW.v rfl rfl rfl (Yv.alloc rfl zerb26) ?_
    rintro _ _ ⟨b3, rfl, rfl⟩
    refine RW.u rfl rfl (Yu.storeB 0 rfl rfl rfl rfl sz26 (Pw.agg (PwL.own 1 rfl (PwL.own 2 rfl (PwL.p rfl (PwL.p rfl PwL.nil))))) rfl (Nat.le_of_ble_eq_true rfl)) ?_
    refine RW.nil ?_
    refine CW.seq ?_
    obtain ⟨l1, hs1, hk1⟩ := bnd hm
    refine CW.cut (fun E σ => Sub [(4, .lit (.pointer (some ⟨b2, 0, none⟩))), (6, .lit (.pointer (some ⟨b3, 0, none⟩)))] E ∧ σ = [.box b2 26 [.lit (.slice none 0 0), .lit (.slice none 0 0), .i 0, .b false], .box b3 26 [.lit v1, .lit v2, .i x2.fLeft, .b x2.fDown], .row v1 29 1 (cL 1 (cN .u8)) l1, .row v2 56 2 Write.cells x2.fPending]) ?_ ?_
    ·
      have hm := hs1
      refine CW.seq ?_
      refine CW.region ?_
      refine RW.p rfl rfl rfl (Yp.fieldP rfl rfl Try.underlying26 rfl sz24) ?_
      refine RW.p rfl rfl rfl (Yp.loadB1 0 rfl rfl rfl one24 rfl) ?_
      refine RW.p rfl rfl rfl (Yp.lenRow 2 rfl rfl rfl Try.underlying24) ?_
      refine RW.p rfl rfl rfl (Yp.move rfl rfl) ?_
      refine RW.nil ?_
      refine CW.block ?_
      refine CW.sel [3, 0, 0, 0] rfl ?_
      obtain ⟨l5, hs2, hk2⟩ := bnd hm
      refine CW.lp (fun k1 E σ => ∃ l4 : List (List Int), ∃ n3 : Int, Sub [(1, .sl 1 cB p1), (4, .lit (.pointer (some ⟨b2, 0, none⟩))), (6, .lit (.pointer (some ⟨b3, 0, none⟩))), (16, .lit v2), (17, .i (x2.fPending.length : Int)), (18, .i n3)] E ∧ σ = [.box b2 26 [.lit (.slice none 0 0), .lit (.slice none 0 0), .i 0, .b false], .box b3 26 [.lit v1, .lit v2, .i x2.fLeft, .b x2.fDown], .row v1 29 1 (cL 1 (cN .u8)) l4, .row v2 56 2 Write.cells x2.fPending] ∧ m26_l1 p1 x2 k1 l4 n3 = some l5) (Int.toNat (x2.fPending.length : Int) + 1) ?_ ?_
      · exact ⟨x2.fDurable, 0, (Sub.cons rfl (Sub.cons rfl (Sub.cons rfl (Sub.cons rfl (Sub.cons rfl (Sub.cons rfl Sub.nil)))))), rfl, hs2⟩
      ·
        rintro k1 E σ ⟨l4, n3, hsub1, rfl, hm⟩
        refine CW.weak ?_ hsub1
        cases k1 with
        | zero => cases hm
        | succ k1 =>
          rw [m26_l1] at hm
          refine CW.seq ?_
          refine CW.region ?_
          refine RW.p rfl rfl rfl (Yp.lss rfl rfl rfl) ?_
          refine RW.nil ?_
          refine CW.seq ?_
          refine CW.cond rfl (fun hb2 => ?_) (fun hb2 => ?_)
          ·
            have hm := ift hm hb2
            refine CW.skip ?_
            refine CW.seq ?_
            obtain ⟨l6, hs3, hk3⟩ := bnd hm
            refine CW.cut (fun E σ => Sub [(1, .sl 1 cB p1), (4, .lit (.pointer (some ⟨b2, 0, none⟩))), (6, .lit (.pointer (some ⟨b3, 0, none⟩))), (16, .lit v2), (17, .i (x2.fPending.length : Int)), (18, .i n3)] E ∧ σ = [.box b2 26 [.lit (.slice none 0 0), .lit (.slice none 0 0), .i 0, .b false], .box b3 26 [.lit v1, .lit v2, .i x2.fLeft, .b x2.fDown], .row v1 29 1 (cL 1 (cN .u8)) l6, .row v2 56 2 Write.cells x2.fPending]) ?_ ?_
            ·
              have hm := hs3
              refine CW.block ?_
              refine CW.seq ?_
              refine CW.region ?_
              refine RW.p rfl rfl rfl (Yp.move rfl rfl) ?_
              obtain ⟨hc1, hm⟩ := chk hm
              refine RW.p rfl rfl rfl (Yp.indexRow 3 rfl rfl rfl rfl Try.underlying24 sz56 hc1) ?_
              refine RW.p rfl rfl rfl (Yp.loadRN (of := 0) 3 (Int.toNat n3) rfl rfl rfl many56 rfl (by have := hc1; (try simp only [List.length_set] at this); (try simp only [List.length_set]); omega) (by decide)) ?_
              refine RW.v rfl rfl rfl (Yv.alloc rfl zerb56) ?_
              rintro _ _ ⟨b4, rfl, rfl⟩
              refine RW.p rfl rfl rfl (Yp.assign rfl rfl) ?_
              refine RW.u rfl rfl (Yu.storeB 0 rfl rfl rfl rfl sz56 (Pw.p rfl) rfl (Nat.le_of_ble_eq_true rfl)) ?_
              refine RW.nil ?_
              refine CW.seq ?_
              obtain ⟨c1, hs4, hk4⟩ := bnd hm
              refine CW.cut (fun E σ => Sub [(1, .sl 1 cB p1), (4, .lit (.pointer (some ⟨b2, 0, none⟩))), (6, .lit (.pointer (some ⟨b3, 0, none⟩))), (8, .lit (.pointer (some ⟨b4, 0, none⟩))), (16, .lit v2), (17, .i (x2.fPending.length : Int)), (18, .i n3), (32, .b c1)] E ∧ σ = [.box b2 26 [.lit (.slice none 0 0), .lit (.slice none 0 0), .i 0, .b false], .box b3 26 [.lit v1, .lit v2, .i x2.fLeft, .b x2.fDown], .row v1 29 1 (cL 1 (cN .u8)) l4, .row v2 56 2 Write.cells x2.fPending, .box b4 56 [.i ((x2.fPending[Int.toNat n3]!).fAt), .sl 1 (cN .u8) ((x2.fPending[Int.toNat n3]!).fData)]]) ?_ ?_
              ·
                have hm := hs4
                refine CW.region ?_
                refine RW.p rfl rfl rfl (Yp.move rfl rfl) ?_
                refine RW.p rfl rfl rfl (Yp.move rfl rfl) ?_
                refine RW.p rfl rfl rfl (Yp.lenSl rfl rfl Try.underlying44) ?_
                refine RW.p rfl rfl rfl (Yp.lss rfl rfl rfl) ?_
                refine RW.p rfl rfl rfl (Yp.move rfl rfl) ?_
                rcases Bool.eq_false_or_eq_true (decide (n3 < (p1.length : Int))) with hb3 | hb3
                ·
                  have hm := ift hm hb3
                  refine RW.eqv 27 rfl (congrArg AV.b hb3) ?_
                  refine RW.p rfl rfl rfl (Yp.move rfl rfl) ?_
                  refine RW.p rfl rfl rfl (Yp.move rfl rfl) ?_
                  obtain ⟨hc2, hm⟩ := chk hm
                  refine RW.p rfl rfl rfl (Yp.indexSl rfl rfl rfl Try.underlying44 sz4 hc2) ?_
                  refine RW.p rfl rfl rfl (Yp.loadF1 rfl rfl one4 rfl) ?_
                  refine RW.p rfl rfl rfl (Yp.pickT rfl rfl rfl) ?_
                  refine RW.sel [1, 1, 1, 1, 0] rfl ?_
                  refine RW.nil ?_
                  cases hm
                  exact ⟨(Sub.cons rfl (Sub.cons rfl (Sub.cons rfl (Sub.cons rfl (Sub.cons rfl (Sub.cons rfl (Sub.cons rfl (Sub.cons rfl Sub.nil)))))))), rfl⟩
                ·
                  have hm := iff' hm hb3
                  refine RW.eqv 27 rfl (congrArg AV.b hb3) ?_
                  refine RW.skip rfl rfl rfl ?_
                  refine RW.skip rfl rfl rfl ?_
                  refine RW.skip rfl rfl rfl ?_
                  refine RW.skip rfl rfl rfl ?_
                  refine RW.p rfl rfl rfl (Yp.pickF rfl rfl rfl) ?_
                  refine RW.sel [1, 1, 1, 1, 0] rfl ?_
                  refine RW.nil ?_
                  cases hm
                  exact ⟨(Sub.cons rfl (Sub.cons rfl (Sub.cons rfl (Sub.cons rfl (Sub.cons rfl (Sub.cons rfl (Sub.cons rfl (Sub.cons rfl Sub.nil)))))))), rfl⟩
              ·
                rintro E σ ⟨hsub2, rfl⟩
                have hm := hk4
                refine CW.weak ?_ hsub2
                refine CW.cond rfl (fun hb4 => ?_) (fun hb4 => ?_)
                ·
                  have hm := ift hm hb4
                  refine CW.region ?_
                  refine RW.p rfl rfl rfl (Yp.fieldP rfl rfl Try.underlying26 rfl sz23) ?_
                  refine RW.p rfl rfl rfl (Yp.loadB1 1 rfl rfl rfl one23 rfl) ?_
                  refine RW.p rfl rfl rfl (Yp.fieldP rfl rfl Try.underlying56 rfl sz3) ?_
                  refine RW.p rfl rfl rfl (Yp.loadB1 4 rfl rfl rfl one3 rfl) ?_
                  refine RW.p rfl rfl rfl (Yp.fieldP rfl rfl Try.underlying56 rfl sz29) ?_
                  refine RW.p rfl rfl rfl (Yp.loadB1 4 rfl rfl rfl one29 rfl) ?_
                  obtain ⟨hc3, hm⟩ := chk hm
                  refine RW.p rfl rfl rfl (Yp.indexRow 2 rfl rfl rfl rfl Try.underlying23 sz29 hc3) ?_
                  refine RW.u rfl rfl (Yu.storeR (of := 0) (m := Int.toNat ((x2.fPending[Int.toNat n3]!).fAt)) 2 ((x2.fPending[Int.toNat n3]!).fData) rfl rfl rfl rfl sz29 rfl rfl rfl (by have := hc3; (try simp only [List.length_set] at this); (try simp only [List.length_set]); omega) (by decide) rfl) ?_
                  refine RW.sel [0, 0, 0, 0] rfl ?_
                  refine RW.nil ?_
                  cases hm
                  exact ⟨(Sub.cons rfl (Sub.cons rfl (Sub.cons rfl (Sub.cons rfl (Sub.cons rfl (Sub.cons rfl Sub.nil)))))), rfl⟩
                ·
                  have hm := iff' hm hb4
                  refine CW.sel [0, 0, 0, 0] rfl ?_
                  refine CW.skip ?_
                  cases hm
                  exact ⟨(Sub.cons rfl (Sub.cons rfl (Sub.cons rfl (Sub.cons rfl (Sub.cons rfl (Sub.cons rfl Sub.nil)))))), rfl⟩
            ·
              rintro E σ ⟨hsub3, rfl⟩
              have hm := hk3
              refine CW.weak ?_ hsub3
              refine CW.region ?_
              refine RW.p rfl rfl rfl (Yp.add rfl rfl rfl) ?_
              refine RW.p rfl rfl rfl (Yp.move rfl rfl) ?_
              refine RW.nil ?_
              exact ⟨k1, Nat.lt_succ_self _, _, _, (Sub.cons rfl (Sub.cons rfl (Sub.cons rfl (Sub.cons rfl (Sub.cons rfl (Sub.cons rfl Sub.nil)))))), rfl, hm⟩
          ·
            have hm := iff' hm hb2
            refine CW.exit ?_
            cases hm
            have hm := hk2
            cases hm
            exact ⟨(Sub.cons rfl (Sub.cons rfl Sub.nil)), rfl⟩
    ·
      rintro E σ ⟨hsub4, rfl⟩
      have hm := hk1
      refine CW.weak ?_ hsub4
      refine CW.seq ?_
      refine CW.region ?_
      refine RW.p rfl rfl rfl (Yp.fieldP rfl rfl Try.underlying26 rfl sz23) ?_
      refine RW.p rfl rfl rfl (Yp.loadB1 1 rfl rfl rfl one23 rfl) ?_
      refine RW.frz 2 42 rfl rfl (Vw.row 0 rfl) ?_
      refine RW.p rfl rfl rfl (Yp.build rfl plc26 zer26 rfl rfl) ?_
      refine RW.u rfl rfl (Yu.storeB 0 rfl rfl rfl rfl sz26 (Pw.p rfl) rfl (Nat.le_of_ble_eq_true rfl)) ?_
      refine RW.p rfl rfl rfl (Yp.assign rfl rfl) ?_
      refine RW.nil ?_
      refine CW.sayB 0 rfl (VwL.cons (Vw.id _) (VwL.cons (Vw.nil 2 Write.cells) (VwL.cons (Vw.id _) (VwL.cons (Vw.id _) VwL.nil)))) ?_
      refine CW.ret ?_
      cases hm
      exact fin2 (.inr rfl) rfl (ResIs.cellN 0 rfl rfl many26 rfl) (ResIs.tmp rfl) (List.nil_sublist _) ⟨rfl, rfl⟩

def m23 (p0 : Disk) (p1 : Int) : Option (Disk × Int) :=
  (m13 p0).bind fun x1 =>
  if (!x1) = true then
    some ((Disk.mk [] [] 0 false), 1)
  else
    (m40 p0).bind fun x2 =>
    if p0.fDown = true then
      some (x2, 17)
    else
      some ((Disk.mk x2.fDurable x2.fPending (if p1 < (-1) then (-1) else p1) x2.fDown), 0)

theorem m23_ok (p0 : Disk) (p1 : Int)  {r : Disk × Int} (hm : m23 p0 p1 = some r) : Ab.Fn Try.prog 23 [.agg [.sl 1 (cL 1 (cN .u8)) p0.fDurable, .sl 2 Write.cells p0.fPending, .i p0.fLeft, .b p0.fDown], .i p1] [] (fun a s => a = .tup [.agg [.sl 1 (cL 1 (cN .u8)) r.1.fDurable, .sl 2 Write.cells r.1.fPending, .i r.1.fLeft, .b r.1.fDown], .i r.2] ∧ s = []) := by
  rw [m23] at hm
  refine Ab.Fn.of Try.func23 rfl rfl rfl (fun C => ?_)
  refine CW.seq ?_
  refine CW.region ?_
  refine RW.v rfl rfl rfl (Yv.box rfl rfl (Pw.p rfl)) ?_
  rintro _ _ ⟨b1, rfl, rfl⟩
  refine RW.v rfl rfl rfl (Yv.alloc rfl zerb26) ?_
  rintro _ _ ⟨b2, rfl, rfl⟩
  refine RW.p rfl rfl rfl (Yp.assign rfl rfl) ?_
  refine RW.nil ?_
  refine CW.seq ?_
  refine CW.seq ?_
  refine CW.region ?_
  refine RW.p rfl rfl rfl (Yp.loadBN 1 rfl rfl rfl many26 (Nat.le_of_ble_eq_true rfl)) ?_
  obtain ⟨x1, hx1, hm⟩ := bnd hm
  refine RW.c rfl rfl rfl (Yc.fnV (σp := []) (args' := [.agg [.sl 1 (cL 1 (cN .u8)) p0.fDurable, .sl 2 Write.cells p0.fPending, .i p0.fLeft, .b p0.fDown]]) rfl rfl ok13 rfl rfl rfl (VwL.id _) (m13_ok p0 hx1)) ?_
  rintro _ _ ⟨_, ⟨rfl, rfl⟩, rfl⟩
  refine RW.p rfl rfl rfl (Yp.not rfl rfl) ?_
  refine RW.nil ?_
  refine CW.cond rfl (fun hb1 => ?_) (fun hb1 => ?_)
  ·
    have hm := ift hm hb1
    refine CW.seq ?_
    refine CW.region ?_
    refine RW.p rfl rfl rfl (Yp.build rfl plc26 zer26 rfl rfl) ?_
    refine RW.u rfl rfl (Yu.storeB 0 rfl rfl rfl rfl sz26 (Pw.p rfl) rfl (Nat.le_of_ble_eq_true rfl)) ?_
    refine RW.p rfl rfl rfl (Yp.assign rfl rfl) ?_
    refine RW.nil ?_
    refine CW.sayB 0 rfl (VwL.cons (Vw.nil 1 (cL 1 (cN .u8))) (VwL.cons (Vw.nil 2 Write.cells) (VwL.cons (Vw.id _) (VwL.cons (Vw.id _) VwL.nil)))) ?_
    refine CW.ret ?_
    cases hm
    exact fin2 (.inr rfl) rfl (ResIs.cellN 0 rfl rfl many26 rfl) (ResIs.tmp rfl) (List.nil_sublist _) ⟨rfl, rfl⟩
  ·
    have hm := iff' hm hb1
    refine CW.skip ?_
    refine CW.seq ?_
    refine CW.region ?_
    refine RW.p rfl rfl rfl (Yp.loadBN 1 rfl rfl rfl many26 (Nat.le_of_ble_eq_true rfl)) ?_
    obtain ⟨x2, hx2, hm⟩ := bnd hm
    refine RW.c rfl rfl rfl (Yc.fnV (σp := []) (args' := [.agg [.sl 1 (cL 1 (cN .u8)) p0.fDurable, .sl 2 Write.cells p0.fPending, .i p0.fLeft, .b p0.fDown]]) rfl rfl ok40 rfl rfl rfl (VwL.id _) (m40_ok p0 hx2)) ?_
    rintro _ _ ⟨_, ⟨rfl, rfl⟩, rfl⟩
    refine RW.v rfl rfl rfl (Yv.alloc rfl zerb26) ?_
    rintro _ _ ⟨b3, rfl, rfl⟩
    refine RW.u rfl rfl (Yu.storeB 0 rfl rfl rfl rfl sz26 (Pw.p rfl) rfl (Nat.le_of_ble_eq_true rfl)) ?_
    refine RW.nil ?_
    refine CW.seq ?_
    refine CW.seq ?_
    refine CW.region ?_
    refine RW.p rfl rfl rfl (Yp.fieldP rfl rfl Try.underlying26 rfl sz4) ?_
    refine RW.p rfl rfl rfl (Yp.loadB1 2 rfl rfl rfl one4 rfl) ?_
    refine RW.nil ?_
    refine CW.cond rfl (fun hb2 => ?_) (fun hb2 => ?_)
    ·
      have hm := ift hm hb2
      refine CW.seq ?_
      refine CW.region ?_
      refine RW.p rfl rfl rfl (Yp.loadBN 0 rfl rfl rfl many26 (Nat.le_of_ble_eq_true rfl)) ?_
      refine RW.u rfl rfl (Yu.storeB 1 rfl rfl rfl rfl sz26 (Pw.p rfl) rfl (Nat.le_of_ble_eq_true rfl)) ?_
      refine RW.p rfl rfl rfl (Yp.assign rfl rfl) ?_
      refine RW.nil ?_
      refine CW.ret ?_
      cases hm
      exact fin2 (.inr rfl) rfl (ResIs.cellN 1 rfl rfl many26 rfl) (ResIs.tmp rfl) (List.nil_sublist _) ⟨rfl, rfl⟩
    ·
      have hm := iff' hm hb2
      refine CW.skip ?_
      refine CW.seq ?_
      refine CW.region ?_
      refine RW.p rfl rfl rfl (Yp.move rfl rfl) ?_
      refine RW.p rfl rfl rfl (Yp.max rfl rfl rfl) ?_
      refine RW.p rfl rfl rfl (Yp.fieldP rfl rfl Try.underlying26 rfl sz3) ?_
      refine RW.u rfl rfl (Yu.storeB 0 rfl rfl rfl rfl sz3 (Pw.p rfl) rfl (Nat.le_of_ble_eq_true rfl)) ?_
      refine RW.nil ?_
      refine CW.seq ?_
      refine CW.region ?_
      refine RW.p rfl rfl rfl (Yp.loadBN 0 rfl rfl rfl many26 (Nat.le_of_ble_eq_true rfl)) ?_
      refine RW.u rfl rfl (Yu.storeB 1 rfl rfl rfl rfl sz26 (Pw.p rfl) rfl (Nat.le_of_ble_eq_true rfl)) ?_
      refine RW.p rfl rfl rfl (Yp.assign rfl rfl) ?_
      refine RW.nil ?_
      refine CW.ret ?_
      cases hm
      exact fin2 (.inr rfl) rfl (ResIs.cellN 1 rfl rfl many26 rfl) (ResIs.tmp rfl) (List.nil_sublist _) ⟨rfl, rfl⟩

def m27 (p0 : Disk) (p1 : Int) : Option (Disk × Int) :=
  (m25 p0).bind fun x1 =>
  if (!x1) = true then
    some ((Disk.mk [] [] 0 false), 1)
  else
    (m30 p0).bind fun x2 =>
    if p0.fDown = true then
      some (x2, 17)
    else
      some ((Disk.mk x2.fDurable x2.fPending (if p1 < (-1) then (-1) else p1) x2.fDown), 0)

theorem m27_ok (p0 : Disk) (p1 : Int)  {r : Disk × Int} (hm : m27 p0 p1 = some r) : Ab.Fn Try.prog 27 [.agg [.sl 1 (cL 1 (cN .u8)) p0.fDurable, .sl 2 Write.cells p0.fPending, .i p0.fLeft, .b p0.fDown], .i p1] [] (fun a s => a = .tup [.agg [.sl 1 (cL 1 (cN .u8)) r.1.fDurable, .sl 2 Write.cells r.1.fPending, .i r.1.fLeft, .b r.1.fDown], .i r.2] ∧ s = []) := by
  rw [m27] at hm
  refine Ab.Fn.of Try.func27 rfl rfl rfl (fun C => ?_)
  refine CW.seq ?_
  refine CW.region ?_
  refine RW.v rfl rfl rfl (Yv.box rfl rfl (Pw.p rfl)) ?_
  rintro _ _ ⟨b1, rfl, rfl⟩
  refine RW.v rfl rfl rfl (Yv.alloc rfl zerb26) ?_
  rintro _ _ ⟨b2, rfl, rfl⟩
  refine RW.p rfl rfl rfl (Yp.assign rfl rfl) ?_
  refine RW.nil ?_
  refine CW.seq ?_
  refine CW.seq ?_
  refine CW.region ?_
  refine RW.p rfl rfl rfl (Yp.loadBN 1 rfl rfl rfl many26 (Nat.le_of_ble_eq_true rfl)) ?_
  obtain ⟨x1, hx1, hm⟩ := bnd hm
  refine RW.c rfl rfl rfl (Yc.fnV (σp := []) (args' := [.agg [.sl 1 (cL 1 (cN .u8)) p0.fDurable, .sl 2 Write.cells p0.fPending, .i p0.fLeft, .b p0.fDown]]) rfl rfl ok25 rfl rfl rfl (VwL.id _) (m25_ok p0 hx1)) ?_
  rintro _ _ ⟨_, ⟨rfl, rfl⟩, rfl⟩
  refine RW.p rfl rfl rfl (Yp.not rfl rfl) ?_
  refine RW.nil ?_
  refine CW.cond rfl (fun hb1 => ?_) (fun hb1 => ?_)
  ·
    have hm := ift hm hb1
    refine CW.seq ?_
    refine CW.region ?_
    refine RW.p rfl rfl rfl (Yp.build rfl plc26 zer26 rfl rfl) ?_
    refine RW.u rfl rfl (Yu.storeB 0 rfl rfl rfl rfl sz26 (Pw.p rfl) rfl (Nat.le_of_ble_eq_true rfl)) ?_
    refine RW.p rfl rfl rfl (Yp.assign rfl rfl) ?_
    refine RW.nil ?_
    refine CW.sayB 0 rfl (VwL.cons (Vw.nil 1 (cL 1 (cN .u8))) (VwL.cons (Vw.nil 2 Write.cells) (VwL.cons (Vw.id _) (VwL.cons (Vw.id _) VwL.nil)))) ?_
    refine CW.ret ?_
    cases hm
    exact fin2 (.inr rfl) rfl (ResIs.cellN 0 rfl rfl many26 rfl) (ResIs.tmp rfl) (List.nil_sublist _) ⟨rfl, rfl⟩
  ·
    have hm := iff' hm hb1
    refine CW.skip ?_
    refine CW.seq ?_
    refine CW.region ?_
    refine RW.p rfl rfl rfl (Yp.loadBN 1 rfl rfl rfl many26 (Nat.le_of_ble_eq_true rfl)) ?_
    obtain ⟨x2, hx2, hm⟩ := bnd hm
    refine RW.c rfl rfl rfl (Yc.fnV (σp := []) (args' := [.agg [.sl 1 (cL 1 (cN .u8)) p0.fDurable, .sl 2 Write.cells p0.fPending, .i p0.fLeft, .b p0.fDown]]) rfl rfl ok30 rfl rfl rfl (VwL.id _) (m30_ok p0 hx2)) ?_
    rintro _ _ ⟨_, ⟨rfl, rfl⟩, rfl⟩
    refine RW.v rfl rfl rfl (Yv.alloc rfl zerb26) ?_
    rintro _ _ ⟨b3, rfl, rfl⟩
    refine RW.u rfl rfl (Yu.storeB 0 rfl rfl rfl rfl sz26 (Pw.p rfl) rfl (Nat.le_of_ble_eq_true rfl)) ?_
    refine RW.nil ?_
    refine CW.seq ?_
    refine CW.seq ?_
    refine CW.region ?_
    refine RW.p rfl rfl rfl (Yp.fieldP rfl rfl Try.underlying26 rfl sz4) ?_
    refine RW.p rfl rfl rfl (Yp.loadB1 2 rfl rfl rfl one4 rfl) ?_
    refine RW.nil ?_
    refine CW.cond rfl (fun hb2 => ?_) (fun hb2 => ?_)
    ·
      have hm := ift hm hb2
      refine CW.seq ?_
      refine CW.region ?_
      refine RW.p rfl rfl rfl (Yp.loadBN 0 rfl rfl rfl many26 (Nat.le_of_ble_eq_true rfl)) ?_
      refine RW.u rfl rfl (Yu.storeB 1 rfl rfl rfl rfl sz26 (Pw.p rfl) rfl (Nat.le_of_ble_eq_true rfl)) ?_
      refine RW.p rfl rfl rfl (Yp.assign rfl rfl) ?_
      refine RW.nil ?_
      refine CW.ret ?_
      cases hm
      exact fin2 (.inr rfl) rfl (ResIs.cellN 1 rfl rfl many26 rfl) (ResIs.tmp rfl) (List.nil_sublist _) ⟨rfl, rfl⟩
    ·
      have hm := iff' hm hb2
      refine CW.skip ?_
      refine CW.seq ?_
      refine CW.region ?_
      refine RW.p rfl rfl rfl (Yp.move rfl rfl) ?_
      refine RW.p rfl rfl rfl (Yp.max rfl rfl rfl) ?_
      refine RW.p rfl rfl rfl (Yp.fieldP rfl rfl Try.underlying26 rfl sz3) ?_
      refine RW.u rfl rfl (Yu.storeB 0 rfl rfl rfl rfl sz3 (Pw.p rfl) rfl (Nat.le_of_ble_eq_true rfl)) ?_
      refine RW.nil ?_
      refine CW.seq ?_
      refine CW.region ?_
      refine RW.p rfl rfl rfl (Yp.loadBN 0 rfl rfl rfl many26 (Nat.le_of_ble_eq_true rfl)) ?_
      refine RW.u rfl rfl (Yu.storeB 1 rfl rfl rfl rfl sz26 (Pw.p rfl) rfl (Nat.le_of_ble_eq_true rfl)) ?_
      refine RW.p rfl rfl rfl (Yp.assign rfl rfl) ?_
      refine RW.nil ?_
      refine CW.ret ?_
      cases hm
      exact fin2 (.inr rfl) rfl (ResIs.cellN 1 rfl rfl many26 rfl) (ResIs.tmp rfl) (List.nil_sublist _) ⟨rfl, rfl⟩

def m7 (p0 : Disk) (p1 : List Bool) (p2 : Int) : Option Bool :=
  (m11).bind fun x1 =>
  if (!x1) = true then
    some false
  else
    Option.bind (
      (m16 p0).bind fun x2 =>
      if (!x2) = true then
        some true
      else
        some (decide ((60 : Int) < (p1.length : Int)))) fun c1 =>
    if c1 = true then
      some true
    else
      (m24 p0 p1).bind fun x3 =>
      (m26 p0 p1).bind fun x4 =>
      (m23 p0 p2).bind fun x5 =>
      (m27 p0 p2).bind fun x6 =>
      Option.bind (
        if (decide (x3.2 = x4.2)) = true then
          (m21 x3.1 x4.1).bind fun x7 =>
          if x7 = true then
            if (decide (x5.2 = x6.2)) = true then
              (m21 x5.1 x6.1).bind fun x8 =>
              some x8
            else
              some false
          else
            some false
        else
          some false) fun c2 =>
      some c2

theorem m7_ok (p0 : Disk) (p1 : List Bool) (p2 : Int)  {r : Bool} (hm : m7 p0 p1 p2 = some r) : Ab.Fn Try.prog 7 [.agg [.sl 1 (cL 1 (cN .u8)) p0.fDurable, .sl 2 Write.cells p0.fPending, .i p0.fLeft, .b p0.fDown], .sl 1 cB p1, .i p2] [] (fun a s => a = .b r ∧ s = []) := by
  rw [m7] at hm
  refine Ab.Fn.of Try.func7 rfl rfl rfl (fun C => ?_)
  refine CW.seq ?_
  refine CW.region ?_
  refine RW.v rfl rfl rfl (Yv.box rfl rfl (Pw.p rfl)) ?_
  rintro _ _ ⟨b1, rfl, rfl⟩
  refine RW.p rfl rfl rfl (Yp.assign rfl rfl) ?_
  refine RW.nil ?_
  refine CW.seq ?_
  refine CW.seq ?_
  refine CW.region ?_
  obtain ⟨x1, hx1, hm⟩ := bnd hm
  refine RW.c rfl rfl rfl (Yc.fnV (σp := []) (args' := []) rfl rfl ok11 rfl rfl rfl (VwL.id _) (m11_ok  hx1)) ?_
  rintro _ _ ⟨_, ⟨rfl, rfl⟩, rfl⟩
  refine RW.p rfl rfl rfl (Yp.not rfl rfl) ?_
  refine RW.nil ?_
  refine CW.cond rfl (fun hb1 => ?_) (fun hb1 => ?_)
  ·
    have hm := ift hm hb1
    refine CW.seq ?_
    refine CW.region ?_
    refine RW.p rfl rfl rfl (Yp.assign rfl rfl) ?_
    refine RW.nil ?_
    refine CW.ret ?_
    cases hm
    exact fin1 (.inr rfl) rfl (ResIs.tmp rfl) (List.nil_sublist _) ⟨rfl, rfl⟩
  ·
    have hm := iff' hm hb1
    refine CW.skip ?_
    refine CW.seq ?_
    refine CW.seq ?_
    obtain ⟨c1, hs1, hk1⟩ := bnd hm
    refine CW.cut (fun E σ => Sub [(1, .sl 1 cB p1), (2, .i p2), (3, .lit (.pointer (some ⟨b1, 0, none⟩))), (24, .b c1)] E ∧ σ = [.box b1 26 [.sl 1 (cL 1 (cN .u8)) p0.fDurable, .sl 2 Write.cells p0.fPending, .i p0.fLeft, .b p0.fDown]]) ?_ ?_
    ·
      have hm := hs1
      refine CW.region ?_
      refine RW.p rfl rfl rfl (Yp.loadBN 0 rfl rfl rfl many26 (Nat.le_of_ble_eq_true rfl)) ?_
      obtain ⟨x2, hx2, hm⟩ := bnd hm
      refine RW.c rfl rfl rfl (Yc.fnV (σp := []) (args' := [.agg [.sl 1 (cL 1 (cN .u8)) p0.fDurable, .sl 2 Write.cells p0.fPending, .i p0.fLeft, .b p0.fDown]]) rfl rfl ok16 rfl rfl rfl (VwL.id _) (m16_ok p0 hx2)) ?_
      rintro _ _ ⟨_, ⟨rfl, rfl⟩, rfl⟩
      refine RW.p rfl rfl rfl (Yp.not rfl rfl) ?_
      refine RW.p rfl rfl rfl (Yp.move rfl rfl) ?_
      rcases Bool.eq_false_or_eq_true (!x2) with hb2 | hb2
      ·
        have hm := ift hm hb2
        refine RW.eqv 20 rfl (congrArg AV.b hb2) ?_
        refine RW.skip rfl rfl rfl ?_
        refine RW.skip rfl rfl rfl ?_
        refine RW.skip rfl rfl rfl ?_
        refine RW.p rfl rfl rfl (Yp.pickT rfl rfl rfl) ?_
        refine RW.nil ?_
        cases hm
        exact ⟨(Sub.cons rfl (Sub.cons rfl (Sub.cons rfl (Sub.cons rfl Sub.nil)))), rfl⟩
      ·
        have hm := iff' hm hb2
        refine RW.eqv 20 rfl (congrArg AV.b hb2) ?_
        refine RW.p rfl rfl rfl (Yp.move rfl rfl) ?_
        refine RW.p rfl rfl rfl (Yp.lenSl rfl rfl Try.underlying44) ?_
        refine RW.p rfl rfl rfl (Yp.gtr rfl rfl rfl) ?_
        refine RW.p rfl rfl rfl (Yp.pickF rfl rfl rfl) ?_
        refine RW.nil ?_
        cases hm
        exact ⟨(Sub.cons rfl (Sub.cons rfl (Sub.cons rfl (Sub.cons rfl Sub.nil)))), rfl⟩
    ·
      rintro E σ ⟨hsub1, rfl⟩
      have hm := hk1
      refine CW.weak ?_ hsub1
      refine CW.cond rfl (fun hb3 => ?_) (fun hb3 => ?_)
      ·
        have hm := ift hm hb3
        refine CW.seq ?_
        refine CW.region ?_
        refine RW.p rfl rfl rfl (Yp.assign rfl rfl) ?_
        refine RW.nil ?_
        refine CW.ret ?_
        cases hm
        exact fin1 (.inr rfl) rfl (ResIs.tmp rfl) (List.nil_sublist _) ⟨rfl, rfl⟩
      ·
        have hm := iff' hm hb3
        refine CW.skip ?_
        refine CW.seq ?_
        refine CW.region ?_
        refine RW.p rfl rfl rfl (Yp.loadBN 0 rfl rfl rfl many26 (Nat.le_of_ble_eq_true rfl)) ?_
        refine RW.p rfl rfl rfl (Yp.move rfl rfl) ?_
        obtain ⟨x3, hx3, hm⟩ := bnd hm
        refine RW.c rfl rfl rfl (Yc.fnV (σp := []) (args' := [.agg [.sl 1 (cL 1 (cN .u8)) p0.fDurable, .sl 2 Write.cells p0.fPending, .i p0.fLeft, .b p0.fDown], .sl 1 cB p1]) rfl rfl ok24 rfl rfl rfl (VwL.id _) (m24_ok p0 p1 hx3)) ?_
        rintro _ _ ⟨_, ⟨rfl, rfl⟩, rfl⟩
        refine RW.p rfl rfl rfl (Yp.move rfl rfl) ?_
        refine RW.p rfl rfl rfl (Yp.extract rfl rfl rfl) ?_
        refine RW.p rfl rfl rfl (Yp.extract rfl rfl rfl) ?_
        refine RW.v rfl rfl rfl (Yv.alloc rfl zerb26) ?_
        rintro _ _ ⟨b2, rfl, rfl⟩
        refine RW.u rfl rfl (Yu.storeB 0 rfl rfl rfl rfl sz26 (Pw.p rfl) rfl (Nat.le_of_ble_eq_true rfl)) ?_
        refine RW.p rfl rfl rfl (Yp.assign rfl rfl) ?_
        refine RW.nil ?_
        refine CW.seq ?_
        refine CW.region ?_
        refine RW.p rfl rfl rfl (Yp.loadBN 1 rfl rfl rfl many26 (Nat.le_of_ble_eq_true rfl)) ?_
        refine RW.p rfl rfl rfl (Yp.move rfl rfl) ?_
        obtain ⟨x4, hx4, hm⟩ := bnd hm
        refine RW.c rfl rfl rfl (Yc.fnV (σp := []) (args' := [.agg [.sl 1 (cL 1 (cN .u8)) p0.fDurable, .sl 2 Write.cells p0.fPending, .i p0.fLeft, .b p0.fDown], .sl 1 cB p1]) rfl rfl ok26 rfl rfl rfl (VwL.id _) (m26_ok p0 p1 hx4)) ?_
        rintro _ _ ⟨_, ⟨rfl, rfl⟩, rfl⟩
        refine RW.p rfl rfl rfl (Yp.move rfl rfl) ?_
        refine RW.p rfl rfl rfl (Yp.extract rfl rfl rfl) ?_
        refine RW.p rfl rfl rfl (Yp.extract rfl rfl rfl) ?_
        refine RW.v rfl rfl rfl (Yv.alloc rfl zerb26) ?_
        rintro _ _ ⟨b3, rfl, rfl⟩
        refine RW.u rfl rfl (Yu.storeB 0 rfl rfl rfl rfl sz26 (Pw.p rfl) rfl (Nat.le_of_ble_eq_true rfl)) ?_
        refine RW.p rfl rfl rfl (Yp.assign rfl rfl) ?_
        refine RW.nil ?_
        refine CW.seq ?_
        refine CW.region ?_
        refine RW.p rfl rfl rfl (Yp.loadBN 2 rfl rfl rfl many26 (Nat.le_of_ble_eq_true rfl)) ?_
        refine RW.p rfl rfl rfl (Yp.move rfl rfl) ?_
        obtain ⟨x5, hx5, hm⟩ := bnd hm
        refine RW.c rfl rfl rfl (Yc.fnV (σp := []) (args' := [.agg [.sl 1 (cL 1 (cN .u8)) p0.fDurable, .sl 2 Write.cells p0.fPending, .i p0.fLeft, .b p0.fDown], .i p2]) rfl rfl ok23 rfl rfl rfl (VwL.id _) (m23_ok p0 p2 hx5)) ?_
        rintro _ _ ⟨_, ⟨rfl, rfl⟩, rfl⟩
        refine RW.p rfl rfl rfl (Yp.move rfl rfl) ?_
        refine RW.p rfl rfl rfl (Yp.extract rfl rfl rfl) ?_
        refine RW.p rfl rfl rfl (Yp.extract rfl rfl rfl) ?_
        refine RW.v rfl rfl rfl (Yv.alloc rfl zerb26) ?_
        rintro _ _ ⟨b4, rfl, rfl⟩
        refine RW.u rfl rfl (Yu.storeB 0 rfl rfl rfl rfl sz26 (Pw.p rfl) rfl (Nat.le_of_ble_eq_true rfl)) ?_
        refine RW.p rfl rfl rfl (Yp.assign rfl rfl) ?_
        refine RW.nil ?_
        refine CW.seq ?_
        refine CW.region ?_
        refine RW.p rfl rfl rfl (Yp.loadBN 3 rfl rfl rfl many26 (Nat.le_of_ble_eq_true rfl)) ?_
        refine RW.p rfl rfl rfl (Yp.move rfl rfl) ?_
        obtain ⟨x6, hx6, hm⟩ := bnd hm
        refine RW.c rfl rfl rfl (Yc.fnV (σp := []) (args' := [.agg [.sl 1 (cL 1 (cN .u8)) p0.fDurable, .sl 2 Write.cells p0.fPending, .i p0.fLeft, .b p0.fDown], .i p2]) rfl rfl ok27 rfl rfl rfl (VwL.id _) (m27_ok p0 p2 hx6)) ?_
        rintro _ _ ⟨_, ⟨rfl, rfl⟩, rfl⟩
        refine RW.p rfl rfl rfl (Yp.move rfl rfl) ?_
        refine RW.p rfl rfl rfl (Yp.extract rfl rfl rfl) ?_
        refine RW.p rfl rfl rfl (Yp.extract rfl rfl rfl) ?_
        refine RW.v rfl rfl rfl (Yv.alloc rfl zerb26) ?_
        rintro _ _ ⟨b5, rfl, rfl⟩
        refine RW.u rfl rfl (Yu.storeB 0 rfl rfl rfl rfl sz26 (Pw.p rfl) rfl (Nat.le_of_ble_eq_true rfl)) ?_
        refine RW.p rfl rfl rfl (Yp.assign rfl rfl) ?_
        refine RW.nil ?_
        refine CW.seq ?_
        obtain ⟨c2, hs2, hk2⟩ := bnd hm
        refine CW.cut (fun E σ => Sub [(6, .b c2)] E ∧ σ = []) ?_ ?_
        ·
          have hm := hs2
          refine CW.region ?_
          refine RW.p rfl rfl rfl (Yp.move rfl rfl) ?_
          refine RW.p rfl rfl rfl (Yp.move rfl rfl) ?_
          refine RW.p rfl rfl rfl (Yp.eql rfl rfl rfl) ?_
          refine RW.p rfl rfl rfl (Yp.move rfl rfl) ?_
          rcases Bool.eq_false_or_eq_true (decide (x3.2 = x4.2)) with hb4 | hb4
          ·
            have hm := ift hm hb4
            refine RW.eqv 52 rfl (congrArg AV.b hb4) ?_
            refine RW.p rfl rfl rfl (Yp.loadBN 3 rfl rfl rfl many26 (Nat.le_of_ble_eq_true rfl)) ?_
            refine RW.p rfl rfl rfl (Yp.loadBN 2 rfl rfl rfl many26 (Nat.le_of_ble_eq_true rfl)) ?_
            obtain ⟨x7, hx7, hm⟩ := bnd hm
            refine RW.c rfl rfl rfl (Yc.fnV (σp := []) (args' := [.agg [.sl 1 (cL 1 (cN .u8)) x3.1.fDurable, .sl 2 Write.cells x3.1.fPending, .i x3.1.fLeft, .b x3.1.fDown], .agg [.sl 1 (cL 1 (cN .u8)) x4.1.fDurable, .sl 2 Write.cells x4.1.fPending, .i x4.1.fLeft, .b x4.1.fDown]]) rfl rfl ok21 rfl rfl rfl (VwL.id _) (m21_ok x3.1 x4.1 hx7)) ?_
            rintro _ _ ⟨_, ⟨rfl, rfl⟩, rfl⟩
            refine RW.p rfl rfl rfl (Yp.pickT rfl rfl rfl) ?_
            refine RW.p rfl rfl rfl (Yp.move rfl rfl) ?_
            rcases Bool.eq_false_or_eq_true x7 with hb5 | hb5
            ·
              have hm := ift hm hb5
              refine RW.eqv 57 rfl (congrArg AV.b hb5) ?_
              refine RW.p rfl rfl rfl (Yp.move rfl rfl) ?_
              refine RW.p rfl rfl rfl (Yp.move rfl rfl) ?_
              refine RW.p rfl rfl rfl (Yp.eql rfl rfl rfl) ?_
              refine RW.p rfl rfl rfl (Yp.pickT rfl rfl rfl) ?_
              refine RW.p rfl rfl rfl (Yp.move rfl rfl) ?_
              rcases Bool.eq_false_or_eq_true (decide (x5.2 = x6.2)) with hb6 | hb6
              ·
                have hm := ift hm hb6
                refine RW.eqv 62 rfl (congrArg AV.b hb6) ?_
                refine RW.p rfl rfl rfl (Yp.loadBN 1 rfl rfl rfl many26 (Nat.le_of_ble_eq_true rfl)) ?_
                refine RW.p rfl rfl rfl (Yp.loadBN 0 rfl rfl rfl many26 (Nat.le_of_ble_eq_true rfl)) ?_
                obtain ⟨x8, hx8, hm⟩ := bnd hm
                refine RW.c rfl rfl rfl (Yc.fnV (σp := []) (args' := [.agg [.sl 1 (cL 1 (cN .u8)) x5.1.fDurable, .sl 2 Write.cells x5.1.fPending, .i x5.1.fLeft, .b x5.1.fDown], .agg [.sl 1 (cL 1 (cN .u8)) x6.1.fDurable, .sl 2 Write.cells x6.1.fPending, .i x6.1.fLeft, .b x6.1.fDown]]) rfl rfl ok21 rfl rfl rfl (VwL.id _) (m21_ok x5.1 x6.1 hx8)) ?_
                rintro _ _ ⟨_, ⟨rfl, rfl⟩, rfl⟩
                refine RW.p rfl rfl rfl (Yp.pickT rfl rfl rfl) ?_
                refine RW.p rfl rfl rfl (Yp.assign rfl rfl) ?_
                refine RW.sel [] rfl ?_
                refine RW.nil ?_
                cases hm
                exact ⟨(Sub.cons rfl Sub.nil), rfl⟩
              ·
                have hm := iff' hm hb6
                refine RW.eqv 62 rfl (congrArg AV.b hb6) ?_
                refine RW.skip rfl rfl rfl ?_
                refine RW.skip rfl rfl rfl ?_
                refine RW.skip rfl rfl rfl ?_
                refine RW.p rfl rfl rfl (Yp.pickF rfl rfl rfl) ?_
                refine RW.p rfl rfl rfl (Yp.assign rfl rfl) ?_
                refine RW.sel [] rfl ?_
                refine RW.nil ?_
                cases hm
                exact ⟨(Sub.cons rfl Sub.nil), rfl⟩
            ·
              have hm := iff' hm hb5
              refine RW.eqv 57 rfl (congrArg AV.b hb5) ?_
              refine RW.skip rfl rfl rfl ?_
              refine RW.skip rfl rfl rfl ?_
              refine RW.skip rfl rfl rfl ?_
              refine RW.p rfl rfl rfl (Yp.pickF rfl rfl rfl) ?_
              refine RW.p rfl rfl rfl (Yp.move rfl rfl) ?_
              refine RW.skip rfl rfl rfl ?_
              refine RW.skip rfl rfl rfl ?_
              refine RW.skip rfl rfl rfl ?_
              refine RW.p rfl rfl rfl (Yp.pickF rfl rfl rfl) ?_
              refine RW.p rfl rfl rfl (Yp.assign rfl rfl) ?_
              refine RW.sel [] rfl ?_
              refine RW.nil ?_
              cases hm
              exact ⟨(Sub.cons rfl Sub.nil), rfl⟩
          ·
            have hm := iff' hm hb4
            refine RW.eqv 52 rfl (congrArg AV.b hb4) ?_
            refine RW.skip rfl rfl rfl ?_
            refine RW.skip rfl rfl rfl ?_
            refine RW.skip rfl rfl rfl ?_
            refine RW.p rfl rfl rfl (Yp.pickF rfl rfl rfl) ?_
            refine RW.p rfl rfl rfl (Yp.move rfl rfl) ?_
            refine RW.skip rfl rfl rfl ?_
            refine RW.skip rfl rfl rfl ?_
            refine RW.skip rfl rfl rfl ?_
            refine RW.p rfl rfl rfl (Yp.pickF rfl rfl rfl) ?_
            refine RW.p rfl rfl rfl (Yp.move rfl rfl) ?_
            refine RW.skip rfl rfl rfl ?_
            refine RW.skip rfl rfl rfl ?_
            refine RW.skip rfl rfl rfl ?_
            refine RW.p rfl rfl rfl (Yp.pickF rfl rfl rfl) ?_
            refine RW.p rfl rfl rfl (Yp.assign rfl rfl) ?_
            refine RW.sel [] rfl ?_
            refine RW.nil ?_
            cases hm
            exact ⟨(Sub.cons rfl Sub.nil), rfl⟩
        ·
          rintro E σ ⟨hsub2, rfl⟩
          have hm := hk2
          refine CW.weak ?_ hsub2
          refine CW.ret ?_
          cases hm
          exact fin1 (.inr rfl) rfl (ResIs.tmp rfl) (List.nil_sublist _) ⟨rfl, rfl⟩

def m22_l1 (x2 : Disk) (n1 : Int) (c1 : Bool) : Nat → (List (List Int)) → Int → Option (List (List Int))
  | 0, _, _ => none
  | k1 + 1, l4, n4 =>
    if (decide (n4 < (x2.fPending.length : Int))) = true then
      if 0 ≤ n4 ∧ n4 < (x2.fPending.length : Int) then
      (m45_1 (Disk.mk l4 x2.fPending n1 c1) (x2.fPending[Int.toNat n4]!)).bind fun x4 =>
      m22_l1 x2 n1 c1 k1 x4.fDurable (w64 (n4 + 1))
      else none
    else
      some l4
def m22 (p0 : Disk) : Option (Disk × Int) :=
  (m13 p0).bind fun x1 =>
  if (!x1) = true then
    some ((Disk.mk [] [] 0 false), 1)
  else
    (m40_1 p0).bind fun x2 =>
    Option.bind (
      if p0.fDown = true then
        some (x2.fLeft, x2.fDown, true)
      else
        (m41_1 x2).bind fun x3 =>
        some (x3.2.fLeft, x3.2.fDown, (!x3.1))) fun (n1, c1, c2) =>
    if c2 = true then
      some ((Disk.mk x2.fDurable x2.fPending n1 c1), 17)
    else
      Option.bind (
        (m22_l1 x2 n1 c1 (Int.toNat (x2.fPending.length : Int) + 1) x2.fDurable 0).bind fun l5 =>
        some l5) fun l1 =>
      some ((Disk.mk l1 [] n1 c1), 0)

theorem m22_ok (p0 : Disk)  {r : Disk × Int} (hm : m22 p0 = some r) : Ab.Fn Try.prog 22 [.agg [.sl 1 (cL 1 (cN .u8)) p0.fDurable, .sl 2 Write.cells p0.fPending, .i p0.fLeft, .b p0.fDown]] [] (fun a s => a = .tup [.agg [.sl 1 (cL 1 (cN .u8)) r.1.fDurable, .sl 2 Write.cells r.1.fPending, .i r.1.fLeft, .b r.1.fDown], .i r.2] ∧ s = []) := by
  rw [m22] at hm
  refine Ab.Fn.of Try.func22 rfl rfl rfl (fun C => ?_)
  refine CW.seq ?_
  refine CW.region ?_
  refine RW.v rfl rfl rfl (Yv.box rfl rfl (Pw.p rfl)) ?_
  rintro _ _ ⟨b1, rfl, rfl⟩
  refine RW.v rfl rfl rfl (Yv.alloc rfl zerb26) ?_
  rintro _ _ ⟨b2, rfl, rfl⟩
  refine RW.p rfl rfl rfl (Yp.assign rfl rfl) ?_
  refine RW.nil ?_
  refine CW.seq ?_
  refine CW.seq ?_
  refine CW.region ?_
  refine RW.p rfl rfl rfl (Yp.loadBN 1 rfl rfl rfl many26 (Nat.le_of_ble_eq_true rfl)) ?_
  obtain ⟨x1, hx1, hm⟩ := bnd hm
  refine RW.c rfl rfl rfl (Yc.fnV (σp := []) (args' := [.agg [.sl 1 (cL 1 (cN .u8)) p0.fDurable, .sl 2 Write.cells p0.fPending, .i p0.fLeft, .b p0.fDown]]) rfl rfl ok13 rfl rfl rfl (VwL.id _) (m13_ok p0 hx1)) ?_
  rintro _ _ ⟨_, ⟨rfl, rfl⟩, rfl⟩
  refine RW.p rfl rfl rfl (Yp.not rfl rfl) ?_
  refine RW.nil ?_
  refine CW.cond rfl (fun hb1 => ?_) (fun hb1 => ?_)
  ·
    have hm := ift hm hb1
    refine CW.seq ?_
    refine CW.region ?_
    refine RW.p rfl rfl rfl (Yp.build rfl plc26 zer26 rfl rfl) ?_
    refine RW.u rfl rfl (Yu.storeB 0 rfl rfl rfl rfl sz26 (Pw.p rfl) rfl (Nat.le_of_ble_eq_true rfl)) ?_
    refine RW.p rfl rfl rfl (Yp.assign rfl rfl) ?_
    refine RW.nil ?_
    refine CW.sayB 0 rfl (VwL.cons (Vw.nil 1 (cL 1 (cN .u8))) (VwL.cons (Vw.nil 2 Write.cells) (VwL.cons (Vw.id _) (VwL.cons (Vw.id _) VwL.nil)))) ?_
    refine CW.ret ?_
    cases hm
    exact fin2 (.inr rfl) rfl (ResIs.cellN 0 rfl rfl many26 rfl) (ResIs.tmp rfl) (List.nil_sublist _) ⟨rfl, rfl⟩
  ·
    have hm := iff' hm hb1
    refine CW.skip ?_
    refine CW.seq ?_
    refine CW.region ?_
    refine RW.p rfl rfl rfl (Yp.loadBN 1 rfl rfl rfl many26 (Nat.le_of_ble_eq_true rfl)) ?_
    obtain ⟨x2, hx2, hm⟩ := bnd hm
    refine RW.c rfl rfl rfl (Yc.fnV (σp := []) (args' := [.agg [.sl 1 (cL 1 (cN .u8)) p0.fDurable, .sl 2 Write.cells p0.fPending, .i p0.fLeft, .b p0.fDown]]) rfl rfl ok40 rfl rfl rfl (VwL.id _) (m40_1_ok p0 hx2)) ?_
    rintro _ _ ⟨_, ⟨v1, v2, rfl, rfl⟩, rfl⟩
    refine RW.v rfl rfl rfl (Yv.alloc rfl zerb26) ?_
    rintro _ _ ⟨b3, rfl, rfl⟩
    refine RW.u rfl rfl (Yu.storeB 0 rfl rfl rfl rfl sz26 (Pw.agg (PwL.own 1 rfl (PwL.own 2 rfl (PwL.p rfl (PwL.p rfl PwL.nil))))) rfl (Nat.le_of_ble_eq_true rfl)) ?_
    refine RW.nil ?_
    refine CW.seq ?_
    refine CW.seq ?_
    obtain ⟨⟨n1, c1, c2⟩, hs1, hk1⟩ := bnd hm
    refine CW.cut (fun E σ => Sub [(2, .lit (.pointer (some ⟨b2, 0, none⟩))), (4, .lit (.pointer (some ⟨b3, 0, none⟩))), (18, .b c2)] E ∧ σ = [.box b2 26 [.lit (.slice none 0 0), .lit (.slice none 0 0), .i 0, .b false], .box b3 26 [.lit v1, .lit v2, .i n1, .b c1], .row v1 29 1 (cL 1 (cN .u8)) x2.fDurable, .row v2 56 2 Write.cells x2.fPending]) ?_ ?_
    ·
      have hm := hs1
      refine CW.region ?_
      refine RW.p rfl rfl rfl (Yp.fieldP rfl rfl Try.underlying26 rfl sz4) ?_
      refine RW.p rfl rfl rfl (Yp.loadB1 4 rfl rfl rfl one4 rfl) ?_
      refine RW.p rfl rfl rfl (Yp.move rfl rfl) ?_
      rcases Bool.eq_false_or_eq_true p0.fDown with hb2 | hb2
      ·
        have hm := ift hm hb2
        refine RW.eqv 15 rfl (congrArg AV.b hb2) ?_
        refine RW.skip rfl rfl rfl ?_
        refine RW.skip rfl rfl rfl ?_
        refine RW.p rfl rfl rfl (Yp.pickT rfl rfl rfl) ?_
        refine RW.sel [3, 0, 0, 0] rfl ?_
        refine RW.nil ?_
        cases hm
        exact ⟨(Sub.cons rfl (Sub.cons rfl (Sub.cons rfl Sub.nil))), rfl⟩
      ·
        have hm := iff' hm hb2
        refine RW.eqv 15 rfl (congrArg AV.b hb2) ?_
        obtain ⟨x3, hx3, hm⟩ := bnd hm
        refine RW.c rfl rfl rfl (Yc.fnV (σp := [.box b3 26 [.lit v1, .lit v2, .i x2.fLeft, .b x2.fDown], .row v1 29 1 (cL 1 (cN .u8)) x2.fDurable, .row v2 56 2 Write.cells x2.fPending]) (args' := [.lit (.pointer (some ⟨b3, 0, none⟩))]) rfl rfl ok41 rfl rfl rfl (VwL.id _) (m41_1_ok x2 b3 v1 v2 hx3)) ?_
        rintro _ _ ⟨_, ⟨rfl, rfl⟩, rfl⟩
        refine RW.p rfl rfl rfl (Yp.not rfl rfl) ?_
        refine RW.p rfl rfl rfl (Yp.pickF rfl rfl rfl) ?_
        refine RW.sel [3, 0, 0, 0] rfl ?_
        refine RW.nil ?_
        cases hm
        exact ⟨(Sub.cons rfl (Sub.cons rfl (Sub.cons rfl Sub.nil))), rfl⟩
    ·
      rintro E σ ⟨hsub1, rfl⟩
      have hm := hk1
      refine CW.weak ?_ hsub1
      refine CW.cond rfl (fun hb3 => ?_) (fun hb3 => ?_)
      ·
        have hm := ift hm hb3
        refine CW.seq ?_
        refine CW.region ?_
        refine RW.p rfl rfl rfl (Yp.loadBN 1 rfl rfl rfl many26 (Nat.le_of_ble_eq_true rfl)) ?_
        refine RW.u rfl rfl (Yu.storeB 0 rfl rfl rfl rfl sz26 (Pw.agg (PwL.own 2 rfl (PwL.own 3 rfl (PwL.p rfl (PwL.p rfl PwL.nil))))) rfl (Nat.le_of_ble_eq_true rfl)) ?_
        refine RW.p rfl rfl rfl (Yp.assign rfl rfl) ?_
        refine RW.nil ?_
        refine CW.frzB 2 0 rfl rfl (VwL.cons (Vw.row 0 rfl) (VwL.cons (Vw.id _) (VwL.cons (Vw.id _) (VwL.cons (Vw.id _) VwL.nil)))) ?_
        refine CW.frzB 2 0 rfl rfl (VwL.cons (Vw.id _) (VwL.cons (Vw.row 0 rfl) (VwL.cons (Vw.id _) (VwL.cons (Vw.id _) VwL.nil)))) ?_
        refine CW.ret ?_
        cases hm
        exact fin2 (.inr rfl) rfl (ResIs.cellN 0 rfl rfl many26 rfl) (ResIs.tmp rfl) (List.nil_sublist _) ⟨rfl, rfl⟩
      ·
        have hm := iff' hm hb3
        refine CW.skip ?_
        refine CW.seq ?_
        obtain ⟨l1, hs2, hk2⟩ := bnd hm
        refine CW.cut (fun E σ => ∃ v3 : Value, Sub [(2, .lit (.pointer (some ⟨b2, 0, none⟩))), (4, .lit (.pointer (some ⟨b3, 0, none⟩)))] E ∧ σ = [.box b2 26 [.lit (.slice none 0 0), .lit (.slice none 0 0), .i 0, .b false], .box b3 26 [.lit v3, .lit v2, .i n1, .b c1], .row v3 29 1 (cL 1 (cN .u8)) l1, .row v2 56 2 Write.cells x2.fPending]) ?_ ?_
        ·
          have hm := hs2
          refine CW.seq ?_
          refine CW.region ?_
          refine RW.p rfl rfl rfl (Yp.fieldP rfl rfl Try.underlying26 rfl sz24) ?_
          refine RW.p rfl rfl rfl (Yp.loadB1 1 rfl rfl rfl one24 rfl) ?_
          refine RW.p rfl rfl rfl (Yp.lenRow 3 rfl rfl rfl Try.underlying24) ?_
          refine RW.p rfl rfl rfl (Yp.move rfl rfl) ?_
          refine RW.nil ?_
          refine CW.block ?_
          obtain ⟨l5, hs3, hk3⟩ := bnd hm
          refine CW.lp (fun k1 E σ => ∃ l4 : List (List Int), ∃ n4 : Int, ∃ v6 : Value, Sub [(2, .lit (.pointer (some ⟨b2, 0, none⟩))), (4, .lit (.pointer (some ⟨b3, 0, none⟩))), (21, .lit v2), (22, .i (x2.fPending.length : Int)), (23, .i n4)] E ∧ σ = [.box b2 26 [.lit (.slice none 0 0), .lit (.slice none 0 0), .i 0, .b false], .box b3 26 [.lit v6, .lit v2, .i n1, .b c1], .row v6 29 1 (cL 1 (cN .u8)) l4, .row v2 56 2 Write.cells x2.fPending] ∧ m22_l1 x2 n1 c1 k1 l4 n4 = some l5) (Int.toNat (x2.fPending.length : Int) + 1) ?_ ?_
          · exact ⟨x2.fDurable, 0, v1, (Sub.cons rfl (Sub.cons rfl (Sub.cons rfl (Sub.cons rfl (Sub.cons rfl Sub.nil))))), rfl, hs3⟩
          ·
            rintro k1 E σ ⟨l4, n4, v6, hsub2, rfl, hm⟩
            refine CW.weak ?_ hsub2
            cases k1 with
            | zero => cases hm
            | succ k1 =>
              rw [m22_l1] at hm
              refine CW.seq ?_
              refine CW.region ?_
              refine RW.p rfl rfl rfl (Yp.lss rfl rfl rfl) ?_
              refine RW.nil ?_
              refine CW.seq ?_
              refine CW.cond rfl (fun hb4 => ?_) (fun hb4 => ?_)
              ·
                have hm := ift hm hb4
                refine CW.skip ?_
                refine CW.seq ?_
                refine CW.block ?_
                refine CW.seq ?_
                refine CW.region ?_
                obtain ⟨hc1, hm⟩ := chk hm
                refine RW.p rfl rfl rfl (Yp.indexRow 3 rfl rfl rfl rfl Try.underlying24 sz56 hc1) ?_
                refine RW.p rfl rfl rfl (Yp.loadRN (of := 0) 3 (Int.toNat n4) rfl rfl rfl many56 rfl (by have := hc1; (try simp only [List.length_set] at this); (try simp only [List.length_set]); omega) (by decide)) ?_
                refine RW.v rfl rfl rfl (Yv.alloc rfl zerb56) ?_
                rintro _ _ ⟨b4, rfl, rfl⟩
                refine RW.u rfl rfl (Yu.storeB 0 rfl rfl rfl rfl sz56 (Pw.p rfl) rfl (Nat.le_of_ble_eq_true rfl)) ?_
                refine RW.nil ?_
                refine CW.region ?_
                refine RW.p rfl rfl rfl (Yp.loadBN 0 rfl rfl rfl many56 (Nat.le_of_ble_eq_true rfl)) ?_
                refine RW.sel [2, 2, 2, 0, 0] rfl ?_
                obtain ⟨x4, hx4, hm⟩ := bnd hm
                refine RW.c rfl rfl rfl (Yc.fnV (σp := [.box b3 26 [.lit v6, .lit v2, .i n1, .b c1], .row v6 29 1 (cL 1 (cN .u8)) l4, .row v2 56 2 Write.cells x2.fPending]) (args' := [.lit (.pointer (some ⟨b3, 0, none⟩)), .agg [.i ((x2.fPending[Int.toNat n4]!).fAt), .sl 1 (cN .u8) ((x2.fPending[Int.toNat n4]!).fData)]]) rfl rfl ok45 rfl rfl rfl (VwL.id _) (m45_1_ok (Disk.mk l4 x2.fPending n1 c1) (x2.fPending[Int.toNat n4]!) b3 v6 v2 hx4)) ?_
                rintro _ _ ⟨_, ⟨v8, rfl, rfl⟩, rfl⟩
                refine RW.nil ?_
                refine CW.region ?_
                refine RW.p rfl rfl rfl (Yp.add rfl rfl rfl) ?_
                refine RW.p rfl rfl rfl (Yp.move rfl rfl) ?_
                refine RW.sel [4, 0, 0, 0] rfl ?_
                refine RW.nil ?_
                exact ⟨k1, Nat.lt_succ_self _, _, _, v8, (Sub.cons rfl (Sub.cons rfl (Sub.cons rfl (Sub.cons rfl (Sub.cons rfl Sub.nil))))), rfl, hm⟩
              ·
                have hm := iff' hm hb4
                refine CW.exit ?_
                cases hm
                have hm := hk3
                cases hm
                exact ⟨v6, (Sub.cons rfl (Sub.cons rfl Sub.nil)), rfl⟩
        ·
          rintro E σ ⟨v3, hsub3, rfl⟩
          have hm := hk2
          refine CW.weak ?_ hsub3
          refine CW.seq ?_
          refine CW.region ?_
          refine RW.p rfl rfl rfl (Yp.fieldP rfl rfl Try.underlying26 rfl sz24) ?_
          refine RW.u rfl rfl (Yu.storeB 1 rfl rfl rfl rfl sz24 (Pw.p rfl) rfl (Nat.le_of_ble_eq_true rfl)) ?_
          refine RW.nil ?_
          refine CW.seq ?_
          refine CW.region ?_
          refine RW.p rfl rfl rfl (Yp.loadBN 1 rfl rfl rfl many26 (Nat.le_of_ble_eq_true rfl)) ?_
          refine RW.u rfl rfl (Yu.storeB 0 rfl rfl rfl rfl sz26 (Pw.agg (PwL.own 2 rfl (PwL.p rfl (PwL.p rfl (PwL.p rfl PwL.nil))))) rfl (Nat.le_of_ble_eq_true rfl)) ?_
          refine RW.p rfl rfl rfl (Yp.assign rfl rfl) ?_
          refine RW.nil ?_
          refine CW.frzB 2 0 rfl rfl (VwL.cons (Vw.row 0 rfl) (VwL.cons (Vw.id _) (VwL.cons (Vw.id _) (VwL.cons (Vw.id _) VwL.nil)))) ?_
          refine CW.sayB 0 rfl (VwL.cons (Vw.id _) (VwL.cons (Vw.nil 2 Write.cells) (VwL.cons (Vw.id _) (VwL.cons (Vw.id _) VwL.nil)))) ?_
          refine CW.ret ?_
          cases hm
          exact fin2 (.inr rfl) rfl (ResIs.cellN 0 rfl rfl many26 rfl) (ResIs.tmp rfl) (List.nil_sublist _) ⟨rfl, rfl⟩

def m28_l1 (x2 : Disk) : Nat → (List (List Int)) → Int → Option (List (List Int))
  | 0, _, _ => none
  | k1 + 1, l4, n3 =>
    if (decide (n3 < (x2.fPending.length : Int))) = true then
      if 0 ≤ n3 ∧ n3 < (x2.fPending.length : Int) then
      if 0 ≤ ((x2.fPending[Int.toNat n3]!).fAt) ∧ ((x2.fPending[Int.toNat n3]!).fAt) < (l4.length : Int) then
      m28_l1 x2 k1 (l4.set (Int.toNat ((x2.fPending[Int.toNat n3]!).fAt)) ((x2.fPending[Int.toNat n3]!).fData)) (w64 (n3 + 1))
      else none
      else none
    else
      some l4
def m28 (p0 : Disk) : Option (Disk × Int) :=
  (m25 p0).bind fun x1 =>
  if (!x1) = true then
    some ((Disk.mk [] [] 0 false), 1)
  else
    (m30_1 p0).bind fun x2 =>
    if p0.fDown = true then
      some (x2, 17)
    else
      if (decide (p0.fLeft = 0)) = true then
        some ((Disk.mk x2.fDurable x2.fPending x2.fLeft true), 17)
      else
        Option.bind (
          (m28_l1 x2 (Int.toNat (x2.fPending.length : Int) + 1) x2.fDurable 0).bind fun l5 =>
          some l5) fun l1 =>
        Option.bind (
          if (decide ((0 : Int) < x2.fLeft)) = true then
            some (w64 (x2.fLeft - 1))
          else
            some x2.fLeft) fun n4 =>
        some ((Disk.mk l1 [] n4 x2.fDown), 0)

theorem m28_ok (p0 : Disk)  {r : Disk × Int} (hm : m28 p0 = some r) : Ab.Fn Try.prog 28 [.agg [.sl 1 (cL 1 (cN .u8)) p0.fDurable, .sl 2 Write.cells p0.fPending, .i p0.fLeft, .b p0.fDown]] [] (fun a s => a = .tup [.agg [.sl 1 (cL 1 (cN .u8)) r.1.fDurable, .sl 2 Write.cells r.1.fPending, .i r.1.fLeft, .b r.1.fDown], .i r.2] ∧ s = []) := by
  rw [m28] at hm
  refine Ab.Fn.of Try.func28 rfl rfl rfl (fun C => ?_)
  refine CW.seq ?_
  refine CW.region ?_
  refine RW.v rfl rfl rfl (Yv.box rfl rfl (Pw.p rfl)) ?_
  rintro _ _ ⟨b1, rfl, rfl⟩
  refine RW.v rfl rfl rfl (Yv.alloc rfl zerb26) ?_
  rintro _ _ ⟨b2, rfl, rfl⟩
  refine RW.p rfl rfl rfl (Yp.assign rfl rfl) ?_
  refine RW.nil ?_
  refine CW.seq ?_
  refine CW.seq ?_
  refine CW.region ?_
  refine RW.p rfl rfl rfl (Yp.loadBN 1 rfl rfl rfl many26 (Nat.le_of_ble_eq_true rfl)) ?_
  obtain ⟨x1, hx1, hm⟩ := bnd hm
  refine RW.c rfl rfl rfl (Yc.fnV (σp := []) (args' := [.agg [.sl 1 (cL 1 (cN .u8)) p0.fDurable, .sl 2 Write.cells p0.fPending, .i p0.fLeft, .b p0.fDown]]) rfl rfl ok25 rfl rfl rfl (VwL.id _) (m25_ok p0 hx1)) ?_
  rintro _ _ ⟨_, ⟨rfl, rfl⟩, rfl⟩
  refine RW.p rfl rfl rfl (Yp.not rfl rfl) ?_
  refine RW.nil ?_
  refine CW.cond rfl (fun hb1 => ?_) (fun hb1 => ?_)
  ·
    have hm := ift hm hb1
    refine CW.seq ?_
    refine CW.region ?_
    refine RW.p rfl rfl rfl (Yp.build rfl plc26 zer26 rfl rfl) ?_
    refine RW.u rfl rfl (Yu.storeB 0 rfl rfl rfl rfl sz26 (Pw.p rfl) rfl (Nat.le_of_ble_eq_true rfl)) ?_
    refine RW.p rfl rfl rfl (Yp.assign rfl rfl) ?_
    refine RW.nil ?_
    refine CW.sayB 0 rfl (VwL.cons (Vw.nil 1 (cL 1 (cN .u8))) (VwL.cons (Vw.nil 2 Write.cells) (VwL.cons (Vw.id _) (VwL.cons (Vw.id _) VwL.nil)))) ?_
    refine CW.ret ?_
    cases hm
    exact fin2 (.inr rfl) rfl (ResIs.cellN 0 rfl rfl many26 rfl) (ResIs.tmp rfl) (List.nil_sublist _) ⟨rfl, rfl⟩
  ·
    have hm := iff' hm hb1
    refine CW.skip ?_
    refine CW.seq ?_
    refine CW.region ?_
    refine RW.p rfl rfl rfl (Yp.loadBN 1 rfl rfl rfl many26 (Nat.le_of_ble_eq_true rfl)) ?_
    obtain ⟨x2, hx2, hm⟩ := bnd hm
    refine RW.c rfl rfl rfl (Yc.fnV (σp := []) (args' := [.agg [.sl 1 (cL 1 (cN .u8)) p0.fDurable, .sl 2 Write.cells p0.fPending, .i p0.fLeft, .b p0.fDown]]) rfl rfl ok30 rfl rfl rfl (VwL.id _) (m30_1_ok p0 hx2)) ?_
    rintro _ _ ⟨_, ⟨v1, v2, rfl, rfl⟩, rfl⟩
    refine RW.v rfl rfl rfl (Yv.alloc rfl zerb26) ?_
    rintro _ _ ⟨b3, rfl, rfl⟩
    refine RW.u rfl rfl (Yu.storeB 0 rfl rfl rfl rfl sz26 (Pw.agg (PwL.own 1 rfl (PwL.own 2 rfl (PwL.p rfl (PwL.p rfl PwL.nil))))) rfl (Nat.le_of_ble_eq_true rfl)) ?_
    refine RW.nil ?_
    refine CW.seq ?_
    refine CW.seq ?_
    refine CW.region ?_
    refine RW.p rfl rfl rfl (Yp.fieldP rfl rfl Try.underlying26 rfl sz4) ?_
    refine RW.p rfl rfl rfl (Yp.loadB1 4 rfl rfl rfl one4 rfl) ?_
    refine RW.nil ?_
    refine CW.cond rfl (fun hb2 => ?_) (fun hb2 => ?_)
    ·
      have hm := ift hm hb2
      refine CW.seq ?_
      refine CW.region ?_
      refine RW.p rfl rfl rfl (Yp.loadBN 0 rfl rfl rfl many26 (Nat.le_of_ble_eq_true rfl)) ?_
      refine RW.u rfl rfl (Yu.storeB 3 rfl rfl rfl rfl sz26 (Pw.agg (PwL.own 1 rfl (PwL.own 2 rfl (PwL.p rfl (PwL.p rfl PwL.nil))))) rfl (Nat.le_of_ble_eq_true rfl)) ?_
      refine RW.p rfl rfl rfl (Yp.assign rfl rfl) ?_
      refine RW.nil ?_
      refine CW.frzB 1 2 rfl rfl (VwL.cons (Vw.row 0 rfl) (VwL.cons (Vw.id _) (VwL.cons (Vw.id _) (VwL.cons (Vw.id _) VwL.nil)))) ?_
      refine CW.frzB 1 1 rfl rfl (VwL.cons (Vw.id _) (VwL.cons (Vw.row 0 rfl) (VwL.cons (Vw.id _) (VwL.cons (Vw.id _) VwL.nil)))) ?_
      refine CW.ret ?_
      cases hm
      exact fin2 (.inr rfl) rfl (ResIs.cellN 1 rfl rfl many26 rfl) (ResIs.tmp rfl) (List.nil_sublist _) ⟨rfl, rfl⟩
    ·
      have hm := iff' hm hb2
      refine CW.skip ?_
      refine CW.seq ?_
      refine CW.seq ?_
      refine CW.region ?_
      refine RW.p rfl rfl rfl (Yp.fieldP rfl rfl Try.underlying26 rfl sz3) ?_
      refine RW.p rfl rfl rfl (Yp.loadB1 4 rfl rfl rfl one3 rfl) ?_
      refine RW.p rfl rfl rfl (Yp.eql rfl rfl rfl) ?_
      refine RW.nil ?_
      refine CW.cond rfl (fun hb3 => ?_) (fun hb3 => ?_)
      ·
        have hm := ift hm hb3
        refine CW.seq ?_
        refine CW.region ?_
        refine RW.p rfl rfl rfl (Yp.fieldP rfl rfl Try.underlying26 rfl sz4) ?_
        refine RW.u rfl rfl (Yu.storeB 0 rfl rfl rfl rfl sz4 (Pw.p rfl) rfl (Nat.le_of_ble_eq_true rfl)) ?_
        refine RW.nil ?_
        refine CW.seq ?_
        refine CW.region ?_
        refine RW.p rfl rfl rfl (Yp.loadBN 0 rfl rfl rfl many26 (Nat.le_of_ble_eq_true rfl)) ?_
        refine RW.u rfl rfl (Yu.storeB 3 rfl rfl rfl rfl sz26 (Pw.agg (PwL.own 1 rfl (PwL.own 2 rfl (PwL.p rfl (PwL.p rfl PwL.nil))))) rfl (Nat.le_of_ble_eq_true rfl)) ?_
        refine RW.p rfl rfl rfl (Yp.assign rfl rfl) ?_
        refine RW.nil ?_
        refine CW.frzB 1 2 rfl rfl (VwL.cons (Vw.row 0 rfl) (VwL.cons (Vw.id _) (VwL.cons (Vw.id _) (VwL.cons (Vw.id _) VwL.nil)))) ?_
        refine CW.frzB 1 1 rfl rfl (VwL.cons (Vw.id _) (VwL.cons (Vw.row 0 rfl) (VwL.cons (Vw.id _) (VwL.cons (Vw.id _) VwL.nil)))) ?_
        refine CW.ret ?_
        cases hm
        exact fin2 (.inr rfl) rfl (ResIs.cellN 1 rfl rfl many26 rfl) (ResIs.tmp rfl) (List.nil_sublist _) ⟨rfl, rfl⟩
      ·
        have hm := iff' hm hb3
        refine CW.skip ?_
        refine CW.seq ?_
        obtain ⟨l1, hs1, hk1⟩ := bnd hm
        refine CW.cut (fun E σ => Sub [(2, .lit (.pointer (some ⟨b2, 0, none⟩))), (4, .lit (.pointer (some ⟨b3, 0, none⟩)))] E ∧ σ = [.box b2 26 [.lit (.slice none 0 0), .lit (.slice none 0 0), .i 0, .b false], .box b3 26 [.lit v1, .lit v2, .i x2.fLeft, .b x2.fDown], .row v1 29 1 (cL 1 (cN .u8)) l1, .row v2 56 2 Write.cells x2.fPending]) ?_ ?_
        ·
          have hm := hs1
          refine CW.seq ?_
          refine CW.region ?_
          refine RW.p rfl rfl rfl (Yp.fieldP rfl rfl Try.underlying26 rfl sz24) ?_
          refine RW.p rfl rfl rfl (Yp.loadB1 0 rfl rfl rfl one24 rfl) ?_
          refine RW.p rfl rfl rfl (Yp.lenRow 2 rfl rfl rfl Try.underlying24) ?_
          refine RW.p rfl rfl rfl (Yp.move rfl rfl) ?_
          refine RW.nil ?_
          refine CW.block ?_
          refine CW.sel [3, 0, 0, 0] rfl ?_
          obtain ⟨l5, hs2, hk2⟩ := bnd hm
          refine CW.lp (fun k1 E σ => ∃ l4 : List (List Int), ∃ n3 : Int, Sub [(2, .lit (.pointer (some ⟨b2, 0, none⟩))), (4, .lit (.pointer (some ⟨b3, 0, none⟩))), (22, .lit v2), (23, .i (x2.fPending.length : Int)), (24, .i n3)] E ∧ σ = [.box b2 26 [.lit (.slice none 0 0), .lit (.slice none 0 0), .i 0, .b false], .box b3 26 [.lit v1, .lit v2, .i x2.fLeft, .b x2.fDown], .row v1 29 1 (cL 1 (cN .u8)) l4, .row v2 56 2 Write.cells x2.fPending] ∧ m28_l1 x2 k1 l4 n3 = some l5) (Int.toNat (x2.fPending.length : Int) + 1) ?_ ?_
          · exact ⟨x2.fDurable, 0, (Sub.cons rfl (Sub.cons rfl (Sub.cons rfl (Sub.cons rfl (Sub.cons rfl Sub.nil))))), rfl, hs2⟩
          ·
            rintro k1 E σ ⟨l4, n3, hsub1, rfl, hm⟩
            refine CW.weak ?_ hsub1
            cases k1 with
            | zero => cases hm
            | succ k1 =>
              rw [m28_l1] at hm
              refine CW.seq ?_
              refine CW.region ?_
              refine RW.p rfl rfl rfl (Yp.lss rfl rfl rfl) ?_
              refine RW.nil ?_
              refine CW.seq ?_
              refine CW.cond rfl (fun hb4 => ?_) (fun hb4 => ?_)
              ·
                have hm := ift hm hb4
                refine CW.skip ?_
                refine CW.seq ?_
                refine CW.block ?_
                refine CW.seq ?_
                refine CW.region ?_
                obtain ⟨hc1, hm⟩ := chk hm
                refine RW.p rfl rfl rfl (Yp.indexRow 3 rfl rfl rfl rfl Try.underlying24 sz56 hc1) ?_
                refine RW.p rfl rfl rfl (Yp.loadRN (of := 0) 3 (Int.toNat n3) rfl rfl rfl many56 rfl (by have := hc1; (try simp only [List.length_set] at this); (try simp only [List.length_set]); omega) (by decide)) ?_
                refine RW.v rfl rfl rfl (Yv.alloc rfl zerb56) ?_
                rintro _ _ ⟨b4, rfl, rfl⟩
                refine RW.u rfl rfl (Yu.storeB 0 rfl rfl rfl rfl sz56 (Pw.p rfl) rfl (Nat.le_of_ble_eq_true rfl)) ?_
                refine RW.nil ?_
                refine CW.region ?_
                refine RW.p rfl rfl rfl (Yp.fieldP rfl rfl Try.underlying26 rfl sz23) ?_
                refine RW.p rfl rfl rfl (Yp.loadB1 2 rfl rfl rfl one23 rfl) ?_
                refine RW.p rfl rfl rfl (Yp.fieldP rfl rfl Try.underlying56 rfl sz3) ?_
                refine RW.p rfl rfl rfl (Yp.loadB1 0 rfl rfl rfl one3 rfl) ?_
                refine RW.p rfl rfl rfl (Yp.fieldP rfl rfl Try.underlying56 rfl sz29) ?_
                refine RW.p rfl rfl rfl (Yp.loadB1 0 rfl rfl rfl one29 rfl) ?_
                obtain ⟨hc2, hm⟩ := chk hm
                refine RW.p rfl rfl rfl (Yp.indexRow 3 rfl rfl rfl rfl Try.underlying23 sz29 hc2) ?_
                refine RW.u rfl rfl (Yu.storeR (of := 0) (m := Int.toNat ((x2.fPending[Int.toNat n3]!).fAt)) 3 ((x2.fPending[Int.toNat n3]!).fData) rfl rfl rfl rfl sz29 rfl rfl rfl (by have := hc2; (try simp only [List.length_set] at this); (try simp only [List.length_set]); omega) (by decide) rfl) ?_
                refine RW.nil ?_
                refine CW.region ?_
                refine RW.p rfl rfl rfl (Yp.add rfl rfl rfl) ?_
                refine RW.p rfl rfl rfl (Yp.move rfl rfl) ?_
                refine RW.sel [1, 1, 1, 1] rfl ?_
                refine RW.nil ?_
                exact ⟨k1, Nat.lt_succ_self _, _, _, (Sub.cons rfl (Sub.cons rfl (Sub.cons rfl (Sub.cons rfl (Sub.cons rfl Sub.nil))))), rfl, hm⟩
              ·
                have hm := iff' hm hb4
                refine CW.exit ?_
                cases hm
                have hm := hk2
                cases hm
                exact ⟨(Sub.cons rfl (Sub.cons rfl Sub.nil)), rfl⟩
        ·
          rintro E σ ⟨hsub2, rfl⟩
          have hm := hk1
          refine CW.weak ?_ hsub2
          refine CW.seq ?_
          refine CW.region ?_
          refine RW.p rfl rfl rfl (Yp.fieldP rfl rfl Try.underlying26 rfl sz24) ?_
          refine RW.u rfl rfl (Yu.storeB 1 rfl rfl rfl rfl sz24 (Pw.p rfl) rfl (Nat.le_of_ble_eq_true rfl)) ?_
          refine RW.nil ?_
          refine CW.seq ?_
          obtain ⟨n4, hs3, hk3⟩ := bnd hm
          refine CW.cut (fun E σ => Sub [(2, .lit (.pointer (some ⟨b2, 0, none⟩))), (4, .lit (.pointer (some ⟨b3, 0, none⟩)))] E ∧ σ = [.box b2 26 [.lit (.slice none 0 0), .lit (.slice none 0 0), .i 0, .b false], .box b3 26 [.lit v1, .lit (.slice none 0 0), .i n4, .b x2.fDown], .row v1 29 1 (cL 1 (cN .u8)) l1]) ?_ ?_
          ·
            have hm := hs3
            refine CW.seq ?_
            refine CW.region ?_
            refine RW.p rfl rfl rfl (Yp.fieldP rfl rfl Try.underlying26 rfl sz3) ?_
            refine RW.p rfl rfl rfl (Yp.loadB1 1 rfl rfl rfl one3 rfl) ?_
            refine RW.p rfl rfl rfl (Yp.gtr rfl rfl rfl) ?_
            refine RW.nil ?_
            refine CW.cond rfl (fun hb5 => ?_) (fun hb5 => ?_)
            ·
              have hm := ift hm hb5
              refine CW.region ?_
              refine RW.p rfl rfl rfl (Yp.fieldP rfl rfl Try.underlying26 rfl sz3) ?_
              refine RW.p rfl rfl rfl (Yp.loadB1 1 rfl rfl rfl one3 rfl) ?_
              refine RW.p rfl rfl rfl (Yp.sub rfl rfl rfl) ?_
              refine RW.p rfl rfl rfl (Yp.fieldP rfl rfl Try.underlying26 rfl sz3) ?_
              refine RW.u rfl rfl (Yu.storeB 1 rfl rfl rfl rfl sz3 (Pw.p rfl) rfl (Nat.le_of_ble_eq_true rfl)) ?_
              refine RW.sel [0, 0, 0] rfl ?_
              refine RW.nil ?_
              cases hm
              exact ⟨(Sub.cons rfl (Sub.cons rfl Sub.nil)), rfl⟩
            ·
              have hm := iff' hm hb5
              refine CW.sel [0, 0, 0] rfl ?_
              refine CW.skip ?_
              cases hm
              exact ⟨(Sub.cons rfl (Sub.cons rfl Sub.nil)), rfl⟩
          ·
            rintro E σ ⟨hsub3, rfl⟩
            have hm := hk3
            refine CW.weak ?_ hsub3
            refine CW.seq ?_
            refine CW.region ?_
            refine RW.p rfl rfl rfl (Yp.loadBN 1 rfl rfl rfl many26 (Nat.le_of_ble_eq_true rfl)) ?_
            refine RW.u rfl rfl (Yu.storeB 0 rfl rfl rfl rfl sz26 (Pw.agg (PwL.own 2 rfl (PwL.p rfl (PwL.p rfl (PwL.p rfl PwL.nil))))) rfl (Nat.le_of_ble_eq_true rfl)) ?_
            refine RW.p rfl rfl rfl (Yp.assign rfl rfl) ?_
            refine RW.nil ?_
            refine CW.frzB 2 0 rfl rfl (VwL.cons (Vw.row 0 rfl) (VwL.cons (Vw.id _) (VwL.cons (Vw.id _) (VwL.cons (Vw.id _) VwL.nil)))) ?_
            refine CW.sayB 0 rfl (VwL.cons (Vw.id _) (VwL.cons (Vw.nil 2 Write.cells) (VwL.cons (Vw.id _) (VwL.cons (Vw.id _) VwL.nil)))) ?_
            refine CW.ret ?_
            cases hm
            exact fin2 (.inr rfl) rfl (ResIs.cellN 0 rfl rfl many26 rfl) (ResIs.tmp rfl) (List.nil_sublist _) ⟨rfl, rfl⟩

def m8 (p0 : Disk) : Option Bool :=
  (m11).bind fun x1 =>
  if (!x1) = true then
    some false
  else
    (m16 p0).bind fun x2 =>
    if (!x2) = true then
      some true
    else
      (m22 p0).bind fun x3 =>
      (m28 p0).bind fun x4 =>
      Option.bind (
        if (decide (x3.2 = x4.2)) = true then
          (m21 x3.1 x4.1).bind fun x5 =>
          some x5
        else
          some false) fun c1 =>
      some c1

theorem m8_ok (p0 : Disk)  {r : Bool} (hm : m8 p0 = some r) : Ab.Fn Try.prog 8 [.agg [.sl 1 (cL 1 (cN .u8)) p0.fDurable, .sl 2 Write.cells p0.fPending, .i p0.fLeft, .b p0.fDown]] [] (fun a s => a = .b r ∧ s = []) := by
  rw [m8] at hm
  refine Ab.Fn.of Try.func8 rfl rfl rfl (fun C => ?_)
  refine CW.seq ?_
  refine CW.region ?_
  refine RW.v rfl rfl rfl (Yv.box rfl rfl (Pw.p rfl)) ?_
  rintro _ _ ⟨b1, rfl, rfl⟩
  refine RW.p rfl rfl rfl (Yp.assign rfl rfl) ?_
  refine RW.nil ?_
  refine CW.seq ?_
  refine CW.seq ?_
  refine CW.region ?_
  obtain ⟨x1, hx1, hm⟩ := bnd hm
  refine RW.c rfl rfl rfl (Yc.fnV (σp := []) (args' := []) rfl rfl ok11 rfl rfl rfl (VwL.id _) (m11_ok  hx1)) ?_
  rintro _ _ ⟨_, ⟨rfl, rfl⟩, rfl⟩
  refine RW.p rfl rfl rfl (Yp.not rfl rfl) ?_
  refine RW.nil ?_
  refine CW.cond rfl (fun hb1 => ?_) (fun hb1 => ?_)
  ·
    have hm := ift hm hb1
    refine CW.seq ?_
    refine CW.region ?_
    refine RW.p rfl rfl rfl (Yp.assign rfl rfl) ?_
    refine RW.nil ?_
    refine CW.ret ?_
    cases hm
    exact fin1 (.inr rfl) rfl (ResIs.tmp rfl) (List.nil_sublist _) ⟨rfl, rfl⟩
  ·
    have hm := iff' hm hb1
    refine CW.skip ?_
    refine CW.seq ?_
    refine CW.seq ?_
    refine CW.region ?_
    refine RW.p rfl rfl rfl (Yp.loadBN 0 rfl rfl rfl many26 (Nat.le_of_ble_eq_true rfl)) ?_
    obtain ⟨x2, hx2, hm⟩ := bnd hm
    refine RW.c rfl rfl rfl (Yc.fnV (σp := []) (args' := [.agg [.sl 1 (cL 1 (cN .u8)) p0.fDurable, .sl 2 Write.cells p0.fPending, .i p0.fLeft, .b p0.fDown]]) rfl rfl ok16 rfl rfl rfl (VwL.id _) (m16_ok p0 hx2)) ?_
    rintro _ _ ⟨_, ⟨rfl, rfl⟩, rfl⟩
    refine RW.p rfl rfl rfl (Yp.not rfl rfl) ?_
    refine RW.nil ?_
    refine CW.cond rfl (fun hb2 => ?_) (fun hb2 => ?_)
    ·
      have hm := ift hm hb2
      refine CW.seq ?_
      refine CW.region ?_
      refine RW.p rfl rfl rfl (Yp.assign rfl rfl) ?_
      refine RW.nil ?_
      refine CW.ret ?_
      cases hm
      exact fin1 (.inr rfl) rfl (ResIs.tmp rfl) (List.nil_sublist _) ⟨rfl, rfl⟩
    ·
      have hm := iff' hm hb2
      refine CW.skip ?_
      refine CW.seq ?_
      refine CW.region ?_
      refine RW.p rfl rfl rfl (Yp.loadBN 0 rfl rfl rfl many26 (Nat.le_of_ble_eq_true rfl)) ?_
      obtain ⟨x3, hx3, hm⟩ := bnd hm
      refine RW.c rfl rfl rfl (Yc.fnV (σp := []) (args' := [.agg [.sl 1 (cL 1 (cN .u8)) p0.fDurable, .sl 2 Write.cells p0.fPending, .i p0.fLeft, .b p0.fDown]]) rfl rfl ok22 rfl rfl rfl (VwL.id _) (m22_ok p0 hx3)) ?_
      rintro _ _ ⟨_, ⟨rfl, rfl⟩, rfl⟩
      refine RW.p rfl rfl rfl (Yp.move rfl rfl) ?_
      refine RW.p rfl rfl rfl (Yp.extract rfl rfl rfl) ?_
      refine RW.p rfl rfl rfl (Yp.extract rfl rfl rfl) ?_
      refine RW.v rfl rfl rfl (Yv.alloc rfl zerb26) ?_
      rintro _ _ ⟨b2, rfl, rfl⟩
      refine RW.u rfl rfl (Yu.storeB 0 rfl rfl rfl rfl sz26 (Pw.p rfl) rfl (Nat.le_of_ble_eq_true rfl)) ?_
      refine RW.p rfl rfl rfl (Yp.assign rfl rfl) ?_
      refine RW.nil ?_
      refine CW.seq ?_
      refine CW.region ?_
      refine RW.p rfl rfl rfl (Yp.loadBN 1 rfl rfl rfl many26 (Nat.le_of_ble_eq_true rfl)) ?_
      obtain ⟨x4, hx4, hm⟩ := bnd hm
      refine RW.c rfl rfl rfl (Yc.fnV (σp := []) (args' := [.agg [.sl 1 (cL 1 (cN .u8)) p0.fDurable, .sl 2 Write.cells p0.fPending, .i p0.fLeft, .b p0.fDown]]) rfl rfl ok28 rfl rfl rfl (VwL.id _) (m28_ok p0 hx4)) ?_
      rintro _ _ ⟨_, ⟨rfl, rfl⟩, rfl⟩
      refine RW.p rfl rfl rfl (Yp.move rfl rfl) ?_
      refine RW.p rfl rfl rfl (Yp.extract rfl rfl rfl) ?_
      refine RW.p rfl rfl rfl (Yp.extract rfl rfl rfl) ?_
      refine RW.v rfl rfl rfl (Yv.alloc rfl zerb26) ?_
      rintro _ _ ⟨b3, rfl, rfl⟩
      refine RW.u rfl rfl (Yu.storeB 0 rfl rfl rfl rfl sz26 (Pw.p rfl) rfl (Nat.le_of_ble_eq_true rfl)) ?_
      refine RW.p rfl rfl rfl (Yp.assign rfl rfl) ?_
      refine RW.nil ?_
      refine CW.seq ?_
      obtain ⟨c1, hs1, hk1⟩ := bnd hm
      refine CW.cut (fun E σ => Sub [(2, .b c1)] E ∧ σ = []) ?_ ?_
      ·
        have hm := hs1
        refine CW.region ?_
        refine RW.p rfl rfl rfl (Yp.move rfl rfl) ?_
        refine RW.p rfl rfl rfl (Yp.move rfl rfl) ?_
        refine RW.p rfl rfl rfl (Yp.eql rfl rfl rfl) ?_
        refine RW.p rfl rfl rfl (Yp.move rfl rfl) ?_
        rcases Bool.eq_false_or_eq_true (decide (x3.2 = x4.2)) with hb3 | hb3
        ·
          have hm := ift hm hb3
          refine RW.eqv 25 rfl (congrArg AV.b hb3) ?_
          refine RW.p rfl rfl rfl (Yp.loadBN 1 rfl rfl rfl many26 (Nat.le_of_ble_eq_true rfl)) ?_
          refine RW.p rfl rfl rfl (Yp.loadBN 0 rfl rfl rfl many26 (Nat.le_of_ble_eq_true rfl)) ?_
          obtain ⟨x5, hx5, hm⟩ := bnd hm
          refine RW.c rfl rfl rfl (Yc.fnV (σp := []) (args' := [.agg [.sl 1 (cL 1 (cN .u8)) x3.1.fDurable, .sl 2 Write.cells x3.1.fPending, .i x3.1.fLeft, .b x3.1.fDown], .agg [.sl 1 (cL 1 (cN .u8)) x4.1.fDurable, .sl 2 Write.cells x4.1.fPending, .i x4.1.fLeft, .b x4.1.fDown]]) rfl rfl ok21 rfl rfl rfl (VwL.id _) (m21_ok x3.1 x4.1 hx5)) ?_
          rintro _ _ ⟨_, ⟨rfl, rfl⟩, rfl⟩
          refine RW.p rfl rfl rfl (Yp.pickT rfl rfl rfl) ?_
          refine RW.p rfl rfl rfl (Yp.assign rfl rfl) ?_
          refine RW.sel [] rfl ?_
          refine RW.nil ?_
          cases hm
          exact ⟨(Sub.cons rfl Sub.nil), rfl⟩
        ·
          have hm := iff' hm hb3
          refine RW.eqv 25 rfl (congrArg AV.b hb3) ?_
          refine RW.skip rfl rfl rfl ?_
          refine RW.skip rfl rfl rfl ?_
          refine RW.skip rfl rfl rfl ?_
          refine RW.p rfl rfl rfl (Yp.pickF rfl rfl rfl) ?_
          refine RW.p rfl rfl rfl (Yp.assign rfl rfl) ?_
          refine RW.sel [] rfl ?_
          refine RW.nil ?_
          cases hm
          exact ⟨(Sub.cons rfl Sub.nil), rfl⟩
      ·
        rintro E σ ⟨hsub1, rfl⟩
        have hm := hk1
        refine CW.weak ?_ hsub1
        refine CW.ret ?_
        cases hm
        exact fin1 (.inr rfl) rfl (ResIs.tmp rfl) (List.nil_sublist _) ⟨rfl, rfl⟩

def m47_l1 (p0 : List Int) (p1 : List Int) : Nat → Int → Option (Sum Unit Bool)
  | 0, _ => none
  | k1 + 1, n3 =>
    if (decide (n3 < (p0.length : Int))) = true then
      if 0 ≤ n3 ∧ n3 < (p0.length : Int) then
      if 0 ≤ n3 ∧ n3 < (p1.length : Int) then
      if (!decide ((p0[Int.toNat n3]!) = (p1[Int.toNat n3]!))) = true then
        some (Sum.inr false)
      else
        m47_l1 p0 p1 k1 (w64 (n3 + 1))
      else none
      else none
    else
      some (Sum.inl ())
def m47 (p0 : List Int) (p1 : List Int) : Option Bool :=
  if (!decide ((p0.length : Int) = (p1.length : Int))) = true then
    some false
  else
    Option.bind (
      (m47_l1 p0 p1 (Int.toNat (p0.length : Int) + 1) 0).bind fun o2 =>
      match o2 with
      | .inl () =>
        some (Sum.inl ())
      | .inr r =>
        some (Sum.inr r)) fun o1 =>
    match o1 with
    | .inl () =>
      some true
    | .inr r =>
      some r

theorem m47_ok (p0 : List Int) (p1 : List Int)  {r : Bool} (hm : m47 p0 p1 = some r) : Ab.Fn Try.prog 47 [.sl 1 (cN .u8) p0, .sl 1 (cN .u8) p1] [] (fun a s => a = .b r ∧ s = []) := by
  rw [m47] at hm
  refine Ab.Fn.of Try.func47 rfl rfl rfl (fun C => ?_)
  refine CW.seq ?_
  refine CW.region ?_
  refine RW.p rfl rfl rfl (Yp.assign rfl rfl) ?_
  refine RW.nil ?_
  refine CW.seq ?_
  refine CW.seq ?_
  refine CW.region ?_
  refine RW.p rfl rfl rfl (Yp.move rfl rfl) ?_
  refine RW.p rfl rfl rfl (Yp.lenSl rfl rfl Try.underlying29) ?_
  refine RW.p rfl rfl rfl (Yp.move rfl rfl) ?_
  refine RW.p rfl rfl rfl (Yp.lenSl rfl rfl Try.underlying29) ?_
  refine RW.p rfl rfl rfl (Yp.neq rfl rfl rfl) ?_
  refine RW.nil ?_
  refine CW.cond rfl (fun hb1 => ?_) (fun hb1 => ?_)
  ·
    have hm := ift hm hb1
    refine CW.seq ?_
    refine CW.region ?_
    refine RW.p rfl rfl rfl (Yp.assign rfl rfl) ?_
    refine RW.nil ?_
    refine CW.ret ?_
    cases hm
    exact fin1 (.inr rfl) rfl (ResIs.tmp rfl) (List.nil_sublist _) ⟨rfl, rfl⟩
  ·
    have hm := iff' hm hb1
    refine CW.skip ?_
    refine CW.seq ?_
    obtain ⟨o1, hs1, hk1⟩ := bnd hm
    refine CW.cut (fun E σ => o1 = Sum.inl () ∧ Sub [] E ∧ σ = []) ?_ ?_
    ·
      have hm := hs1
      refine CW.seq ?_
      refine CW.region ?_
      refine RW.p rfl rfl rfl (Yp.move rfl rfl) ?_
      refine RW.p rfl rfl rfl (Yp.lenSl rfl rfl Try.underlying29) ?_
      refine RW.p rfl rfl rfl (Yp.move rfl rfl) ?_
      refine RW.nil ?_
      refine CW.block ?_
      obtain ⟨o2, hs2, hk2⟩ := bnd hm
      refine CW.lp (fun k1 E σ => ∃ n3 : Int, Sub [(0, .sl 1 (cN .u8) p0), (1, .sl 1 (cN .u8) p1), (12, .i (p0.length : Int)), (13, .i n3)] E ∧ σ = [] ∧ m47_l1 p0 p1 k1 n3 = some o2) (Int.toNat (p0.length : Int) + 1) ?_ ?_
      · exact ⟨0, (Sub.cons rfl (Sub.cons rfl (Sub.cons rfl (Sub.cons rfl Sub.nil)))), rfl, hs2⟩
      ·
        rintro k1 E σ ⟨n3, hsub1, rfl, hm⟩
        refine CW.weak ?_ hsub1
        cases k1 with
        | zero => cases hm
        | succ k1 =>
          rw [m47_l1] at hm
          refine CW.seq ?_
          refine CW.region ?_
          refine RW.p rfl rfl rfl (Yp.lss rfl rfl rfl) ?_
          refine RW.nil ?_
          refine CW.seq ?_
          refine CW.cond rfl (fun hb2 => ?_) (fun hb2 => ?_)
          ·
            have hm := ift hm hb2
            refine CW.skip ?_
            refine CW.seq ?_
            refine CW.block ?_
            refine CW.seq ?_
            refine CW.region ?_
            refine RW.p rfl rfl rfl (Yp.move rfl rfl) ?_
            refine RW.p rfl rfl rfl (Yp.assign rfl rfl) ?_
            refine RW.nil ?_
            refine CW.seq ?_
            obtain ⟨hc1, hm⟩ := chk hm
            obtain ⟨hc2, hm⟩ := chk hm
            refine CW.drawSel 9 rfl [] [] [] rfl (by kernel_rfl) ?_
            intro A1 w1 hB1
            refine RH.take 0 rfl (by kernel_rfl) rfl rfl rfl hB1 (Yp.move rfl rfl) ?_
            refine RH.take 1 rfl (by kernel_rfl) rfl rfl rfl hB1 (Yp.move rfl rfl) ?_
            refine RH.take 2 rfl (by kernel_rfl) rfl rfl rfl hB1 (Yp.indexSl rfl rfl rfl Try.underlying29 sz5 hc1) ?_
            refine RH.take 3 rfl (by kernel_rfl) rfl rfl rfl hB1 (Yp.loadF1 rfl rfl one5 rfl) ?_
            refine RH.take 4 rfl (by kernel_rfl) rfl rfl rfl hB1 (Yp.move rfl rfl) ?_
            refine RH.take 5 rfl (by kernel_rfl) rfl rfl rfl hB1 (Yp.move rfl rfl) ?_
            refine RH.take 6 rfl (by kernel_rfl) rfl rfl rfl hB1 (Yp.indexSl rfl rfl rfl Try.underlying29 sz5 hc2) ?_
            refine RH.take 7 rfl (by kernel_rfl) rfl rfl rfl hB1 (Yp.loadF1 rfl rfl one5 rfl) ?_
            refine RH.take 8 rfl (by kernel_rfl) rfl rfl rfl hB1 (Yp.neq rfl rfl rfl) ?_
            refine RH.done (by kernel_rfl) ?_
            refine CW.cond rfl (fun hb3 => ?_) (fun hb3 => ?_)
            ·
              have hm := ift hm hb3
              refine CW.seq ?_
              refine CW.region ?_
              refine RW.p rfl rfl rfl (Yp.assign rfl rfl) ?_
              refine RW.nil ?_
              refine CW.ret ?_
              cases hm
              have hm := hk2
              cases hm
              have hm := hk1
              cases hm
              exact fin1 (.inr rfl) rfl (ResIs.tmp rfl) (List.nil_sublist _) ⟨rfl, rfl⟩
            ·
              have hm := iff' hm hb3
              refine CW.skip ?_
              refine CW.region ?_
              refine RW.p rfl rfl rfl (Yp.add rfl rfl rfl) ?_
              refine RW.p rfl rfl rfl (Yp.move rfl rfl) ?_
              refine RW.nil ?_
              exact ⟨k1, Nat.lt_succ_self _, _, (Sub.cons rfl (Sub.cons rfl (Sub.cons rfl (Sub.cons rfl Sub.nil)))), rfl, hm⟩
          ·
            have hm := iff' hm hb2
            refine CW.exit ?_
            cases hm
            have hm := hk2
            cases hm
            exact ⟨rfl, Sub.nil, rfl⟩
    ·
      rintro E σ ⟨rfl, hsub2, rfl⟩
      have hm := hk1
      refine CW.weak ?_ hsub2
      refine CW.seq ?_
      refine CW.region ?_
      refine RW.p rfl rfl rfl (Yp.assign rfl rfl) ?_
      refine RW.nil ?_
      refine CW.ret ?_
      cases hm
      exact fin1 (.inr rfl) rfl (ResIs.tmp rfl) (List.nil_sublist _) ⟨rfl, rfl⟩

def m42_1_l1 (p0 : List (List Int)) (p1 : List (List Int)) : Nat → Int → Option (Sum Unit Bool)
  | 0, _ => none
  | k1 + 1, n3 =>
    if (decide (n3 < (p0.length : Int))) = true then
      if 0 ≤ n3 ∧ n3 < (p0.length : Int) then
      if 0 ≤ n3 ∧ n3 < (p1.length : Int) then
      (m47 (p0[Int.toNat n3]!) (p1[Int.toNat n3]!)).bind fun x1 =>
      if (!x1) = true then
        some (Sum.inr false)
      else
        m42_1_l1 p0 p1 k1 (w64 (n3 + 1))
      else none
      else none
    else
      some (Sum.inl ())
def m42_1 (p0 : List (List Int)) (p1 : List (List Int)) : Option Bool :=
  if (!decide ((p0.length : Int) = (p1.length : Int))) = true then
    some false
  else
    Option.bind (
      (m42_1_l1 p0 p1 (Int.toNat (p0.length : Int) + 1) 0).bind fun o2 =>
      match o2 with
      | .inl () =>
        some (Sum.inl ())
      | .inr r =>
        some (Sum.inr r)) fun o1 =>
    match o1 with
    | .inl () =>
      some true
    | .inr r =>
      some r

theorem m42_1_ok (p0 : List (List Int)) (p1 : List (List Int))  {r : Bool} (hm : m42_1 p0 p1 = some r) : Ab.Fn Try.prog 42 [.sl 1 (cL 1 (cN .u8)) p0, .sl 1 (cL 1 (cN .u8)) p1, .fn (.func 47) []] [] (fun a s => a = .b r ∧ s = []) := by
  rw [m42_1] at hm
  refine Ab.Fn.of Try.func42 rfl rfl rfl (fun C => ?_)
  refine CW.seq ?_
  refine CW.region ?_
  refine RW.p rfl rfl rfl (Yp.assign rfl rfl) ?_
  refine RW.nil ?_
  refine CW.seq ?_
  refine CW.seq ?_
  refine CW.region ?_
  refine RW.p rfl rfl rfl (Yp.move rfl rfl) ?_
  refine RW.p rfl rfl rfl (Yp.lenSl rfl rfl Try.underlying23) ?_
  refine RW.p rfl rfl rfl (Yp.move rfl rfl) ?_
  refine RW.p rfl rfl rfl (Yp.lenSl rfl rfl Try.underlying23) ?_
  refine RW.p rfl rfl rfl (Yp.neq rfl rfl rfl) ?_
  refine RW.nil ?_
  refine CW.cond rfl (fun hb1 => ?_) (fun hb1 => ?_)
  ·
    have hm := ift hm hb1
    refine CW.seq ?_
    refine CW.region ?_
    refine RW.p rfl rfl rfl (Yp.assign rfl rfl) ?_
    refine RW.nil ?_
    refine CW.ret ?_
    cases hm
    exact fin1 (.inr rfl) rfl (ResIs.tmp rfl) (List.nil_sublist _) ⟨rfl, rfl⟩
  ·
    have hm := iff' hm hb1
    refine CW.skip ?_
    refine CW.seq ?_
    obtain ⟨o1, hs1, hk1⟩ := bnd hm
    refine CW.cut (fun E σ => o1 = Sum.inl () ∧ Sub [] E ∧ σ = []) ?_ ?_
    ·
      have hm := hs1
      refine CW.seq ?_
      refine CW.region ?_
      refine RW.p rfl rfl rfl (Yp.move rfl rfl) ?_
      refine RW.p rfl rfl rfl (Yp.lenSl rfl rfl Try.underlying23) ?_
      refine RW.p rfl rfl rfl (Yp.move rfl rfl) ?_
      refine RW.nil ?_
      refine CW.block ?_
      obtain ⟨o2, hs2, hk2⟩ := bnd hm
      refine CW.lp (fun k1 E σ => ∃ n3 : Int, Sub [(1, .sl 1 (cL 1 (cN .u8)) p1), (2, .fn (.func 47) []), (15, .sl 1 (cL 1 (cN .u8)) p0), (16, .i (p0.length : Int)), (17, .i n3)] E ∧ σ = [] ∧ m42_1_l1 p0 p1 k1 n3 = some o2) (Int.toNat (p0.length : Int) + 1) ?_ ?_
      · exact ⟨0, (Sub.cons rfl (Sub.cons rfl (Sub.cons rfl (Sub.cons rfl (Sub.cons rfl Sub.nil))))), rfl, hs2⟩
      ·
        rintro k1 E σ ⟨n3, hsub1, rfl, hm⟩
        refine CW.weak ?_ hsub1
        cases k1 with
        | zero => cases hm
        | succ k1 =>
          rw [m42_1_l1] at hm
          refine CW.seq ?_
          refine CW.region ?_
          refine RW.p rfl rfl rfl (Yp.lss rfl rfl rfl) ?_
          refine RW.nil ?_
          refine CW.seq ?_
          refine CW.cond rfl (fun hb2 => ?_) (fun hb2 => ?_)
          ·
            have hm := ift hm hb2
            refine CW.skip ?_
            refine CW.seq ?_
            refine CW.block ?_
            refine CW.seq ?_
            refine CW.region ?_
            refine RW.p rfl rfl rfl (Yp.move rfl rfl) ?_
            obtain ⟨hc1, hm⟩ := chk hm
            refine RW.p rfl rfl rfl (Yp.indexSl rfl rfl rfl Try.underlying23 sz29 hc1) ?_
            refine RW.p rfl rfl rfl (Yp.loadF1 rfl rfl one29 rfl) ?_
            refine RW.p rfl rfl rfl (Yp.assign rfl rfl) ?_
            refine RW.p rfl rfl rfl (Yp.assign rfl rfl) ?_
            refine RW.nil ?_
            refine CW.seq ?_
            refine CW.region ?_
            refine RW.p rfl rfl rfl (Yp.move rfl rfl) ?_
            refine RW.p rfl rfl rfl (Yp.move rfl rfl) ?_
            obtain ⟨hc2, hm⟩ := chk hm
            refine RW.p rfl rfl rfl (Yp.indexSl rfl rfl rfl Try.underlying23 sz29 hc2) ?_
            refine RW.p rfl rfl rfl (Yp.loadF1 rfl rfl one29 rfl) ?_
            refine RW.p rfl rfl rfl (Yp.assign rfl rfl) ?_
            refine RW.nil ?_
            refine CW.seq ?_
            refine CW.region ?_
            refine RW.p rfl rfl rfl (Yp.move rfl rfl) ?_
            refine RW.p rfl rfl rfl (Yp.move rfl rfl) ?_
            refine RW.p rfl rfl rfl (Yp.move rfl rfl) ?_
            obtain ⟨x1, hx1, hm⟩ := bnd hm
            refine RW.c rfl rfl rfl (Yc.fnV (σp := []) (args' := [.sl 1 (cN .u8) (p0[Int.toNat n3]!), .sl 1 (cN .u8) (p1[Int.toNat n3]!)]) rfl rfl ok47 rfl rfl rfl (VwL.id _) (m47_ok (p0[Int.toNat n3]!) (p1[Int.toNat n3]!) hx1)) ?_
            rintro _ _ ⟨_, ⟨rfl, rfl⟩, rfl⟩
            refine RW.p rfl rfl rfl (Yp.not rfl rfl) ?_
            refine RW.nil ?_
            refine CW.cond rfl (fun hb3 => ?_) (fun hb3 => ?_)
            ·
              have hm := ift hm hb3
              refine CW.seq ?_
              refine CW.region ?_
              refine RW.p rfl rfl rfl (Yp.assign rfl rfl) ?_
              refine RW.nil ?_
              refine CW.ret ?_
              cases hm
              have hm := hk2
              cases hm
              have hm := hk1
              cases hm
              exact fin1 (.inr rfl) rfl (ResIs.tmp rfl) (List.nil_sublist _) ⟨rfl, rfl⟩
            ·
              have hm := iff' hm hb3
              refine CW.skip ?_
              refine CW.region ?_
              refine RW.p rfl rfl rfl (Yp.add rfl rfl rfl) ?_
              refine RW.p rfl rfl rfl (Yp.move rfl rfl) ?_
              refine RW.nil ?_
              exact ⟨k1, Nat.lt_succ_self _, _, (Sub.cons rfl (Sub.cons rfl (Sub.cons rfl (Sub.cons rfl (Sub.cons rfl Sub.nil))))), rfl, hm⟩
          ·
            have hm := iff' hm hb2
            refine CW.exit ?_
            cases hm
            have hm := hk2
            cases hm
            exact ⟨rfl, Sub.nil, rfl⟩
    ·
      rintro E σ ⟨rfl, hsub2, rfl⟩
      have hm := hk1
      refine CW.weak ?_ hsub2
      refine CW.seq ?_
      refine CW.region ?_
      refine RW.p rfl rfl rfl (Yp.assign rfl rfl) ?_
      refine RW.nil ?_
      refine CW.ret ?_
      cases hm
      exact fin1 (.inr rfl) rfl (ResIs.tmp rfl) (List.nil_sublist _) ⟨rfl, rfl⟩

def m46 (p0 : Write) (p1 : Write) : Option Bool :=
  Option.bind (
    if (decide (p0.fAt = p1.fAt)) = true then
      (m47 p0.fData p1.fData).bind fun x1 =>
      some x1
    else
      some false) fun c1 =>
  some c1

theorem m46_ok (p0 : Write) (p1 : Write)  {r : Bool} (hm : m46 p0 p1 = some r) : Ab.Fn Try.prog 46 [.agg [.i p0.fAt, .sl 1 (cN .u8) p0.fData], .agg [.i p1.fAt, .sl 1 (cN .u8) p1.fData]] [] (fun a s => a = .b r ∧ s = []) := by
  rw [m46] at hm
  refine Ab.Fn.of Try.func46 rfl rfl rfl (fun C => ?_)
  refine CW.seq ?_
  refine CW.region ?_
  refine RW.v rfl rfl rfl (Yv.box rfl rfl (Pw.p rfl)) ?_
  rintro _ _ ⟨b1, rfl, rfl⟩
  refine RW.v rfl rfl rfl (Yv.box rfl rfl (Pw.p rfl)) ?_
  rintro _ _ ⟨b2, rfl, rfl⟩
  refine RW.p rfl rfl rfl (Yp.assign rfl rfl) ?_
  refine RW.nil ?_
  refine CW.seq ?_
  obtain ⟨c1, hs1, hk1⟩ := bnd hm
  refine CW.cut (fun E σ => Sub [(4, .b c1)] E ∧ σ = []) ?_ ?_
  ·
    have hm := hs1
    refine CW.region ?_
    refine RW.p rfl rfl rfl (Yp.fieldP rfl rfl Try.underlying56 rfl sz3) ?_
    refine RW.p rfl rfl rfl (Yp.loadB1 1 rfl rfl rfl one3 rfl) ?_
    refine RW.p rfl rfl rfl (Yp.fieldP rfl rfl Try.underlying56 rfl sz3) ?_
    refine RW.p rfl rfl rfl (Yp.loadB1 0 rfl rfl rfl one3 rfl) ?_
    refine RW.p rfl rfl rfl (Yp.eql rfl rfl rfl) ?_
    refine RW.p rfl rfl rfl (Yp.move rfl rfl) ?_
    rcases Bool.eq_false_or_eq_true (decide (p0.fAt = p1.fAt)) with hb1 | hb1
    ·
      have hm := ift hm hb1
      refine RW.eqv 10 rfl (congrArg AV.b hb1) ?_
      refine RW.p rfl rfl rfl (Yp.fieldP rfl rfl Try.underlying56 rfl sz29) ?_
      refine RW.p rfl rfl rfl (Yp.loadB1 1 rfl rfl rfl one29 rfl) ?_
      refine RW.p rfl rfl rfl (Yp.fieldP rfl rfl Try.underlying56 rfl sz29) ?_
      refine RW.p rfl rfl rfl (Yp.loadB1 0 rfl rfl rfl one29 rfl) ?_
      obtain ⟨x1, hx1, hm⟩ := bnd hm
      refine RW.c rfl rfl rfl (Yc.fnV (σp := []) (args' := [.sl 1 (cN .u8) p0.fData, .sl 1 (cN .u8) p1.fData]) rfl rfl ok47 rfl rfl rfl (VwL.id _) (m47_ok p0.fData p1.fData hx1)) ?_
      rintro _ _ ⟨_, ⟨rfl, rfl⟩, rfl⟩
      refine RW.p rfl rfl rfl (Yp.pickT rfl rfl rfl) ?_
      refine RW.p rfl rfl rfl (Yp.assign rfl rfl) ?_
      refine RW.sel [] rfl ?_
      refine RW.nil ?_
      cases hm
      exact ⟨(Sub.cons rfl Sub.nil), rfl⟩
    ·
      have hm := iff' hm hb1
      refine RW.eqv 10 rfl (congrArg AV.b hb1) ?_
      refine RW.skip rfl rfl rfl ?_
      refine RW.skip rfl rfl rfl ?_
      refine RW.skip rfl rfl rfl ?_
      refine RW.skip rfl rfl rfl ?_
      refine RW.skip rfl rfl rfl ?_
      refine RW.p rfl rfl rfl (Yp.pickF rfl rfl rfl) ?_
      refine RW.p rfl rfl rfl (Yp.assign rfl rfl) ?_
      refine RW.sel [] rfl ?_
      refine RW.nil ?_
      cases hm
      exact ⟨(Sub.cons rfl Sub.nil), rfl⟩
  ·
    rintro E σ ⟨hsub1, rfl⟩
    have hm := hk1
    refine CW.weak ?_ hsub1
    refine CW.ret ?_
    cases hm
    exact fin1 (.inr rfl) rfl (ResIs.tmp rfl) (List.nil_sublist _) ⟨rfl, rfl⟩

def m43_1_l1 (p0 : List Write) (p1 : List Write) : Nat → Int → Option (Sum Unit Bool)
  | 0, _ => none
  | k1 + 1, n3 =>
    if (decide (n3 < (p0.length : Int))) = true then
      if 0 ≤ n3 ∧ n3 < (p0.length : Int) then
      if 0 ≤ n3 ∧ n3 < (p1.length : Int) then
      (m46 (p0[Int.toNat n3]!) (p1[Int.toNat n3]!)).bind fun x1 =>
      if (!x1) = true then
        some (Sum.inr false)
      else
        m43_1_l1 p0 p1 k1 (w64 (n3 + 1))
      else none
      else none
    else
      some (Sum.inl ())
def m43_1 (p0 : List Write) (p1 : List Write) : Option Bool :=
  if (!decide ((p0.length : Int) = (p1.length : Int))) = true then
    some false
  else
    Option.bind (
      (m43_1_l1 p0 p1 (Int.toNat (p0.length : Int) + 1) 0).bind fun o2 =>
      match o2 with
      | .inl () =>
        some (Sum.inl ())
      | .inr r =>
        some (Sum.inr r)) fun o1 =>
    match o1 with
    | .inl () =>
      some true
    | .inr r =>
      some r

theorem m43_1_ok (p0 : List Write) (p1 : List Write)  {r : Bool} (hm : m43_1 p0 p1 = some r) : Ab.Fn Try.prog 43 [.sl 2 Write.cells p0, .sl 2 Write.cells p1, .fn (.func 46) []] [] (fun a s => a = .b r ∧ s = []) := by
  rw [m43_1] at hm
  refine Ab.Fn.of Try.func43 rfl rfl rfl (fun C => ?_)
  refine CW.seq ?_
  refine CW.region ?_
  refine RW.p rfl rfl rfl (Yp.assign rfl rfl) ?_
  refine RW.nil ?_
  refine CW.seq ?_
  refine CW.seq ?_
  refine CW.region ?_
  refine RW.p rfl rfl rfl (Yp.move rfl rfl) ?_
  refine RW.p rfl rfl rfl (Yp.lenSl rfl rfl Try.underlying24) ?_
  refine RW.p rfl rfl rfl (Yp.move rfl rfl) ?_
  refine RW.p rfl rfl rfl (Yp.lenSl rfl rfl Try.underlying24) ?_
  refine RW.p rfl rfl rfl (Yp.neq rfl rfl rfl) ?_
  refine RW.nil ?_
  refine CW.cond rfl (fun hb1 => ?_) (fun hb1 => ?_)
  ·
    have hm := ift hm hb1
    refine CW.seq ?_
    refine CW.region ?_
    refine RW.p rfl rfl rfl (Yp.assign rfl rfl) ?_
    refine RW.nil ?_
    refine CW.ret ?_
    cases hm
    exact fin1 (.inr rfl) rfl (ResIs.tmp rfl) (List.nil_sublist _) ⟨rfl, rfl⟩
  ·
    have hm := iff' hm hb1
    refine CW.skip ?_
    refine CW.seq ?_
    obtain ⟨o1, hs1, hk1⟩ := bnd hm
    refine CW.cut (fun E σ => o1 = Sum.inl () ∧ Sub [] E ∧ σ = []) ?_ ?_
    ·
      have hm := hs1
      refine CW.seq ?_
      refine CW.region ?_
      refine RW.p rfl rfl rfl (Yp.move rfl rfl) ?_
      refine RW.p rfl rfl rfl (Yp.lenSl rfl rfl Try.underlying24) ?_
      refine RW.p rfl rfl rfl (Yp.move rfl rfl) ?_
      refine RW.nil ?_
      refine CW.block ?_
      obtain ⟨o2, hs2, hk2⟩ := bnd hm
      refine CW.lp (fun k1 E σ => ∃ n3 : Int, Sub [(1, .sl 2 Write.cells p1), (2, .fn (.func 46) []), (15, .sl 2 Write.cells p0), (16, .i (p0.length : Int)), (17, .i n3)] E ∧ σ = [] ∧ m43_1_l1 p0 p1 k1 n3 = some o2) (Int.toNat (p0.length : Int) + 1) ?_ ?_
      · exact ⟨0, (Sub.cons rfl (Sub.cons rfl (Sub.cons rfl (Sub.cons rfl (Sub.cons rfl Sub.nil))))), rfl, hs2⟩
      ·
        rintro k1 E σ ⟨n3, hsub1, rfl, hm⟩
        refine CW.weak ?_ hsub1
        cases k1 with
        | zero => cases hm
        | succ k1 =>
          rw [m43_1_l1] at hm
          refine CW.seq ?_
          refine CW.region ?_
          refine RW.p rfl rfl rfl (Yp.lss rfl rfl rfl) ?_
          refine RW.nil ?_
          refine CW.seq ?_
          refine CW.cond rfl (fun hb2 => ?_) (fun hb2 => ?_)
          ·
            have hm := ift hm hb2
            refine CW.skip ?_
            refine CW.seq ?_
            refine CW.block ?_
            refine CW.seq ?_
            refine CW.region ?_
            refine RW.p rfl rfl rfl (Yp.move rfl rfl) ?_
            obtain ⟨hc1, hm⟩ := chk hm
            refine RW.p rfl rfl rfl (Yp.indexSl rfl rfl rfl Try.underlying24 sz56 hc1) ?_
            refine RW.p rfl rfl rfl (Yp.loadFN rfl rfl many56 (Nat.le_of_ble_eq_true rfl)) ?_
            refine RW.v rfl rfl rfl (Yv.alloc rfl zerb56) ?_
            rintro _ _ ⟨b1, rfl, rfl⟩
            refine RW.p rfl rfl rfl (Yp.assign rfl rfl) ?_
            refine RW.u rfl rfl (Yu.storeB 0 rfl rfl rfl rfl sz56 (Pw.p rfl) rfl (Nat.le_of_ble_eq_true rfl)) ?_
            refine RW.nil ?_
            refine CW.seq ?_
            refine CW.region ?_
            refine RW.p rfl rfl rfl (Yp.move rfl rfl) ?_
            refine RW.p rfl rfl rfl (Yp.move rfl rfl) ?_
            obtain ⟨hc2, hm⟩ := chk hm
            refine RW.p rfl rfl rfl (Yp.indexSl rfl rfl rfl Try.underlying24 sz56 hc2) ?_
            refine RW.p rfl rfl rfl (Yp.loadFN rfl rfl many56 (Nat.le_of_ble_eq_true rfl)) ?_
            refine RW.v rfl rfl rfl (Yv.alloc rfl zerb56) ?_
            rintro _ _ ⟨b2, rfl, rfl⟩
            refine RW.u rfl rfl (Yu.storeB 0 rfl rfl rfl rfl sz56 (Pw.p rfl) rfl (Nat.le_of_ble_eq_true rfl)) ?_
            refine RW.nil ?_
            refine CW.seq ?_
            refine CW.region ?_
            refine RW.p rfl rfl rfl (Yp.move rfl rfl) ?_
            refine RW.p rfl rfl rfl (Yp.loadBN 1 rfl rfl rfl many56 (Nat.le_of_ble_eq_true rfl)) ?_
            refine RW.p rfl rfl rfl (Yp.loadBN 0 rfl rfl rfl many56 (Nat.le_of_ble_eq_true rfl)) ?_
            obtain ⟨x1, hx1, hm⟩ := bnd hm
            refine RW.c rfl rfl rfl (Yc.fnV (σp := []) (args' := [.agg [.i ((p0[Int.toNat n3]!).fAt), .sl 1 (cN .u8) ((p0[Int.toNat n3]!).fData)], .agg [.i ((p1[Int.toNat n3]!).fAt), .sl 1 (cN .u8) ((p1[Int.toNat n3]!).fData)]]) rfl rfl ok46 rfl rfl rfl (VwL.id _) (m46_ok (p0[Int.toNat n3]!) (p1[Int.toNat n3]!) hx1)) ?_
            rintro _ _ ⟨_, ⟨rfl, rfl⟩, rfl⟩
            refine RW.p rfl rfl rfl (Yp.not rfl rfl) ?_
            refine RW.nil ?_
            refine CW.cond rfl (fun hb3 => ?_) (fun hb3 => ?_)
            ·
              have hm := ift hm hb3
              refine CW.seq ?_
              refine CW.region ?_
              refine RW.p rfl rfl rfl (Yp.assign rfl rfl) ?_
              refine RW.nil ?_
              refine CW.ret ?_
              cases hm
              have hm := hk2
              cases hm
              have hm := hk1
              cases hm
              exact fin1 (.inr rfl) rfl (ResIs.tmp rfl) (List.nil_sublist _) ⟨rfl, rfl⟩
            ·
              have hm := iff' hm hb3
              refine CW.skip ?_
              refine CW.region ?_
              refine RW.p rfl rfl rfl (Yp.add rfl rfl rfl) ?_
              refine RW.p rfl rfl rfl (Yp.move rfl rfl) ?_
              refine RW.sel [] rfl ?_
              refine RW.nil ?_
              exact ⟨k1, Nat.lt_succ_self _, _, (Sub.cons rfl (Sub.cons rfl (Sub.cons rfl (Sub.cons rfl (Sub.cons rfl Sub.nil))))), rfl, hm⟩
          ·
            have hm := iff' hm hb2
            refine CW.exit ?_
            cases hm
            have hm := hk2
            cases hm
            exact ⟨rfl, Sub.nil, rfl⟩
    ·
      rintro E σ ⟨rfl, hsub2, rfl⟩
      have hm := hk1
      refine CW.weak ?_ hsub2
      refine CW.seq ?_
      refine CW.region ?_
      refine RW.p rfl rfl rfl (Yp.assign rfl rfl) ?_
      refine RW.nil ?_
      refine CW.ret ?_
      cases hm
      exact fin1 (.inr rfl) rfl (ResIs.tmp rfl) (List.nil_sublist _) ⟨rfl, rfl⟩

def m29 (p0 : Disk) (p1 : Disk) : Option Bool :=
  Option.bind (
    if (decide (p0.fLeft = p1.fLeft)) = true then
      if (p0.fDown == p1.fDown) = true then
        (m42_1 p0.fDurable p1.fDurable).bind fun x1 =>
        if x1 = true then
          (m43_1 p0.fPending p1.fPending).bind fun x2 =>
          some x2
        else
          some false
      else
        some false
    else
      some false) fun c1 =>
  some c1

theorem m29_ok (p0 : Disk) (p1 : Disk)  {r : Bool} (hm : m29 p0 p1 = some r) : Ab.Fn Try.prog 29 [.agg [.sl 1 (cL 1 (cN .u8)) p0.fDurable, .sl 2 Write.cells p0.fPending, .i p0.fLeft, .b p0.fDown], .agg [.sl 1 (cL 1 (cN .u8)) p1.fDurable, .sl 2 Write.cells p1.fPending, .i p1.fLeft, .b p1.fDown]] [] (fun a s => a = .b r ∧ s = []) := by
  rw [m29] at hm
  refine Ab.Fn.of Try.func29 rfl rfl rfl (fun C => ?_)
  refine CW.seq ?_
  refine CW.region ?_
  refine RW.v rfl rfl rfl (Yv.box rfl rfl (Pw.p rfl)) ?_
  rintro _ _ ⟨b1, rfl, rfl⟩
  refine RW.v rfl rfl rfl (Yv.box rfl rfl (Pw.p rfl)) ?_
  rintro _ _ ⟨b2, rfl, rfl⟩
  refine RW.p rfl rfl rfl (Yp.assign rfl rfl) ?_
  refine RW.nil ?_
  refine CW.seq ?_
  refine CW.region ?_
  refine RW.p rfl rfl rfl (Yp.assign rfl rfl) ?_
  refine RW.nil ?_
  refine CW.seq ?_
  obtain ⟨c1, hs1, hk1⟩ := bnd hm
  refine CW.cut (fun E σ => Sub [(4, .b c1)] E ∧ σ = []) ?_ ?_
  ·
    have hm := hs1
    refine CW.region ?_
    refine RW.p rfl rfl rfl (Yp.fieldP rfl rfl Try.underlying26 rfl sz3) ?_
    refine RW.p rfl rfl rfl (Yp.loadB1 1 rfl rfl rfl one3 rfl) ?_
    refine RW.p rfl rfl rfl (Yp.fieldP rfl rfl Try.underlying26 rfl sz3) ?_
    refine RW.p rfl rfl rfl (Yp.loadB1 0 rfl rfl rfl one3 rfl) ?_
    refine RW.p rfl rfl rfl (Yp.eql rfl rfl rfl) ?_
    refine RW.p rfl rfl rfl (Yp.move rfl rfl) ?_
    rcases Bool.eq_false_or_eq_true (decide (p0.fLeft = p1.fLeft)) with hb1 | hb1
    ·
      have hm := ift hm hb1
      refine RW.eqv 11 rfl (congrArg AV.b hb1) ?_
      refine RW.p rfl rfl rfl (Yp.fieldP rfl rfl Try.underlying26 rfl sz4) ?_
      refine RW.p rfl rfl rfl (Yp.loadB1 1 rfl rfl rfl one4 rfl) ?_
      refine RW.p rfl rfl rfl (Yp.fieldP rfl rfl Try.underlying26 rfl sz4) ?_
      refine RW.p rfl rfl rfl (Yp.loadB1 0 rfl rfl rfl one4 rfl) ?_
      refine RW.p rfl rfl rfl (Yp.beql rfl Try.underlying4 rfl rfl) ?_
      refine RW.p rfl rfl rfl (Yp.pickT rfl rfl rfl) ?_
      refine RW.p rfl rfl rfl (Yp.move rfl rfl) ?_
      rcases Bool.eq_false_or_eq_true (p0.fDown == p1.fDown) with hb2 | hb2
      ·
        have hm := ift hm hb2
        refine RW.eqv 18 rfl (congrArg AV.b hb2) ?_
        refine RW.p rfl rfl rfl (Yp.fieldP rfl rfl Try.underlying26 rfl sz23) ?_
        refine RW.p rfl rfl rfl (Yp.loadB1 1 rfl rfl rfl one23 rfl) ?_
        refine RW.p rfl rfl rfl (Yp.fieldP rfl rfl Try.underlying26 rfl sz23) ?_
        refine RW.p rfl rfl rfl (Yp.loadB1 0 rfl rfl rfl one23 rfl) ?_
        obtain ⟨x1, hx1, hm⟩ := bnd hm
        refine RW.c rfl rfl rfl (Yc.fnV (σp := []) (args' := [.sl 1 (cL 1 (cN .u8)) p0.fDurable, .sl 1 (cL 1 (cN .u8)) p1.fDurable, .fn (.func 47) []]) rfl rfl ok42 rfl rfl rfl (VwL.id _) (m42_1_ok p0.fDurable p1.fDurable hx1)) ?_
        rintro _ _ ⟨_, ⟨rfl, rfl⟩, rfl⟩
        refine RW.p rfl rfl rfl (Yp.pickT rfl rfl rfl) ?_
        refine RW.p rfl rfl rfl (Yp.move rfl rfl) ?_
        rcases Bool.eq_false_or_eq_true x1 with hb3 | hb3
        ·
          have hm := ift hm hb3
          refine RW.eqv 25 rfl (congrArg AV.b hb3) ?_
          refine RW.p rfl rfl rfl (Yp.fieldP rfl rfl Try.underlying26 rfl sz24) ?_
          refine RW.p rfl rfl rfl (Yp.loadB1 1 rfl rfl rfl one24 rfl) ?_
          refine RW.p rfl rfl rfl (Yp.fieldP rfl rfl Try.underlying26 rfl sz24) ?_
          refine RW.p rfl rfl rfl (Yp.loadB1 0 rfl rfl rfl one24 rfl) ?_
          refine RW.p rfl rfl rfl (Yp.move rfl rfl) ?_
          obtain ⟨x2, hx2, hm⟩ := bnd hm
          refine RW.c rfl rfl rfl (Yc.fnV (σp := []) (args' := [.sl 2 Write.cells p0.fPending, .sl 2 Write.cells p1.fPending, .fn (.func 46) []]) rfl rfl ok43 rfl rfl rfl (VwL.id _) (m43_1_ok p0.fPending p1.fPending hx2)) ?_
          rintro _ _ ⟨_, ⟨rfl, rfl⟩, rfl⟩
          refine RW.p rfl rfl rfl (Yp.pickT rfl rfl rfl) ?_
          refine RW.p rfl rfl rfl (Yp.assign rfl rfl) ?_
          refine RW.sel [] rfl ?_
          refine RW.nil ?_
          cases hm
          exact ⟨(Sub.cons rfl Sub.nil), rfl⟩
        ·
          have hm := iff' hm hb3
          refine RW.eqv 25 rfl (congrArg AV.b hb3) ?_
          refine RW.skip rfl rfl rfl ?_
          refine RW.skip rfl rfl rfl ?_
          refine RW.skip rfl rfl rfl ?_
          refine RW.skip rfl rfl rfl ?_
          refine RW.skip rfl rfl rfl ?_
          refine RW.skip rfl rfl rfl ?_
          refine RW.p rfl rfl rfl (Yp.pickF rfl rfl rfl) ?_
          refine RW.p rfl rfl rfl (Yp.assign rfl rfl) ?_
          refine RW.sel [] rfl ?_
          refine RW.nil ?_
          cases hm
          exact ⟨(Sub.cons rfl Sub.nil), rfl⟩
      ·
        have hm := iff' hm hb2
        refine RW.eqv 18 rfl (congrArg AV.b hb2) ?_
        refine RW.skip rfl rfl rfl ?_
        refine RW.skip rfl rfl rfl ?_
        refine RW.skip rfl rfl rfl ?_
        refine RW.skip rfl rfl rfl ?_
        refine RW.skip rfl rfl rfl ?_
        refine RW.p rfl rfl rfl (Yp.pickF rfl rfl rfl) ?_
        refine RW.p rfl rfl rfl (Yp.move rfl rfl) ?_
        refine RW.skip rfl rfl rfl ?_
        refine RW.skip rfl rfl rfl ?_
        refine RW.skip rfl rfl rfl ?_
        refine RW.skip rfl rfl rfl ?_
        refine RW.skip rfl rfl rfl ?_
        refine RW.skip rfl rfl rfl ?_
        refine RW.p rfl rfl rfl (Yp.pickF rfl rfl rfl) ?_
        refine RW.p rfl rfl rfl (Yp.assign rfl rfl) ?_
        refine RW.sel [] rfl ?_
        refine RW.nil ?_
        cases hm
        exact ⟨(Sub.cons rfl Sub.nil), rfl⟩
    ·
      have hm := iff' hm hb1
      refine RW.eqv 11 rfl (congrArg AV.b hb1) ?_
      refine RW.skip rfl rfl rfl ?_
      refine RW.skip rfl rfl rfl ?_
      refine RW.skip rfl rfl rfl ?_
      refine RW.skip rfl rfl rfl ?_
      refine RW.skip rfl rfl rfl ?_
      refine RW.p rfl rfl rfl (Yp.pickF rfl rfl rfl) ?_
      refine RW.p rfl rfl rfl (Yp.move rfl rfl) ?_
      refine RW.skip rfl rfl rfl ?_
      refine RW.skip rfl rfl rfl ?_
      refine RW.skip rfl rfl rfl ?_
      refine RW.skip rfl rfl rfl ?_
      refine RW.skip rfl rfl rfl ?_
      refine RW.p rfl rfl rfl (Yp.pickF rfl rfl rfl) ?_
      refine RW.p rfl rfl rfl (Yp.move rfl rfl) ?_
      refine RW.skip rfl rfl rfl ?_
      refine RW.skip rfl rfl rfl ?_
      refine RW.skip rfl rfl rfl ?_
      refine RW.skip rfl rfl rfl ?_
      refine RW.skip rfl rfl rfl ?_
      refine RW.skip rfl rfl rfl ?_
      refine RW.p rfl rfl rfl (Yp.pickF rfl rfl rfl) ?_
      refine RW.p rfl rfl rfl (Yp.assign rfl rfl) ?_
      refine RW.sel [] rfl ?_
      refine RW.nil ?_
      cases hm
      exact ⟨(Sub.cons rfl Sub.nil), rfl⟩
  ·
    rintro E σ ⟨hsub1, rfl⟩
    have hm := hk1
    refine CW.weak ?_ hsub1
    refine CW.ret ?_
    cases hm
    exact fin1 (.inr rfl) rfl (ResIs.tmp rfl) (List.nil_sublist _) ⟨rfl, rfl⟩

def m9 (p0 : Disk) (p1 : Disk) : Option Bool :=
  (m11).bind fun x1 =>
  if (!x1) = true then
    some false
  else
    Option.bind (
      (m16 (Disk.mk p0.fDurable p0.fPending p0.fLeft p0.fDown)).bind fun x2 =>
      if (!x2) = true then
        some true
      else
        (m16 (Disk.mk p1.fDurable p1.fPending p1.fLeft p1.fDown)).bind fun x3 =>
        some (!x3)) fun c1 =>
    if c1 = true then
      some true
    else
      Option.bind (
        (m13 (Disk.mk p0.fDurable p0.fPending p0.fLeft p0.fDown)).bind fun x4 =>
        (m25 (Disk.mk p0.fDurable p0.fPending p0.fLeft p0.fDown)).bind fun x5 =>
        if (x4 == x5) = true then
          (m29 (Disk.mk p0.fDurable p0.fPending p0.fLeft p0.fDown) (Disk.mk p1.fDurable p1.fPending p1.fLeft p1.fDown)).bind fun x6 =>
          (m21 (Disk.mk p0.fDurable p0.fPending p0.fLeft p0.fDown) (Disk.mk p1.fDurable p1.fPending p1.fLeft p1.fDown)).bind fun x7 =>
          if (x6 == x7) = true then
            (m30 (Disk.mk p0.fDurable p0.fPending p0.fLeft p0.fDown)).bind fun x8 =>
            (m29 (Disk.mk p0.fDurable p0.fPending p0.fLeft p0.fDown) x8).bind fun x9 =>
            some x9
          else
            some false
        else
          some false) fun c2 =>
      some c2

theorem m9_ok (p0 : Disk) (p1 : Disk)  {r : Bool} (hm : m9 p0 p1 = some r) : Ab.Fn Try.prog 9 [.agg [.sl 1 (cL 1 (cN .u8)) p0.fDurable, .sl 2 Write.cells p0.fPending, .i p0.fLeft, .b p0.fDown], .agg [.sl 1 (cL 1 (cN .u8)) p1.fDurable, .sl 2 Write.cells p1.fPending, .i p1.fLeft, .b p1.fDown]] [] (fun a s => a = .b r ∧ s = []) := by
  rw [m9] at hm
  refine Ab.Fn.of Try.func9 rfl rfl rfl (fun C => ?_)
  refine CW.seq ?_
  refine CW.region ?_
  refine RW.v rfl rfl rfl (Yv.box rfl rfl (Pw.p rfl)) ?_
  rintro _ _ ⟨b1, rfl, rfl⟩
  refine RW.v rfl rfl rfl (Yv.box rfl rfl (Pw.p rfl)) ?_
  rintro _ _ ⟨b2, rfl, rfl⟩
  refine RW.p rfl rfl rfl (Yp.assign rfl rfl) ?_
  refine RW.nil ?_
  refine CW.seq ?_
  refine CW.seq ?_
  refine CW.region ?_
  obtain ⟨x1, hx1, hm⟩ := bnd hm
  refine RW.c rfl rfl rfl (Yc.fnV (σp := []) (args' := []) rfl rfl ok11 rfl rfl rfl (VwL.id _) (m11_ok  hx1)) ?_
  rintro _ _ ⟨_, ⟨rfl, rfl⟩, rfl⟩
  refine RW.p rfl rfl rfl (Yp.not rfl rfl) ?_
  refine RW.nil ?_
  refine CW.cond rfl (fun hb1 => ?_) (fun hb1 => ?_)
  ·
    have hm := ift hm hb1
    refine CW.seq ?_
    refine CW.region ?_
    refine RW.p rfl rfl rfl (Yp.assign rfl rfl) ?_
    refine RW.nil ?_
    refine CW.ret ?_
    cases hm
    exact fin1 (.inr rfl) rfl (ResIs.tmp rfl) (List.nil_sublist _) ⟨rfl, rfl⟩
  ·
    have hm := iff' hm hb1
    refine CW.skip ?_
    refine CW.seq ?_
    refine CW.seq ?_
    obtain ⟨c1, hs1, hk1⟩ := bnd hm
    refine CW.cut (fun E σ => Sub [(2, .lit (.pointer (some ⟨b1, 0, none⟩))), (3, .lit (.pointer (some ⟨b2, 0, none⟩))), (14, .b c1)] E ∧ σ = [.box b1 26 [.sl 1 (cL 1 (cN .u8)) p0.fDurable, .sl 2 Write.cells p0.fPending, .i p0.fLeft, .b p0.fDown], .box b2 26 [.sl 1 (cL 1 (cN .u8)) p1.fDurable, .sl 2 Write.cells p1.fPending, .i p1.fLeft, .b p1.fDown]]) ?_ ?_
    ·
      have hm := hs1
      refine CW.region ?_
      refine RW.p rfl rfl rfl (Yp.loadBN 1 rfl rfl rfl many26 (Nat.le_of_ble_eq_true rfl)) ?_
      obtain ⟨x2, hx2, hm⟩ := bnd hm
      refine RW.c rfl rfl rfl (Yc.fnV (σp := []) (args' := [.agg [.sl 1 (cL 1 (cN .u8)) ((Disk.mk p0.fDurable p0.fPending p0.fLeft p0.fDown).fDurable), .sl 2 Write.cells ((Disk.mk p0.fDurable p0.fPending p0.fLeft p0.fDown).fPending), .i ((Disk.mk p0.fDurable p0.fPending p0.fLeft p0.fDown).fLeft), .b ((Disk.mk p0.fDurable p0.fPending p0.fLeft p0.fDown).fDown)]]) rfl rfl ok16 rfl rfl rfl (VwL.id _) (m16_ok (Disk.mk p0.fDurable p0.fPending p0.fLeft p0.fDown) hx2)) ?_
      rintro _ _ ⟨_, ⟨rfl, rfl⟩, rfl⟩
      refine RW.p rfl rfl rfl (Yp.not rfl rfl) ?_
      refine RW.p rfl rfl rfl (Yp.move rfl rfl) ?_
      rcases Bool.eq_false_or_eq_true (!x2) with hb2 | hb2
      ·
        have hm := ift hm hb2
        refine RW.eqv 10 rfl (congrArg AV.b hb2) ?_
        refine RW.skip rfl rfl rfl ?_
        refine RW.skip rfl rfl rfl ?_
        refine RW.skip rfl rfl rfl ?_
        refine RW.p rfl rfl rfl (Yp.pickT rfl rfl rfl) ?_
        refine RW.sel [1, 0] rfl ?_
        refine RW.nil ?_
        cases hm
        exact ⟨(Sub.cons rfl (Sub.cons rfl (Sub.cons rfl Sub.nil))), rfl⟩
      ·
        have hm := iff' hm hb2
        refine RW.eqv 10 rfl (congrArg AV.b hb2) ?_
        refine RW.p rfl rfl rfl (Yp.loadBN 0 rfl rfl rfl many26 (Nat.le_of_ble_eq_true rfl)) ?_
        obtain ⟨x3, hx3, hm⟩ := bnd hm
        refine RW.c rfl rfl rfl (Yc.fnV (σp := []) (args' := [.agg [.sl 1 (cL 1 (cN .u8)) ((Disk.mk p1.fDurable p1.fPending p1.fLeft p1.fDown).fDurable), .sl 2 Write.cells ((Disk.mk p1.fDurable p1.fPending p1.fLeft p1.fDown).fPending), .i ((Disk.mk p1.fDurable p1.fPending p1.fLeft p1.fDown).fLeft), .b ((Disk.mk p1.fDurable p1.fPending p1.fLeft p1.fDown).fDown)]]) rfl rfl ok16 rfl rfl rfl (VwL.id _) (m16_ok (Disk.mk p1.fDurable p1.fPending p1.fLeft p1.fDown) hx3)) ?_
        rintro _ _ ⟨_, ⟨rfl, rfl⟩, rfl⟩
        refine RW.p rfl rfl rfl (Yp.not rfl rfl) ?_
        refine RW.p rfl rfl rfl (Yp.pickF rfl rfl rfl) ?_
        refine RW.sel [1, 0] rfl ?_
        refine RW.nil ?_
        cases hm
        exact ⟨(Sub.cons rfl (Sub.cons rfl (Sub.cons rfl Sub.nil))), rfl⟩
    ·
      rintro E σ ⟨hsub1, rfl⟩
      have hm := hk1
      refine CW.weak ?_ hsub1
      refine CW.cond rfl (fun hb3 => ?_) (fun hb3 => ?_)
      ·
        have hm := ift hm hb3
        refine CW.seq ?_
        refine CW.region ?_
        refine RW.p rfl rfl rfl (Yp.assign rfl rfl) ?_
        refine RW.nil ?_
        refine CW.ret ?_
        cases hm
        exact fin1 (.inr rfl) rfl (ResIs.tmp rfl) (List.nil_sublist _) ⟨rfl, rfl⟩
      ·
        have hm := iff' hm hb3
        refine CW.skip ?_
        refine CW.seq ?_
        obtain ⟨c2, hs2, hk2⟩ := bnd hm
        refine CW.cut (fun E σ => Sub [(4, .b c2)] E ∧ σ = []) ?_ ?_
        ·
          have hm := hs2
          obtain ⟨x4, hx4, hm⟩ := bnd hm
          obtain ⟨x5, hx5, hm⟩ := bnd hm
          rcases Bool.eq_false_or_eq_true (x4 == x5) with hb4 | hb4
          ·
            have hm := ift hm hb4
            obtain ⟨x6, hx6, hm⟩ := bnd hm
            obtain ⟨x7, hx7, hm⟩ := bnd hm
            rcases Bool.eq_false_or_eq_true (x6 == x7) with hb5 | hb5
            ·
              have hm := ift hm hb5
              obtain ⟨x8, hx8, hm⟩ := bnd hm
              obtain ⟨x9, hx9, hm⟩ := bnd hm
              refine CW.drawSel 21 rfl [0, 0] [] [.box b1 26 [.sl 1 (cL 1 (cN .u8)) p0.fDurable, .sl 2 Write.cells p0.fPending, .i p0.fLeft, .b p0.fDown], .box b2 26 [.sl 1 (cL 1 (cN .u8)) p1.fDurable, .sl 2 Write.cells p1.fPending, .i p1.fLeft, .b p1.fDown]] rfl (by kernel_rfl) ?_
              intro A1 w1 hB1
              refine RH.take 0 rfl (by kernel_rfl) rfl rfl rfl hB1 (Yp.loadBN 0 rfl rfl rfl many26 (Nat.le_of_ble_eq_true rfl)) ?_
              refine RH.take 2 rfl (by kernel_rfl) rfl rfl rfl hB1 (Yp.loadBN 0 rfl rfl rfl many26 (Nat.le_of_ble_eq_true rfl)) ?_
              refine RH.one 1 (by kernel_rfl) ?_
              refine RO.c rfl rfl rfl rfl rfl (Yc.fnV (σp := []) (args' := [.agg [.sl 1 (cL 1 (cN .u8)) ((Disk.mk p0.fDurable p0.fPending p0.fLeft p0.fDown).fDurable), .sl 2 Write.cells ((Disk.mk p0.fDurable p0.fPending p0.fLeft p0.fDown).fPending), .i ((Disk.mk p0.fDurable p0.fPending p0.fLeft p0.fDown).fLeft), .b ((Disk.mk p0.fDurable p0.fPending p0.fLeft p0.fDown).fDown)]]) rfl rfl ok13 rfl rfl rfl (VwL.id _) (m13_ok (Disk.mk p0.fDurable p0.fPending p0.fLeft p0.fDown) hx4)) (fun b hb => absurd hb (by simp [blks])) ?_
              rintro _ _ ⟨_, ⟨rfl, rfl⟩, rfl⟩
              refine RH.one 3 (by kernel_rfl) ?_
              refine RO.c rfl rfl rfl rfl rfl (Yc.fnV (σp := []) (args' := [.agg [.sl 1 (cL 1 (cN .u8)) ((Disk.mk p0.fDurable p0.fPending p0.fLeft p0.fDown).fDurable), .sl 2 Write.cells ((Disk.mk p0.fDurable p0.fPending p0.fLeft p0.fDown).fPending), .i ((Disk.mk p0.fDurable p0.fPending p0.fLeft p0.fDown).fLeft), .b ((Disk.mk p0.fDurable p0.fPending p0.fLeft p0.fDown).fDown)]]) rfl rfl ok25 rfl rfl rfl (VwL.id _) (m25_ok (Disk.mk p0.fDurable p0.fPending p0.fLeft p0.fDown) hx5)) (fun b hb => absurd hb (by simp [blks])) ?_
              rintro _ _ ⟨_, ⟨rfl, rfl⟩, rfl⟩
              refine RH.one 4 (by kernel_rfl) ?_
              refine RO.p rfl rfl rfl rfl rfl (Yp.beql rfl Try.underlying4 rfl rfl) ?_
              refine RH.one 5 (by kernel_rfl) ?_
              refine RO.p rfl rfl rfl rfl rfl (Yp.move rfl rfl) ?_
              refine RH.eqv' 20 rfl (congrArg AV.b hb4) ?_
              refine RH.take 6 rfl (by kernel_rfl) rfl rfl rfl hB1 (Yp.loadBN 0 rfl rfl rfl many26 (Nat.le_of_ble_eq_true rfl)) ?_
              refine RH.take 7 rfl (by kernel_rfl) rfl rfl rfl hB1 (Yp.loadBN 1 rfl rfl rfl many26 (Nat.le_of_ble_eq_true rfl)) ?_
              refine RH.take 9 rfl (by kernel_rfl) rfl rfl rfl hB1 (Yp.loadBN 0 rfl rfl rfl many26 (Nat.le_of_ble_eq_true rfl)) ?_
              refine RH.take 10 rfl (by kernel_rfl) rfl rfl rfl hB1 (Yp.loadBN 1 rfl rfl rfl many26 (Nat.le_of_ble_eq_true rfl)) ?_
              refine RH.one 8 (by kernel_rfl) ?_
              refine RO.c rfl rfl rfl rfl rfl (Yc.fnV (σp := []) (args' := [.agg [.sl 1 (cL 1 (cN .u8)) ((Disk.mk p0.fDurable p0.fPending p0.fLeft p0.fDown).fDurable), .sl 2 Write.cells ((Disk.mk p0.fDurable p0.fPending p0.fLeft p0.fDown).fPending), .i ((Disk.mk p0.fDurable p0.fPending p0.fLeft p0.fDown).fLeft), .b ((Disk.mk p0.fDurable p0.fPending p0.fLeft p0.fDown).fDown)], .agg [.sl 1 (cL 1 (cN .u8)) ((Disk.mk p1.fDurable p1.fPending p1.fLeft p1.fDown).fDurable), .sl 2 Write.cells ((Disk.mk p1.fDurable p1.fPending p1.fLeft p1.fDown).fPending), .i ((Disk.mk p1.fDurable p1.fPending p1.fLeft p1.fDown).fLeft), .b ((Disk.mk p1.fDurable p1.fPending p1.fLeft p1.fDown).fDown)]]) rfl rfl ok29 rfl rfl rfl (VwL.id _) (m29_ok (Disk.mk p0.fDurable p0.fPending p0.fLeft p0.fDown) (Disk.mk p1.fDurable p1.fPending p1.fLeft p1.fDown) hx6)) (fun b hb => absurd hb (by simp [blks])) ?_
              rintro _ _ ⟨_, ⟨rfl, rfl⟩, rfl⟩
              refine RH.one 11 (by kernel_rfl) ?_
              refine RO.c rfl rfl rfl rfl rfl (Yc.fnV (σp := []) (args' := [.agg [.sl 1 (cL 1 (cN .u8)) ((Disk.mk p0.fDurable p0.fPending p0.fLeft p0.fDown).fDurable), .sl 2 Write.cells ((Disk.mk p0.fDurable p0.fPending p0.fLeft p0.fDown).fPending), .i ((Disk.mk p0.fDurable p0.fPending p0.fLeft p0.fDown).fLeft), .b ((Disk.mk p0.fDurable p0.fPending p0.fLeft p0.fDown).fDown)], .agg [.sl 1 (cL 1 (cN .u8)) ((Disk.mk p1.fDurable p1.fPending p1.fLeft p1.fDown).fDurable), .sl 2 Write.cells ((Disk.mk p1.fDurable p1.fPending p1.fLeft p1.fDown).fPending), .i ((Disk.mk p1.fDurable p1.fPending p1.fLeft p1.fDown).fLeft), .b ((Disk.mk p1.fDurable p1.fPending p1.fLeft p1.fDown).fDown)]]) rfl rfl ok21 rfl rfl rfl (VwL.id _) (m21_ok (Disk.mk p0.fDurable p0.fPending p0.fLeft p0.fDown) (Disk.mk p1.fDurable p1.fPending p1.fLeft p1.fDown) hx7)) (fun b hb => absurd hb (by simp [blks])) ?_
              rintro _ _ ⟨_, ⟨rfl, rfl⟩, rfl⟩
              refine RH.one 12 (by kernel_rfl) ?_
              refine RO.p rfl rfl rfl rfl rfl (Yp.beql rfl Try.underlying4 rfl rfl) ?_
              refine RH.one 13 (by kernel_rfl) ?_
              refine RO.p rfl rfl rfl rfl rfl (Yp.pickT rfl rfl rfl) ?_
              refine RH.one 14 (by kernel_rfl) ?_
              refine RO.p rfl rfl rfl rfl rfl (Yp.move rfl rfl) ?_
              refine RH.eqv' 29 rfl (congrArg AV.b hb5) ?_
              refine RH.take 15 rfl (by kernel_rfl) rfl rfl rfl hB1 (Yp.loadBN 0 rfl rfl rfl many26 (Nat.le_of_ble_eq_true rfl)) ?_
              refine RH.take 16 rfl (by kernel_rfl) rfl rfl rfl hB1 (Yp.loadBN 0 rfl rfl rfl many26 (Nat.le_of_ble_eq_true rfl)) ?_
              refine RH.one 17 (by kernel_rfl) ?_
              refine RO.c rfl rfl rfl rfl rfl (Yc.fnV (σp := []) (args' := [.agg [.sl 1 (cL 1 (cN .u8)) ((Disk.mk p0.fDurable p0.fPending p0.fLeft p0.fDown).fDurable), .sl 2 Write.cells ((Disk.mk p0.fDurable p0.fPending p0.fLeft p0.fDown).fPending), .i ((Disk.mk p0.fDurable p0.fPending p0.fLeft p0.fDown).fLeft), .b ((Disk.mk p0.fDurable p0.fPending p0.fLeft p0.fDown).fDown)]]) rfl rfl ok30 rfl rfl rfl (VwL.id _) (m30_ok (Disk.mk p0.fDurable p0.fPending p0.fLeft p0.fDown) hx8)) (fun b hb => absurd hb (by simp [blks])) ?_
              rintro _ _ ⟨_, ⟨rfl, rfl⟩, rfl⟩
              refine RH.one 18 (by kernel_rfl) ?_
              refine RO.c rfl rfl rfl rfl rfl (Yc.fnV (σp := []) (args' := [.agg [.sl 1 (cL 1 (cN .u8)) ((Disk.mk p0.fDurable p0.fPending p0.fLeft p0.fDown).fDurable), .sl 2 Write.cells ((Disk.mk p0.fDurable p0.fPending p0.fLeft p0.fDown).fPending), .i ((Disk.mk p0.fDurable p0.fPending p0.fLeft p0.fDown).fLeft), .b ((Disk.mk p0.fDurable p0.fPending p0.fLeft p0.fDown).fDown)], .agg [.sl 1 (cL 1 (cN .u8)) x8.fDurable, .sl 2 Write.cells x8.fPending, .i x8.fLeft, .b x8.fDown]]) rfl rfl ok29 rfl rfl rfl (VwL.id _) (m29_ok (Disk.mk p0.fDurable p0.fPending p0.fLeft p0.fDown) x8 hx9)) (fun b hb => absurd hb (by simp [blks])) ?_
              rintro _ _ ⟨_, ⟨rfl, rfl⟩, rfl⟩
              refine RH.one 19 (by kernel_rfl) ?_
              refine RO.p rfl rfl rfl rfl rfl (Yp.pickT rfl rfl rfl) ?_
              refine RH.one 20 (by kernel_rfl) ?_
              refine RO.p rfl rfl rfl rfl rfl (Yp.assign rfl rfl) ?_
              refine RH.sel [] rfl ?_
              refine RH.done (by kernel_rfl) ?_
              cases hm
              exact ⟨(Sub.cons rfl Sub.nil), rfl⟩
            ·
              have hm := iff' hm hb5
              refine CW.drawSel 21 rfl [0, 0] [] [.box b1 26 [.sl 1 (cL 1 (cN .u8)) p0.fDurable, .sl 2 Write.cells p0.fPending, .i p0.fLeft, .b p0.fDown], .box b2 26 [.sl 1 (cL 1 (cN .u8)) p1.fDurable, .sl 2 Write.cells p1.fPending, .i p1.fLeft, .b p1.fDown]] rfl (by kernel_rfl) ?_
              intro A2 w2 hB2
              refine RH.take 0 rfl (by kernel_rfl) rfl rfl rfl hB2 (Yp.loadBN 0 rfl rfl rfl many26 (Nat.le_of_ble_eq_true rfl)) ?_
              refine RH.take 2 rfl (by kernel_rfl) rfl rfl rfl hB2 (Yp.loadBN 0 rfl rfl rfl many26 (Nat.le_of_ble_eq_true rfl)) ?_
              refine RH.one 1 (by kernel_rfl) ?_
              refine RO.c rfl rfl rfl rfl rfl (Yc.fnV (σp := []) (args' := [.agg [.sl 1 (cL 1 (cN .u8)) ((Disk.mk p0.fDurable p0.fPending p0.fLeft p0.fDown).fDurable), .sl 2 Write.cells ((Disk.mk p0.fDurable p0.fPending p0.fLeft p0.fDown).fPending), .i ((Disk.mk p0.fDurable p0.fPending p0.fLeft p0.fDown).fLeft), .b ((Disk.mk p0.fDurable p0.fPending p0.fLeft p0.fDown).fDown)]]) rfl rfl ok13 rfl rfl rfl (VwL.id _) (m13_ok (Disk.mk p0.fDurable p0.fPending p0.fLeft p0.fDown) hx4)) (fun b hb => absurd hb (by simp [blks])) ?_
              rintro _ _ ⟨_, ⟨rfl, rfl⟩, rfl⟩
              refine RH.one 3 (by kernel_rfl) ?_
              refine RO.c rfl rfl rfl rfl rfl (Yc.fnV (σp := []) (args' := [.agg [.sl 1 (cL 1 (cN .u8)) ((Disk.mk p0.fDurable p0.fPending p0.fLeft p0.fDown).fDurable), .sl 2 Write.cells ((Disk.mk p0.fDurable p0.fPending p0.fLeft p0.fDown).fPending), .i ((Disk.mk p0.fDurable p0.fPending p0.fLeft p0.fDown).fLeft), .b ((Disk.mk p0.fDurable p0.fPending p0.fLeft p0.fDown).fDown)]]) rfl rfl ok25 rfl rfl rfl (VwL.id _) (m25_ok (Disk.mk p0.fDurable p0.fPending p0.fLeft p0.fDown) hx5)) (fun b hb => absurd hb (by simp [blks])) ?_
              rintro _ _ ⟨_, ⟨rfl, rfl⟩, rfl⟩
              refine RH.one 4 (by kernel_rfl) ?_
              refine RO.p rfl rfl rfl rfl rfl (Yp.beql rfl Try.underlying4 rfl rfl) ?_
              refine RH.one 5 (by kernel_rfl) ?_
              refine RO.p rfl rfl rfl rfl rfl (Yp.move rfl rfl) ?_
              refine RH.eqv' 20 rfl (congrArg AV.b hb4) ?_
              refine RH.take 6 rfl (by kernel_rfl) rfl rfl rfl hB2 (Yp.loadBN 0 rfl rfl rfl many26 (Nat.le_of_ble_eq_true rfl)) ?_
              refine RH.take 7 rfl (by kernel_rfl) rfl rfl rfl hB2 (Yp.loadBN 1 rfl rfl rfl many26 (Nat.le_of_ble_eq_true rfl)) ?_
              refine RH.take 9 rfl (by kernel_rfl) rfl rfl rfl hB2 (Yp.loadBN 0 rfl rfl rfl many26 (Nat.le_of_ble_eq_true rfl)) ?_
              refine RH.take 10 rfl (by kernel_rfl) rfl rfl rfl hB2 (Yp.loadBN 1 rfl rfl rfl many26 (Nat.le_of_ble_eq_true rfl)) ?_
              refine RH.one 8 (by kernel_rfl) ?_
              refine RO.c rfl rfl rfl rfl rfl (Yc.fnV (σp := []) (args' := [.agg [.sl 1 (cL 1 (cN .u8)) ((Disk.mk p0.fDurable p0.fPending p0.fLeft p0.fDown).fDurable), .sl 2 Write.cells ((Disk.mk p0.fDurable p0.fPending p0.fLeft p0.fDown).fPending), .i ((Disk.mk p0.fDurable p0.fPending p0.fLeft p0.fDown).fLeft), .b ((Disk.mk p0.fDurable p0.fPending p0.fLeft p0.fDown).fDown)], .agg [.sl 1 (cL 1 (cN .u8)) ((Disk.mk p1.fDurable p1.fPending p1.fLeft p1.fDown).fDurable), .sl 2 Write.cells ((Disk.mk p1.fDurable p1.fPending p1.fLeft p1.fDown).fPending), .i ((Disk.mk p1.fDurable p1.fPending p1.fLeft p1.fDown).fLeft), .b ((Disk.mk p1.fDurable p1.fPending p1.fLeft p1.fDown).fDown)]]) rfl rfl ok29 rfl rfl rfl (VwL.id _) (m29_ok (Disk.mk p0.fDurable p0.fPending p0.fLeft p0.fDown) (Disk.mk p1.fDurable p1.fPending p1.fLeft p1.fDown) hx6)) (fun b hb => absurd hb (by simp [blks])) ?_
              rintro _ _ ⟨_, ⟨rfl, rfl⟩, rfl⟩
              refine RH.one 11 (by kernel_rfl) ?_
              refine RO.c rfl rfl rfl rfl rfl (Yc.fnV (σp := []) (args' := [.agg [.sl 1 (cL 1 (cN .u8)) ((Disk.mk p0.fDurable p0.fPending p0.fLeft p0.fDown).fDurable), .sl 2 Write.cells ((Disk.mk p0.fDurable p0.fPending p0.fLeft p0.fDown).fPending), .i ((Disk.mk p0.fDurable p0.fPending p0.fLeft p0.fDown).fLeft), .b ((Disk.mk p0.fDurable p0.fPending p0.fLeft p0.fDown).fDown)], .agg [.sl 1 (cL 1 (cN .u8)) ((Disk.mk p1.fDurable p1.fPending p1.fLeft p1.fDown).fDurable), .sl 2 Write.cells ((Disk.mk p1.fDurable p1.fPending p1.fLeft p1.fDown).fPending), .i ((Disk.mk p1.fDurable p1.fPending p1.fLeft p1.fDown).fLeft), .b ((Disk.mk p1.fDurable p1.fPending p1.fLeft p1.fDown).fDown)]]) rfl rfl ok21 rfl rfl rfl (VwL.id _) (m21_ok (Disk.mk p0.fDurable p0.fPending p0.fLeft p0.fDown) (Disk.mk p1.fDurable p1.fPending p1.fLeft p1.fDown) hx7)) (fun b hb => absurd hb (by simp [blks])) ?_
              rintro _ _ ⟨_, ⟨rfl, rfl⟩, rfl⟩
              refine RH.one 12 (by kernel_rfl) ?_
              refine RO.p rfl rfl rfl rfl rfl (Yp.beql rfl Try.underlying4 rfl rfl) ?_
              refine RH.one 13 (by kernel_rfl) ?_
              refine RO.p rfl rfl rfl rfl rfl (Yp.pickT rfl rfl rfl) ?_
              refine RH.one 14 (by kernel_rfl) ?_
              refine RO.p rfl rfl rfl rfl rfl (Yp.move rfl rfl) ?_
              refine RH.eqv' 29 rfl (congrArg AV.b hb5) ?_
              refine RH.pass 15 rfl (by kernel_rfl) rfl rfl rfl ?_
              refine RH.pass 16 rfl (by kernel_rfl) rfl rfl rfl ?_
              refine RH.pass 17 rfl (by kernel_rfl) rfl rfl rfl ?_
              refine RH.pass 18 rfl (by kernel_rfl) rfl rfl rfl ?_
              refine RH.one 19 (by kernel_rfl) ?_
              refine RO.p rfl rfl rfl rfl rfl (Yp.pickF rfl rfl rfl) ?_
              refine RH.one 20 (by kernel_rfl) ?_
              refine RO.p rfl rfl rfl rfl rfl (Yp.assign rfl rfl) ?_
              refine RH.sel [] rfl ?_
              refine RH.done (by kernel_rfl) ?_
              cases hm
              exact ⟨(Sub.cons rfl Sub.nil), rfl⟩
          ·
            have hm := iff' hm hb4
            refine CW.drawSel 21 rfl [0, 0] [] [.box b1 26 [.sl 1 (cL 1 (cN .u8)) p0.fDurable, .sl 2 Write.cells p0.fPending, .i p0.fLeft, .b p0.fDown], .box b2 26 [.sl 1 (cL 1 (cN .u8)) p1.fDurable, .sl 2 Write.cells p1.fPending, .i p1.fLeft, .b p1.fDown]] rfl (by kernel_rfl) ?_
            intro A3 w3 hB3
            refine RH.take 0 rfl (by kernel_rfl) rfl rfl rfl hB3 (Yp.loadBN 0 rfl rfl rfl many26 (Nat.le_of_ble_eq_true rfl)) ?_
            refine RH.take 2 rfl (by kernel_rfl) rfl rfl rfl hB3 (Yp.loadBN 0 rfl rfl rfl many26 (Nat.le_of_ble_eq_true rfl)) ?_
            refine RH.one 1 (by kernel_rfl) ?_
            refine RO.c rfl rfl rfl rfl rfl (Yc.fnV (σp := []) (args' := [.agg [.sl 1 (cL 1 (cN .u8)) ((Disk.mk p0.fDurable p0.fPending p0.fLeft p0.fDown).fDurable), .sl 2 Write.cells ((Disk.mk p0.fDurable p0.fPending p0.fLeft p0.fDown).fPending), .i ((Disk.mk p0.fDurable p0.fPending p0.fLeft p0.fDown).fLeft), .b ((Disk.mk p0.fDurable p0.fPending p0.fLeft p0.fDown).fDown)]]) rfl rfl ok13 rfl rfl rfl (VwL.id _) (m13_ok (Disk.mk p0.fDurable p0.fPending p0.fLeft p0.fDown) hx4)) (fun b hb => absurd hb (by simp [blks])) ?_
            rintro _ _ ⟨_, ⟨rfl, rfl⟩, rfl⟩
            refine RH.one 3 (by kernel_rfl) ?_
            refine RO.c rfl rfl rfl rfl rfl (Yc.fnV (σp := []) (args' := [.agg [.sl 1 (cL 1 (cN .u8)) ((Disk.mk p0.fDurable p0.fPending p0.fLeft p0.fDown).fDurable), .sl 2 Write.cells ((Disk.mk p0.fDurable p0.fPending p0.fLeft p0.fDown).fPending), .i ((Disk.mk p0.fDurable p0.fPending p0.fLeft p0.fDown).fLeft), .b ((Disk.mk p0.fDurable p0.fPending p0.fLeft p0.fDown).fDown)]]) rfl rfl ok25 rfl rfl rfl (VwL.id _) (m25_ok (Disk.mk p0.fDurable p0.fPending p0.fLeft p0.fDown) hx5)) (fun b hb => absurd hb (by simp [blks])) ?_
            rintro _ _ ⟨_, ⟨rfl, rfl⟩, rfl⟩
            refine RH.one 4 (by kernel_rfl) ?_
            refine RO.p rfl rfl rfl rfl rfl (Yp.beql rfl Try.underlying4 rfl rfl) ?_
            refine RH.one 5 (by kernel_rfl) ?_
            refine RO.p rfl rfl rfl rfl rfl (Yp.move rfl rfl) ?_
            refine RH.eqv' 20 rfl (congrArg AV.b hb4) ?_
            refine RH.pass 6 rfl (by kernel_rfl) rfl rfl rfl ?_
            refine RH.pass 7 rfl (by kernel_rfl) rfl rfl rfl ?_
            refine RH.pass 8 rfl (by kernel_rfl) rfl rfl rfl ?_
            refine RH.pass 9 rfl (by kernel_rfl) rfl rfl rfl ?_
            refine RH.pass 10 rfl (by kernel_rfl) rfl rfl rfl ?_
            refine RH.pass 11 rfl (by kernel_rfl) rfl rfl rfl ?_
            refine RH.pass 12 rfl (by kernel_rfl) rfl rfl rfl ?_
            refine RH.one 13 (by kernel_rfl) ?_
            refine RO.p rfl rfl rfl rfl rfl (Yp.pickF rfl rfl rfl) ?_
            refine RH.one 14 (by kernel_rfl) ?_
            refine RO.p rfl rfl rfl rfl rfl (Yp.move rfl rfl) ?_
            refine RH.pass 15 rfl (by kernel_rfl) rfl rfl rfl ?_
            refine RH.pass 16 rfl (by kernel_rfl) rfl rfl rfl ?_
            refine RH.pass 17 rfl (by kernel_rfl) rfl rfl rfl ?_
            refine RH.pass 18 rfl (by kernel_rfl) rfl rfl rfl ?_
            refine RH.one 19 (by kernel_rfl) ?_
            refine RO.p rfl rfl rfl rfl rfl (Yp.pickF rfl rfl rfl) ?_
            refine RH.one 20 (by kernel_rfl) ?_
            refine RO.p rfl rfl rfl rfl rfl (Yp.assign rfl rfl) ?_
            refine RH.sel [] rfl ?_
            refine RH.done (by kernel_rfl) ?_
            cases hm
            exact ⟨(Sub.cons rfl Sub.nil), rfl⟩
        ·
          rintro E σ ⟨hsub2, rfl⟩
          have hm := hk2
          refine CW.weak ?_ hsub2
          refine CW.ret ?_
          cases hm
          exact fin1 (.inr rfl) rfl (ResIs.tmp rfl) (List.nil_sublist _) ⟨rfl, rfl⟩


end Go.Proofs.Ytfipaakafcjjhaa
